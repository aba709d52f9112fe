/- A small logic of this session's own over the kit's rules: what a Go function's variables and blocks hold is told by plain lists and numbers (a 'state'); each rule says what a step makes of a state, whatever the world. This text: kinds of data, values, and how memory holds them. -/
import Derived.Test.YtfjdhdmbbfeigaaProg
import Derived.Calls
import Derived.Control
import Derived.Orders
import Derived.Tactics
import Derived.KernelRfl
import Derived.Maps.AppendAt
import Derived.Laws.MakeOwn
import Derived.Lib.AppendZeros
import Derived.RangeFuncOwn
import Derived.OrdersIn
import Derived.TacticsIn
namespace Go.Proofs.Ytfjdhdmbbfeigaa.Am
set_option linter.unusedVariables false
set_option linter.unusedSimpArgs false

/-- Kinds of plain data. -/
inductive Ty where
  | int (k : IntKind) | bool | str | sl (e : Ty) | pr (a b : Ty)
namespace Ty
@[reducible] def D : Ty → Type
  | .int _ => Int | .bool => Bool | .str => ByteArray | .sl e => List e.D | .pr a b => a.D × b.D
def sz : Ty → Nat
  | .pr a b => a.sz + b.sz | _ => 1
def d0 : (t : Ty) → t.D
  | .int _ => (0 : Int) | .bool => false | .str => ByteArray.empty | .sl _ => [] | .pr a b => (a.d0, b.d0)
theorem sz_pos : ∀ t : Ty, 0 < t.sz
  | .int _ | .bool | .str | .sl _ => Nat.one_pos
  | .pr a b => by have := sz_pos a; simp only [sz]; omega
end Ty
/-- An element of a list, by a number. -/
def at_ (t : Ty) (l : List t.D) (i : Int) : t.D := l.getD i.toNat t.d0

/-- Two lists, element by element. -/
def F2 {α β : Type} (R : α → β → Prop) : List α → List β → Prop
  | [], [] => True
  | a :: ar, b :: bs => R a b ∧ F2 R ar bs
  | _, _ => False
namespace F2
variable {α β γ : Type} {R R' : α → β → Prop}
theorem len : ∀ {ar : List α} {bs : List β}, F2 R ar bs → ar.length = bs.length
  | [], [], _ => rfl
  | _ :: _, _ :: _, h => congrArg Nat.succ (len h.2)
  | [], _ :: _, h => h.elim
  | _ :: _, [], h => h.elim
theorem imp (hR : ∀ a b, R a b → R' a b) : ∀ {ar : List α} {bs : List β}, F2 R ar bs → F2 R' ar bs
  | [], [], _ => trivial
  | _ :: _, _ :: _, h => ⟨hR _ _ h.1, imp hR h.2⟩
  | [], _ :: _, h => h.elim
  | _ :: _, [], h => h.elim
theorem imp_mem : ∀ {ar : List α} {bs : List β}, (∀ a ∈ ar, ∀ b, R a b → R' a b) → F2 R ar bs → F2 R' ar bs
  | [], [], _, _ => trivial
  | _ :: _, _ :: _, hR, h => ⟨hR _ List.mem_cons_self _ h.1, imp_mem (fun a ha => hR a (List.mem_cons_of_mem _ ha)) h.2⟩
  | [], _ :: _, _, h => h.elim
  | _ :: _, [], _, h => h.elim
theorem get : ∀ {ar : List α} {bs : List β}, F2 R ar bs → ∀ (i : Nat) {a : α}, ar[i]? = some a → ∃ b, bs[i]? = some b ∧ R a b
  | _ :: _, b :: _, h, 0, a, e => ⟨b, rfl, by cases e; exact h.1⟩
  | _ :: _, _ :: _, h, i + 1, a, e => get h.2 i e
  | [], [], _, _, _, e => by simp at e
  | [], _ :: _, h, _, _, _ => h.elim
  | _ :: _, [], h, _, _, _ => h.elim
theorem get' : ∀ {ar : List α} {bs : List β}, F2 R ar bs → ∀ (i : Nat) {b : β}, bs[i]? = some b → ∃ a, ar[i]? = some a ∧ R a b
  | a :: _, _ :: _, h, 0, b, e => ⟨a, rfl, by cases e; exact h.1⟩
  | _ :: _, _ :: _, h, i + 1, b, e => get' h.2 i e
  | [], [], _, _, _, e => by simp at e
  | [], _ :: _, h, _, _, _ => h.elim
  | _ :: _, [], h, _, _, _ => h.elim
theorem app : ∀ {ar ar' : List α} {bs bs' : List β}, F2 R ar bs → F2 R ar' bs' → F2 R (ar ++ ar') (bs ++ bs')
  | [], _, [], _, _, h' => h'
  | _ :: _, _, _ :: _, _, h, h' => ⟨h.1, app h.2 h'⟩
  | [], _, _ :: _, _, h, _ => h.elim
  | _ :: _, _, [], _, h, _ => h.elim
theorem drop : ∀ (n : Nat) {ar : List α} {bs : List β}, F2 R ar bs → F2 R (ar.drop n) (bs.drop n)
  | 0, _, _, h => h
  | n + 1, [], [], _ => trivial
  | n + 1, _ :: _, _ :: _, h => drop n h.2
  | _ + 1, [], _ :: _, h => h.elim
  | _ + 1, _ :: _, [], h => h.elim
theorem take : ∀ (n : Nat) {ar : List α} {bs : List β}, F2 R ar bs → F2 R (ar.take n) (bs.take n)
  | 0, _, _, _ => trivial
  | n + 1, [], [], _ => trivial
  | n + 1, _ :: _, _ :: _, h => ⟨h.1, take n h.2⟩
  | _ + 1, [], _ :: _, h => h.elim
  | _ + 1, _ :: _, [], h => h.elim
theorem set : ∀ {ar : List α} {bs : List β} (i : Nat) {a : α} {b : β}, F2 R ar bs → R a b → F2 R (ar.set i a) (bs.set i b)
  | [], [], _, _, _, _, _ => trivial
  | _ :: _, _ :: _, 0, _, _, h, r => ⟨r, h.2⟩
  | _ :: _, _ :: _, i + 1, _, _, h, r => ⟨h.1, set i h.2 r⟩
  | [], _ :: _, _, _, _, h, _ => h.elim
  | _ :: _, [], _, _, _, h, _ => h.elim
theorem map (f : γ → α) : ∀ {cs : List γ} {bs : List β}, F2 (fun c b => R (f c) b) cs bs → F2 R (cs.map f) bs
  | [], [], _ => trivial
  | _ :: _, _ :: _, h => ⟨h.1, map f h.2⟩
  | [], _ :: _, h => h.elim
  | _ :: _, [], h => h.elim
end F2

/-- Where names of blocks lie, how many cells they have, how long the slices are that are theirs, which of them are nil, and which blocks are read alone and stay as they are. -/
structure Mp where
  mu : Nat → Nat
  ka : Nat → Nat
  le : Nat → Nat
  nl : Nat → Bool
  S : Nat → Prop

/-- A slice that is read: its elements' cells are as K says, in blocks that stay. -/
def Row {α : Type} (sz : Nat) (K : α → List Value → Prop) (w : World) (S : Nat → Prop) (A : Option Addr) (c : Nat) (l : List α) : Prop :=
  l.length ≤ c ∧ l.length ≤ 9223372036854775807 ∧ (0 < l.length → ∃ ad, A = some ad ∧ S ad.block ∧ ∀ j p, l[j]? = some p → ∃ cs, K p cs ∧ ∀ i u, cs[i]? = some u → w.cell? (ad.add (j * sz + i)) = some u)
/-- What cells hold a plain datum. -/
def Ty.K (w : World) (S : Nat → Prop) : (t : Ty) → t.D → List Value → Prop
  | .int k, (n : Int), cs => cs = [.int k n]
  | .bool, (b : Bool), cs => cs = [.bool b]
  | .str, (s : ByteArray), cs => cs = [.string s]
  | .sl e, (l : List e.D), cs => ∃ A c, cs = [.slice A l.length c] ∧ Row e.sz (Ty.K w S e) w S A c l
  | .pr a b, x, cs => ∃ c1 c2, cs = c1 ++ c2 ∧ Ty.K w S a x.1 c1 ∧ Ty.K w S b x.2 c2
theorem Ty.K_len {w : World} {S : Nat → Prop} : ∀ (t : Ty) {x : t.D} {cs : List Value}, Ty.K w S t x cs → cs.length = t.sz
  | .int _, _, _, h | .bool, _, _, h | .str, _, _, h => by rw [show _ = _ from h]; rfl
  | .sl e, _, _, ⟨_, _, h, _⟩ => by rw [h]; rfl
  | .pr a b, _, _, ⟨_, _, h, h1, h2⟩ => by rw [h, List.length_append, K_len a h1, K_len b h2]; rfl
theorem Ty.K_one {w : World} {S : Nat → Prop} : ∀ (t : Ty) {x : t.D} {cs : List Value}, Ty.K w S t x cs → ∀ u ∈ cs, u.oneCell' = true
  | .int _, _, _, h, u, hu | .bool, _, _, h, u, hu | .str, _, _, h, u, hu => by rw [show _ = _ from h] at hu; simp at hu; subst hu; rfl
  | .sl e, _, _, ⟨_, _, h, _⟩, u, hu => by rw [h] at hu; simp at hu; subst hu; rfl
  | .pr a b, _, _, ⟨_, _, h, h1, h2⟩, u, hu => by
    rw [h] at hu
    rcases List.mem_append.1 hu with hu | hu
    · exact K_one a h1 u hu
    · exact K_one b h2 u hu
/-- The blocks of S are the same in both worlds. -/
def Still (S : Nat → Prop) (w w' : World) : Prop := ∀ k, S k → w'.heap[k]? = w.heap[k]?
theorem Still.cell {S : Nat → Prop} {w w' : World} (h : Still S w w') {a : Addr} (ha : S a.block) : w'.cell? a = w.cell? a := by
  unfold World.cell?
  rw [h _ ha]
theorem add_block (a : Addr) (n : Nat) : (a.add n).block = a.block := by unfold Addr.add; split <;> rfl
theorem add_add (a : Addr) (m n : Nat) : (a.add m).add n = a.add (m + n) := by
  unfold Addr.add
  by_cases hm : m = 0
  · subst hm; simp
  · rw [if_neg hm]
    by_cases hn : n = 0
    · subst hn; simp [hm]
    · rw [if_neg hn, if_neg (by omega)]
      simp [Nat.add_assoc]
theorem add_plain (b o n : Nat) : (⟨b, o, none⟩ : Addr).add n = ⟨b, o + n, none⟩ := by
  unfold Addr.add
  split
  · rename_i h; subst h; rfl
  · rfl
theorem Row.still {α : Type} {sz : Nat} {K K' : α → List Value → Prop} {w w' : World} {S S' : Nat → Prop} {A : Option Addr} {c : Nat} {l : List α} (h : Row sz K w S A c l) (hw : Still S w w') (hS : ∀ k, S k → S' k) (hK : ∀ p cs, K p cs → K' p cs) : Row sz K' w' S' A c l := by
  obtain ⟨h1, h2, h3⟩ := h
  refine ⟨h1, h2, fun h0 => ?_⟩
  obtain ⟨ad, e, hs, hc⟩ := h3 h0
  refine ⟨ad, e, hS _ hs, fun j p hp => ?_⟩
  obtain ⟨cs, hk, hcell⟩ := hc j p hp
  exact ⟨cs, hK _ _ hk, fun i u hu => by rw [hw.cell (by rw [add_block]; exact hs)]; exact hcell i u hu⟩
theorem Ty.K_still {w w' : World} {S S' : Nat → Prop} (hw : Still S w w') (hS : ∀ k, S k → S' k) : ∀ (t : Ty) {x : t.D} {cs : List Value}, Ty.K w S t x cs → Ty.K w' S' t x cs
  | .int _, _, _, h | .bool, _, _, h | .str, _, _, h => h
  | .sl e, _, _, ⟨A, c, h, hr⟩ => ⟨A, c, h, hr.still hw hS (fun _ _ hk => K_still hw hS e hk)⟩
  | .pr a b, _, _, ⟨c1, c2, h, h1, h2⟩ => ⟨c1, c2, h, K_still hw hS a h1, K_still hw hS b h2⟩
theorem Row.take {α : Type} {sz : Nat} {K : α → List Value → Prop} {w : World} {S : Nat → Prop} {A : Option Addr} {c : Nat} {l : List α} (h : Row sz K w S A c l) (n : Nat) : Row sz K w S A c (l.take n) := by
  obtain ⟨h1, h2, h3⟩ := h
  have hl := List.length_take_le n l
  have hl' : (l.take n).length ≤ l.length := by simp; omega
  refine ⟨by omega, by omega, fun h0 => ?_⟩
  obtain ⟨ad, e, hs, hc⟩ := h3 (by omega)
  refine ⟨ad, e, hs, fun j p hp => hc j p ?_⟩
  rw [List.getElem?_take] at hp
  split at hp
  · exact hp
  · simp at hp
theorem Row.drop {α : Type} {sz : Nat} {K : α → List Value → Prop} {w : World} {S : Nat → Prop} {A : Option Addr} {c : Nat} {l : List α} (h : Row sz K w S A c l) (n : Nat) (hn : n ≤ l.length) : Row sz K w S (A.map (·.add (n * sz))) (c - n) (l.drop n) := by
  obtain ⟨h1, h2, h3⟩ := h
  have hl : (l.drop n).length = l.length - n := List.length_drop
  refine ⟨by omega, by omega, fun h0 => ?_⟩
  obtain ⟨ad, e, hs, hc⟩ := h3 (by omega)
  refine ⟨ad.add (n * sz), by rw [e]; rfl, by rw [add_block]; exact hs, fun j p hp => ?_⟩
  rw [List.getElem?_drop] at hp
  obtain ⟨cs, hk, hcell⟩ := hc _ p hp
  refine ⟨cs, hk, fun i u hu => ?_⟩
  rw [add_add, ← hcell i u hu]
  congr 2
  rw [Nat.add_mul]; omega

/-- A range over a function: where its rounds' arguments go, its code, how many temporaries its function has. -/
structure LI where
  ps : List Tmp
  as_ : Code
  bd : Code
  n : Nat
def rangesC : Code → List (Array Tmp × Code × Code)
  | .rangeFunc _ ps x y => [(ps, x, y)]
  | .seq x y => rangesC x ++ rangesC y
  | .cond _ x y => rangesC x ++ rangesC y
  | .block _ x => rangesC x
  | .loop x => rangesC x
  | .scope x => rangesC x
  | _ => []
/-- The ranges over functions of the program, by the function's number (in thousands) and their own. -/
@[irreducible] noncomputable def lt (k : Nat) : LI :=
  match Try.prog.funcs[k / 1000]? with
  | some fn => match fn.body with
    | some c => match (rangesC c)[k % 1000]? with | some (ps, x, y) => ⟨ps.toList, x, y, fn.ntmps⟩ | none => ⟨[], .skip, .skip, 0⟩
    | none => ⟨[], .skip, .skip, 0⟩
  | none => ⟨[], .skip, .skip, 0⟩
/-- How a loop's record stands: 0, ready; below, busy; 1, left by 'ret'; from 2 on, by an exit. -/
def lopS (j : Int) : LoopState := if j = 0 then .ready else if j < 0 then .busy else .done
def lopP (j : Int) : Option Code := if j = 1 then some .ret else if 2 ≤ j then some (.exit (j - 2).toNat) else none
/-- A value of one cell, by names of blocks. -/
inductive SV where
  | int (k : IntKind) (n : Int) | bool (b : Bool) | str (s : ByteArray)
  | row (t : Ty) (l : List t.D) | nilsl
  | own (b sz : Nat) | sub (b sz off len : Nat)
  | ptr (b off : Nat) | nilptr
  | rp (t : Ty) (l : List t.D) (i : Int) (fo : Nat)
  | ep (b sz : Nat) (i : Int) (fo : Nat)
  | map (b : Nat) | nilmap
  | fn (f : FuncId) (cap : List (Nat × Nat)) | nilfn
  | yld (b : Nat) (cap : List Nat)
  | bm (f : FuncId) (b off : Nat)
def SV.R (w : World) (m : Mp) : SV → Value → Prop
  | .int k n, v => v = .int k n
  | .bool b, v => v = .bool b
  | .str s, v => v = .string s
  | .row t l, v => ∃ A c, v = .slice A l.length c ∧ Row t.sz (t.K w m.S) w m.S A c l
  | .nilsl, v => v = .slice none 0 0
  | .own b sz, v => match m.nl b with | true => v = .slice none 0 0 | false => ∃ cap, v = .slice (some ⟨m.mu b, 0, none⟩) (m.le b) cap ∧ m.le b ≤ cap ∧ cap * sz = m.ka b ∧ cap ≤ maxLen
  | .sub b sz off len, v => match m.nl b with | true => v = .slice none 0 0 ∧ len = 0 | false => ∃ o cap, v = .slice (some ⟨m.mu b, o, none⟩) len cap ∧ (len ≤ cap ∧ cap ≤ maxLen ∧ off + len ≤ m.le b) ∧ (0 < cap → o = off * sz ∧ (off + cap) * sz ≤ m.ka b)
  | .ptr b o, v => v = .pointer (some ⟨m.mu b, o, none⟩)
  | .nilptr, v => v = .pointer none
  | .rp t l i fo, v => 0 ≤ i ∧ i < l.length ∧ ∃ A c, v = .pointer (some (A.add (i.toNat * t.sz + fo))) ∧ Row t.sz (t.K w m.S) w m.S (some A) c l
  | .ep b sz i fo, v => 0 ≤ i ∧ i < m.le b ∧ v = .pointer (some ⟨m.mu b, i.toNat * sz + fo, none⟩)
  | .map b, v => v = .map (some (m.mu b))
  | .nilmap, v => v = .map none
  | .fn f cap, v => v = .func (.func f) #[] (cap.map fun p => Value.pointer (some ⟨m.mu p.1, p.2, none⟩)).toArray
  | .nilfn, v => v = .nilFunc
  | .yld b _, v => v = .func (.yield (m.mu b)) #[] #[]
  | .bm f b o, v => v = .func (.func f) #[.pointer (some ⟨m.mu b, o, none⟩)] #[]
/-- The names in a value. -/
def SV.ns : SV → List Nat
  | .own b _ | .sub b _ _ _ | .ptr b _ | .ep b _ _ _ | .map b => [b]
  | .fn _ cap => cap.map (·.1)
  | .yld b cap => b :: cap
  | .bm _ b _ => [b]
  | _ => []
theorem SV.R_one {w : World} {m : Mp} {x : SV} {v : Value} (h : x.R w m v) : v.oneCell' = true := by
  cases x <;> simp only [SV.R] at h
  case row => obtain ⟨_, _, rfl, _⟩ := h; rfl
  case own => split at h; (subst h; rfl); (obtain ⟨_, rfl, _⟩ := h; rfl)
  case sub => split at h; (obtain ⟨rfl, _⟩ := h; rfl); (obtain ⟨_, _, rfl, _⟩ := h; rfl)
  case rp => obtain ⟨_, _, _, _, rfl, _⟩ := h; rfl
  case ep => obtain ⟨_, _, rfl⟩ := h; rfl
  all_goals (subst h; rfl)
/-- One map of names goes on from another one, on names. -/
structure Goes (w w' : World) (m m' : Mp) (ns : Nat → Prop) : Prop where
  still : Still m.S w w'
  sup : ∀ k, m.S k → m'.S k
  mu : ∀ b, ns b → m'.mu b = m.mu b
  ka : ∀ b, ns b → m'.ka b = m.ka b
  le : ∀ b, ns b → m'.le b = m.le b
  nl : ∀ b, ns b → m'.nl b = m.nl b
theorem SV.R_goes {w w' : World} {m m' : Mp} {ns : Nat → Prop} (g : Goes w w' m m' ns) {x : SV} {v : Value} (hn : ∀ b ∈ x.ns, ns b) (h : x.R w m v) : x.R w' m' v := by
  cases x <;> simp only [SV.R] at h ⊢
  case row t l => obtain ⟨A, c, e, hr⟩ := h; exact ⟨A, c, e, hr.still g.still g.sup fun _ _ hk => Ty.K_still g.still g.sup t hk⟩
  case own b sz => rw [g.mu b (hn b (by simp [SV.ns])), g.ka b (hn b (by simp [SV.ns])), g.le b (hn b (by simp [SV.ns])), g.nl b (hn b (by simp [SV.ns]))]; exact h
  case sub b sz off len => rw [g.mu b (hn b (by simp [SV.ns])), g.ka b (hn b (by simp [SV.ns])), g.le b (hn b (by simp [SV.ns])), g.nl b (hn b (by simp [SV.ns]))]; exact h
  case ptr b o => rw [g.mu b (hn b (by simp [SV.ns]))]; exact h
  case rp t l i fo => obtain ⟨h0, h1, A, c, e, hr⟩ := h; exact ⟨h0, h1, A, c, e, hr.still g.still g.sup fun _ _ hk => Ty.K_still g.still g.sup t hk⟩
  case ep b sz i fo => rw [g.mu b (hn b (by simp [SV.ns])), g.le b (hn b (by simp [SV.ns]))]; exact h
  case map b => rw [g.mu b (hn b (by simp [SV.ns]))]; exact h
  case fn f cap =>
    rw [h]
    congr 2
    refine List.map_congr_left fun p hp => ?_
    rw [g.mu p.1 (hn _ (by simp only [SV.ns]; exact List.mem_map_of_mem hp))]
  case yld b cap => rw [g.mu b (hn b (by simp [SV.ns]))]; exact h
  case bm f b o => rw [g.mu b (hn b (by simp [SV.ns]))]; exact h
  all_goals exact h

/-- A value: of one cell, or of many (a struct, an array); several results. -/
structure CV where
  g : Bool
  l : List SV
inductive AV where
  | c (x : CV) | t (xs : List CV)
@[reducible] def V (x : SV) : AV := .c ⟨false, [x]⟩
@[reducible] def G (l : List SV) : AV := .c ⟨true, l⟩
def CV.R (w : World) (m : Mp) (x : CV) (v : Value) : Prop :=
  if x.g = true then ∃ vs, v = .agg vs ∧ F2 (SV.R w m) x.l vs.toList else ∃ y, x.l = [y] ∧ y.R w m v
def AV.R (w : World) (m : Mp) : AV → Value → Prop
  | .c x, v => x.R w m v
  | .t xs, v => ∃ vs, v = .tuple vs ∧ F2 (CV.R w m) xs vs.toList
def CV.ns (x : CV) : List Nat := x.l.flatMap SV.ns
def AV.ns : AV → List Nat
  | .c x => x.ns
  | .t xs => xs.flatMap CV.ns
theorem F2.R_goes {w w' : World} {m m' : Mp} {ns : Nat → Prop} (g : Goes w w' m m' ns) {l : List SV} {vs : List Value} (hn : ∀ b ∈ l.flatMap SV.ns, ns b) (h : F2 (SV.R w m) l vs) : F2 (SV.R w' m') l vs :=
  h.imp_mem fun a ha b r => SV.R_goes g (fun c hc => hn c (List.mem_flatMap.2 ⟨a, ha, hc⟩)) r
theorem CV.R_goes {w w' : World} {m m' : Mp} {ns : Nat → Prop} (g : Goes w w' m m' ns) {x : CV} {v : Value} (hn : ∀ b ∈ x.ns, ns b) (h : x.R w m v) : x.R w' m' v := by
  unfold CV.R at *
  split at h <;> rename_i hg
  · rw [if_pos hg]
    obtain ⟨vs, e, hf⟩ := h
    exact ⟨vs, e, F2.R_goes g hn hf⟩
  · rw [if_neg hg]
    obtain ⟨y, e, hy⟩ := h
    exact ⟨y, e, SV.R_goes g (fun b hb => hn b (by unfold CV.ns; rw [e]; simpa using hb)) hy⟩
theorem AV.R_goes {w w' : World} {m m' : Mp} {ns : Nat → Prop} (g : Goes w w' m m' ns) {x : AV} {v : Value} (hn : ∀ b ∈ x.ns, ns b) (h : x.R w m v) : x.R w' m' v := by
  cases x with
  | c x => exact CV.R_goes g hn h
  | t xs =>
    obtain ⟨vs, e, hf⟩ := h
    exact ⟨vs, e, hf.imp_mem fun a ha b r => CV.R_goes g (fun c hc => hn c (List.mem_flatMap.2 ⟨a, ha, hc⟩)) r⟩

/-- What a block of the function's own holds: a slice's elements; a variable's cells; a map's entries. -/
inductive Blk where
  | row (ty : TypeId) (t : Ty) (l : List t.D)
  | var (ty : TypeId) (cs : List SV)
  | map (ka : Bool) (kt : Ty) (va : Bool) (vt : Ty) (l : List (kt.D × vt.D))
  | tab (l : List (SV × CV))
  | lop (k : Nat) (tm : List (Nat × AV)) (j : Int)
/-- A value out of cells. -/
def pack (g : Bool) (cs : List Value) (v : Value) : Prop := if g = true then v = .agg cs.toArray else cs = [v]
def Blk.R (w : World) (m : Mp) (b : Nat) : Blk → Prop
  | .row ty t l => l.length = m.le b ∧ match m.nl b with
    | true => l = []
    | false => ∃ cells, w.heap[m.mu b]? = some (.cells cells ty (0, 0)) ∧ cells.size = m.ka b ∧ l.length * t.sz ≤ cells.size ∧ ∀ j p, l[j]? = some p → ∃ cs, t.K w m.S p cs ∧ ∀ i u, cs[i]? = some u → cells[j * t.sz + i]? = some u
  | .var ty cs => m.nl b = false ∧ ∃ cells, w.heap[m.mu b]? = some (.cells cells ty (0, 0)) ∧ cells.size = m.ka b ∧ F2 (SV.R w m) cs cells.toList
  | .map ka kt va vt l => m.nl b = false ∧ ∃ es clock, w.heap[m.mu b]? = some (.map es clock) ∧ F2 (fun (p : kt.D × vt.D) (e : MapEntry) => (∃ cs, kt.K w m.S p.1 cs ∧ pack ka cs e.key) ∧ ∃ cs, vt.K w m.S p.2 cs ∧ pack va cs e.val) l es.toList
  | .tab l => m.nl b = false ∧ ∃ es clock, w.heap[m.mu b]? = some (.map es clock) ∧ F2 (fun (p : SV × CV) (e : MapEntry) => p.1.R w m e.key ∧ p.2.R w m e.val) l es.toList
  | .lop k tm j => m.nl b = false ∧ ∃ fn tmps df, w.heap[m.mu b]? = some (.loop { state := lopS j, pending := lopP j, fn := fn, tmps := tmps, params := (lt k).ps.toArray, assign := (lt k).as_, body := (lt k).bd, defers := df }) ∧ (lt k).n ≤ tmps.size ∧ ∀ p ∈ tm, p.2.R w m (tmps.getD p.1 undef)
def Blk.ns : Blk → List Nat
  | .lop _ tm _ => tm.flatMap fun p => p.2.ns
  | .var _ cs => cs.flatMap SV.ns
  | .tab l => l.flatMap fun p => p.1.ns ++ p.2.ns
  | _ => []
theorem Blk.R_goes {w w' : World} {m m' : Mp} {ns : Nat → Prop} (g : Goes w w' m m' ns) {b : Nat} {B : Blk} (hb : ns b) (hh : m.nl b = false → w'.heap[m.mu b]? = w.heap[m.mu b]?) (hn : ∀ c ∈ B.ns, ns c) (h : B.R w m b) : B.R w' m' b := by
  cases B <;> simp only [Blk.R] at h ⊢ <;> rw [g.mu b hb, g.nl b hb]
  case row ty t l =>
    obtain ⟨h0, h⟩ := h
    refine ⟨by rw [g.le b hb]; exact h0, ?_⟩
    cases hnl : m.nl b with
    | true => rw [hnl] at h; exact h
    | false =>
      rw [hnl] at h
      obtain ⟨cells, h1, h2, h3, h5⟩ := h
      refine ⟨cells, by rw [hh hnl]; exact h1, by rw [g.ka b hb]; exact h2, h3, fun j p hp => ?_⟩
      obtain ⟨cs, hk, hc⟩ := h5 j p hp
      exact ⟨cs, Ty.K_still g.still g.sup t hk, hc⟩
  case var ty cs =>
    obtain ⟨h0, cells, h1, h2, h3⟩ := h
    exact ⟨h0, cells, by rw [hh h0]; exact h1, by rw [g.ka b hb]; exact h2, F2.R_goes g hn h3⟩
  case map ka kt va vt l =>
    obtain ⟨h0, es, cl, h1, h2⟩ := h
    refine ⟨h0, es, cl, by rw [hh h0]; exact h1, h2.imp fun p e he => ?_⟩
    obtain ⟨⟨c1, k1, p1⟩, ⟨c2, k2, p2⟩⟩ := he
    exact ⟨⟨c1, Ty.K_still g.still g.sup kt k1, p1⟩, ⟨c2, Ty.K_still g.still g.sup vt k2, p2⟩⟩
  case tab l =>
    obtain ⟨h0, es, cl, h1, h2⟩ := h
    refine ⟨h0, es, cl, by rw [hh h0]; exact h1, h2.imp_mem fun p hp e he => ?_⟩
    have hn' : ∀ c ∈ p.1.ns ++ p.2.ns, ns c := fun c hc => hn c (List.mem_flatMap.2 ⟨p, hp, hc⟩)
    exact ⟨SV.R_goes g (fun c hc => hn' c (List.mem_append_left _ hc)) he.1, CV.R_goes g (fun c hc => hn' c (List.mem_append_right _ hc)) he.2⟩
  case lop k tm j =>
    obtain ⟨h0, fn, tmps, df, h1, h2, h3⟩ := h
    exact ⟨h0, fn, tmps, df, by rw [hh h0]; exact h1, h2, fun p hp => AV.R_goes g (fun c hc => hn c (List.mem_flatMap.2 ⟨p, hp, hc⟩)) (h3 p hp)⟩
end Go.Proofs.Ytfjdhdmbbfeigaa.Am
