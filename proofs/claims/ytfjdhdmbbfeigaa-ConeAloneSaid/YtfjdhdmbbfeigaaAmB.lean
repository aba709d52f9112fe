/- States, what it is for a frame and a world to be as a state says, and the rules of control. -/
import Derived.Test.YtfjdhdmbbfeigaaAmA
namespace Go.Proofs.Ytfjdhdmbbfeigaa.Am
set_option linter.unusedVariables false
set_option linter.unusedSimpArgs false
def lk {α : Type} : List (Nat × α) → Nat → Option α
  | [], _ => none
  | (n, x) :: r, k => match Nat.beq n k with | true => some x | false => lk r k
theorem beq_f {n k : Nat} (h : n ≠ k) : Nat.beq n k = false := by
  cases e : Nat.beq n k with
  | false => rfl
  | true => exact absurd (Nat.eq_of_beq_eq_true e) h
theorem lk_nil {α : Type} (k : Nat) : lk ([] : List (Nat × α)) k = none := rfl
theorem lk_cons {α : Type} (n k : Nat) (x : α) (r : List (Nat × α)) : lk ((n, x) :: r) k = if n = k then some x else lk r k := by
  show (match Nat.beq n k with | true => some x | false => lk r k) = _
  by_cases h : n = k
  · subst h; simp
  · rw [if_neg h, beq_f h]
theorem lk_mem {α : Type} : ∀ {l : List (Nat × α)} {k : Nat} {x : α}, lk l k = some x → (k, x) ∈ l
  | [], _, _, h => by simp [lk] at h
  | (n, y) :: r, k, x, h => by
    rw [lk_cons] at h
    split at h
    · rename_i e; subst e; cases h; exact List.mem_cons_self
    · exact List.mem_cons_of_mem _ (lk_mem h)
/-- A state: what temporaries are, and what the function's own blocks hold. -/
structure St where
  env : List (Nat × AV)
  blk : List (Nat × Option Blk)
def St.e (st : St) (t : Nat) : Option AV := lk st.env t
def St.b (st : St) (b : Nat) : Option Blk := (lk st.blk b).join
/-- What a call is given: the world it starts in, blocks that are handed over to it, blocks that stay. -/
structure Ent where
  w : World
  O : Nat → Prop
  S : Nat → Prop
  n : Nat
  m0 : Mp
/-- Where a name lies, and of what size. -/
def Mp.at_ (m : Mp) (b : Nat) : Nat × Nat × Nat × Bool := (m.mu b, m.ka b, m.le b, m.nl b)
/-- What is beside the heap is the same. -/
def Io (a b : World) : Prop := b.os = a.os ∧ b.tape = a.tape ∧ b.output = a.output
theorem Io.refl (a : World) : Io a a := ⟨rfl, rfl, rfl⟩
theorem Io.trans {a b c : World} (h : Io a b) (k : Io b c) : Io a c := ⟨k.1.trans h.1, k.2.1.trans h.2.1, k.2.2.trans h.2.2⟩
/-- A block for the deferred calls of rounds: none is there; nothing else speaks of it. -/
structure Prot (E : Ent) (st : St) (m : Mp) (w : World) (r : Nat) : Prop where
  is : w.heap[r]? = some (.deferred (some []))
  own : E.w.heap.size ≤ r
  noS : ¬ m.S r
  no : ∀ b B, st.b b = some B → m.nl b = false → m.mu b ≠ r
theorem Prot.lt {E : Ent} {st : St} {m : Mp} {w : World} {r : Nat} (h : Prot E st m w r) : r < w.heap.size := (Array.getElem?_eq_some_iff.1 h.is).1
/-- The deferred calls: marks of such blocks alone. -/
def Dfr (E : Ent) (st : St) (m : Mp) (a : Act) (w : World) : Prop := ∃ l : List Nat, a.defers = l.map (fun r => ({ target := .collected r, args := #[] } : Deferred)) ∧ l.Nodup ∧ ∀ r ∈ l, Prot E st m w r
theorem Dfr.go {E : Ent} {st st' : St} {m m' : Mp} {a a' : Act} {w w' : World} (h : Dfr E st m a w) (e : a'.defers = a.defers) (hp : ∀ r, Prot E st m w r → Prot E st' m' w' r) : Dfr E st' m' a' w' := by
  obtain ⟨l, h1, h2, h3⟩ := h
  exact ⟨l, e.trans h1, h2, fun r hr => hp r (h3 r hr)⟩
structure OK (E : Ent) (st : St) (m : Mp) (a : Act) (w : World) : Prop where
  defers : Dfr E st m a w
  tmps : a.tmps.size = E.n
  env : ∀ t v, st.e t = some v → v.R w m (a.tmps.getD t undef)
  blk : ∀ b B, st.b b = some B → B.R w m b
  own : ∀ b B, st.b b = some B → m.nl b = false → ¬ m.S (m.mu b) ∧ (E.w.heap.size ≤ m.mu b ∨ E.O (m.mu b))
  inj : ∀ b c B C, st.b b = some B → st.b c = some C → m.nl b = false → m.nl c = false → m.mu b = m.mu c → b = c
  lt : ∀ k, m.S k → k < w.heap.size
  le : E.w.heap.size ≤ w.heap.size
  frame : ∀ k, k < E.w.heap.size → ¬ E.O k → w.heap[k]? = E.w.heap[k]?
  sup : ∀ k, E.S k → m.S k
  new : ∀ k, m.S k → E.S k ∨ E.w.heap.size ≤ k ∨ E.O k
  fix : ∀ b, b < 100 → m.at_ b = E.m0.at_ b
  io : Io E.w w
theorem Blk.R_lt {w : World} {m : Mp} {b : Nat} {B : Blk} (h : B.R w m b) (hn : m.nl b = false) : m.mu b < w.heap.size := by
  have : ∃ o, w.heap[m.mu b]? = some o := by
    cases B <;> simp only [Blk.R] at h
    case row => rw [hn] at h; obtain ⟨_, _, h, _⟩ := h; exact ⟨_, h⟩
    case var => obtain ⟨_, _, h, _⟩ := h; exact ⟨_, h⟩
    case map => obtain ⟨_, _, _, h, _⟩ := h; exact ⟨_, h⟩
    case tab => obtain ⟨_, _, _, h, _⟩ := h; exact ⟨_, h⟩
    case lop => obtain ⟨_, _, _, _, h, _⟩ := h; exact ⟨_, h⟩
  obtain ⟨o, h⟩ := this
  rcases Nat.lt_or_ge (m.mu b) w.heap.size with h1 | h1
  · exact h1
  · rw [Array.getElem?_eq_none h1] at h; cases h
/-- The same state, in a world whose heap is the same. -/
theorem OK.heap {E : Ent} {st : St} {m : Mp} {a : Act} {w w' : World} (h : OK E st m a w) (e : w'.heap = w.heap) (hio : Io w w') : OK E st m a w' := by
  have g : Goes w w' m m (fun _ => True) := ⟨fun k _ => by rw [e], fun _ h => h, fun _ _ => rfl, fun _ _ => rfl, fun _ _ => rfl, fun _ _ => rfl⟩
  exact ⟨h.defers.go rfl fun r p => ⟨by rw [e]; exact p.is, p.own, p.noS, p.no⟩, h.tmps, fun t v hv => AV.R_goes g (fun _ _ => trivial) (h.env t v hv), fun b B hB => Blk.R_goes g trivial (fun _ => by rw [e]) (fun _ _ => trivial) (h.blk b B hB), h.own, h.inj, by rw [e]; exact h.lt, by rw [e]; exact h.le, by rw [e]; exact h.frame, h.sup, h.new, h.fix, h.io.trans hio⟩
theorem put_get {a : Act} {d t : Nat} {v : Value} (hd : d < a.tmps.size) : (a.put (some d) v).tmps.getD t undef = if d = t then v else a.tmps.getD t undef := by
  simp only [Act.put, Array.getD_eq_getD_getElem?, Array.getElem?_setIfInBounds]
  split
  · rename_i h; subst h; simp [hd]
  · rfl
theorem put_size (a : Act) (d : Option Tmp) (v : Value) : (a.put d v).tmps.size = a.tmps.size := by cases d <;> simp [Act.put]
theorem put_defers (a : Act) (d : Option Tmp) (v : Value) : (a.put d v).defers = a.defers := by cases d <;> rfl
/-- Names that a state speaks of. -/
def St.has (st : St) (b : Nat) : Prop := (∃ t v, st.e t = some v ∧ b ∈ v.ns) ∨ (∃ B, st.b b = some B) ∨ ∃ c B, st.b c = some B ∧ b ∈ B.ns
/-- The state with one temporary more told. -/
def St.put (st : St) (d : Option Nat) (v : Option AV) : St :=
  match d, v with
  | some d, some v => { st with env := (d, v) :: st.env }
  | some d, none => { st with env := (st.env.filter fun p => !(Nat.beq p.1 d)) }
  | none, _ => st
theorem lk_filter {α : Type} (d : Nat) : ∀ (l : List (Nat × α)) (t : Nat), lk (l.filter fun p => !(Nat.beq p.1 d)) t = if d = t then none else lk l t
  | [], t => by simp [lk_nil]
  | (n, x) :: r, t => by
    by_cases h : n = d
    · subst h
      rw [List.filter_cons_of_neg (by simp), lk_filter n r t, lk_cons]
      split <;> simp_all
    · rw [List.filter_cons_of_pos (by rw [beq_f h]; rfl), lk_cons, lk_filter d r t, lk_cons]
      by_cases h1 : n = t
      · subst h1; rw [if_pos rfl, if_pos rfl, if_neg (Ne.symm h)]
      · rw [if_neg h1, if_neg h1]
theorem St.put_e (st : St) (d : Nat) (v : Option AV) (t : Nat) : (st.put (some d) v).e t = if d = t then v else st.e t := by
  cases v with
  | some v => exact lk_cons d t v st.env
  | none => exact lk_filter d st.env t
theorem St.put_b (st : St) (d : Option Nat) (v : Option AV) (b : Nat) : (st.put d v).b b = st.b b := by
  cases d <;> cases v <;> rfl
/-- A step: what becomes of the state, the frame, the world. -/
theorem OK.put {E : Ent} {st : St} {m : Mp} {a : Act} {w : World} (h : OK E st m a w) (d : Option Nat) (v : Option AV) (u : Value) (hd : ∀ k, d = some k → k < E.n) (hv : ∀ x, v = some x → x.R w m u) : OK E (st.put d v) m (a.put d u) w := by
  refine ⟨h.defers.go (put_defers ..) fun r p => ⟨p.is, p.own, p.noS, fun b B hB => p.no b B (by rwa [St.put_b] at hB)⟩, by rw [put_size]; exact h.tmps, fun t x hx => ?_, fun b B hB => h.blk b B (by rwa [St.put_b] at hB), fun b B hB => h.own b B (by rwa [St.put_b] at hB), fun b c B C hB hC => h.inj b c B C (by rwa [St.put_b] at hB) (by rwa [St.put_b] at hC), h.lt, h.le, h.frame, h.sup, h.new, h.fix, h.io⟩
  cases d with
  | none => exact h.env t x hx
  | some d =>
    rw [St.put_e] at hx
    rw [put_get (by rw [h.tmps]; exact hd d rfl)]
    split at hx <;> rename_i hc
    · rw [if_pos hc]; exact hv x hx
    · rw [if_neg hc]; exact h.env t x hx
/-- Blocks told anew. -/
def St.setb (st : St) (b : Nat) (B : Option Blk) : St := { st with blk := (b, B) :: st.blk }
theorem St.setb_b (st : St) (b : Nat) (B : Option Blk) (c : Nat) : (st.setb b B).b c = if b = c then B else st.b c := by
  unfold St.b St.setb
  rw [lk_cons]
  split <;> simp
theorem OK.drop {E : Ent} {st : St} {m : Mp} {a : Act} {w : World} (h : OK E st m a w) (b : Nat) : OK E (st.setb b none) m a w := by
  have k : ∀ c B, (st.setb b none).b c = some B → st.b c = some B := fun c B hc => by
    rw [St.setb_b] at hc
    split at hc
    · cases hc
    · exact hc
  exact ⟨h.defers.go rfl fun r p => ⟨p.is, p.own, p.noS, fun c B hB => p.no c B (k c B hB)⟩, h.tmps, h.env, fun c B hB => h.blk c B (k c B hB), fun c B hB => h.own c B (k c B hB), fun c d B C hB hC => h.inj c d B C (k c B hB) (k d C hC), h.lt, h.le, h.frame, h.sup, h.new, h.fix, h.io⟩
def Mp.set (m : Mp) (b mu ka le : Nat) (nl : Bool) : Mp := { m with mu := fun c => if c = b then mu else m.mu c, ka := fun c => if c = b then ka else m.ka c, le := fun c => if c = b then le else m.le c, nl := fun c => if c = b then nl else m.nl c }
theorem fix_set {m : Mp} {nb mu ka le b : Nat} {nl : Bool} (hn : 100 ≤ nb) (hb : b < 100) : (m.set nb mu ka le nl).at_ b = m.at_ b := by
  have : b ≠ nb := by omega
  simp [Mp.at_, Mp.set, this]
theorem heap_alloc (w : World) (o : Obj) (k : Nat) : (w.alloc o).heap[k]? = if k = w.heap.size then some o else w.heap[k]? := Array.getElem?_push
theorem size_alloc (w : World) (o : Obj) : (w.alloc o).heap.size = w.heap.size + 1 := Array.size_push _
theorem Goes.alloc {w : World} {m : Mp} {nb ka le : Nat} {o : Obj} {ns : Nat → Prop} (hlt : ∀ k, m.S k → k < w.heap.size) (hn : ∀ b, ns b → b ≠ nb) : Goes w (w.alloc o) m (m.set nb w.heap.size ka le false) ns :=
  ⟨fun k hk => by rw [heap_alloc, if_neg (by have := hlt k hk; omega)], fun _ h => h, fun b hb => if_neg (hn b hb), fun b hb => if_neg (hn b hb), fun b hb => if_neg (hn b hb), fun b hb => if_neg (hn b hb)⟩
/-- A new block. -/
theorem OK.alloc {E : Ent} {st : St} {m : Mp} {a : Act} {w : World} (h : OK E st m a w) {nb : Nat} {B : Blk} {o : Obj} (ka le : Nat) (hf : ¬ st.has nb ∧ 100 ≤ nb) (hB : B.R (w.alloc o) (m.set nb w.heap.size ka le false) nb) : OK E (st.setb nb (some B)) (m.set nb w.heap.size ka le false) a (w.alloc o) := by
  have g : Goes w (w.alloc o) m (m.set nb w.heap.size ka le false) st.has := .alloc h.lt fun b hb e => hf.1 (e ▸ hb)
  have old : ∀ c C, st.b c = some C → (m.set nb w.heap.size ka le false).mu c = m.mu c := fun c C hC => g.mu c (.inr (.inl ⟨C, hC⟩))
  have key : ∀ c C, (st.setb nb (some B)).b c = some C → c = nb ∧ C = B ∨ c ≠ nb ∧ st.b c = some C := fun c C hC => by
    rw [St.setb_b] at hC
    split at hC
    · rename_i e; exact .inl ⟨e.symm, (Option.some.inj hC).symm⟩
    · rename_i e; exact .inr ⟨Ne.symm e, hC⟩
  have mnb : (m.set nb w.heap.size ka le false).mu nb = w.heap.size := if_pos rfl
  have sz := size_alloc w o
  have oldn : ∀ c C, st.b c = some C → (m.set nb w.heap.size ka le false).nl c = m.nl c := fun c C hC => g.nl c (.inr (.inl ⟨C, hC⟩))
  refine ⟨h.defers.go rfl fun r p => ⟨by rw [heap_alloc, if_neg (Nat.ne_of_lt p.lt)]; exact p.is, p.own, p.noS, fun c C hC hn => by
    rcases key c C hC with ⟨rfl, _⟩ | ⟨_, hC⟩
    · rw [mnb]; exact fun e => Nat.lt_irrefl _ (e ▸ p.lt)
    · rw [old c C hC]; exact p.no c C hC (by rw [← oldn c C hC]; exact hn)⟩, h.tmps, fun t v hv => AV.R_goes g (fun b hb => .inl ⟨t, v, hv, hb⟩) (h.env t v hv), fun c C hC => ?_, fun c C hC hn => ?_, fun c d C D hC hD hn hn' he => ?_, fun k hk => by have := h.lt k hk; omega, by have := h.le; omega, fun k hk hO => ?_, h.sup, h.new, fun b hb => by rw [fix_set hf.2 hb]; exact h.fix b hb, h.io⟩
  · rcases key c C hC with ⟨rfl, rfl⟩ | ⟨hne, hC⟩
    · exact hB
    · exact Blk.R_goes g (.inr (.inl ⟨C, hC⟩)) (fun hn => by have := Blk.R_lt (h.blk c C hC) hn; rw [heap_alloc, if_neg (by omega)]) (fun b hb => .inr (.inr ⟨c, C, hC, hb⟩)) (h.blk c C hC)
  · rcases key c C hC with ⟨rfl, rfl⟩ | ⟨hne, hC⟩
    · rw [mnb]
      exact ⟨fun hs => absurd (h.lt _ hs) (Nat.lt_irrefl _), .inl h.le⟩
    · rw [old c C hC]
      exact h.own c C hC (by rw [← oldn c C hC]; exact hn)
  · rcases key c C hC with ⟨rfl, rfl⟩ | ⟨hne, hC1⟩ <;> rcases key d D hD with ⟨rfl, rfl⟩ | ⟨hne', hD1⟩
    · rfl
    · rw [mnb, old d D hD1] at he
      have := Blk.R_lt (h.blk d D hD1) (by rw [← oldn d D hD1]; exact hn')
      omega
    · rw [mnb, old c C hC1] at he
      have := Blk.R_lt (h.blk c C hC1) (by rw [← oldn c C hC1]; exact hn)
      omega
    · rw [old c C hC1, old d D hD1] at he
      exact h.inj c d C D hC1 hD1 (by rw [← oldn c C hC1]; exact hn) (by rw [← oldn d D hD1]; exact hn') he
  · rw [heap_alloc, if_neg (by have := h.le; omega)]
    exact h.frame k hk hO
/-- A block of the function's own told anew: nothing else is another. -/
theorem OK.write {E : Ent} {st : St} {m : Mp} {a : Act} {w w' : World} (h : OK E st m a w) {b : Nat} {B B' : Blk} (hb : st.b b = some B) (hnl : m.nl b = false) (hsz : w'.heap.size = w.heap.size) (hh : ∀ k, k ≠ m.mu b → w'.heap[k]? = w.heap[k]?) (hB : B'.R w' m b) (hio : Io w w') : OK E (st.setb b (some B')) m a w' := by
  have ob := h.own b B hb hnl
  have g : Goes w w' m m (fun _ => True) := ⟨fun k hk => hh k fun e => ob.1 (e ▸ hk), fun _ h => h, fun _ _ => rfl, fun _ _ => rfl, fun _ _ => rfl, fun _ _ => rfl⟩
  have key : ∀ c C, (st.setb b (some B')).b c = some C → c = b ∧ C = B' ∨ c ≠ b ∧ st.b c = some C := fun c C hC => by
    rw [St.setb_b] at hC
    split at hC
    · rename_i e; exact .inl ⟨e.symm, (Option.some.inj hC).symm⟩
    · rename_i e; exact .inr ⟨Ne.symm e, hC⟩
  have had : ∀ c C, (st.setb b (some B')).b c = some C → ∃ D, st.b c = some D := fun c C hC => by
    rcases key c C hC with ⟨rfl, _⟩ | ⟨_, hC⟩
    · exact ⟨B, hb⟩
    · exact ⟨C, hC⟩
  refine ⟨h.defers.go rfl fun r p => ⟨by rw [hh r fun e => p.no b B hb hnl e.symm]; exact p.is, p.own, p.noS, fun c C hC hn => by
    obtain ⟨D, hD⟩ := had c C hC
    exact p.no c D hD hn⟩, h.tmps, fun t v hv => AV.R_goes g (fun _ _ => trivial) (h.env t v hv), fun c C hC => ?_, fun c C hC hn => ?_, fun c d C D hC hD hn hn' he => ?_, by rw [hsz]; exact h.lt, by rw [hsz]; exact h.le, fun k hk hO => ?_, h.sup, h.new, h.fix, h.io.trans hio⟩
  · rcases key c C hC with ⟨rfl, rfl⟩ | ⟨hne, hC⟩
    · exact hB
    · exact Blk.R_goes g trivial (fun hn => hh _ fun e => hne (h.inj c b C B hC hb hn hnl e)) (fun _ _ => trivial) (h.blk c C hC)
  · obtain ⟨D, hD⟩ := had c C hC
    exact h.own c D hD hn
  · obtain ⟨C', hC'⟩ := had c C hC
    obtain ⟨D', hD'⟩ := had d D hD
    exact h.inj c d C' D' hC' hD' hn hn' he
  · rw [hh k fun e => ?_]
    · exact h.frame k hk hO
    · subst e
      rcases ob.2 with h1 | h1
      · omega
      · exact hO h1

/-- A function's frame, or a round's. -/
def Fz : Option Nat → Fence
  | none => Fence.wide
  | some l => Fence.wide.inRound l
/-- What a piece of code makes of a state, whatever the world. -/
def AW (ρ : Option Nat) (P : Program) (N : Nat) (c : Code) (st : St) (Q : Exit → St → Prop) : Prop :=
  ∀ (E : Ent) (m : Mp) (a : Act) (w : World), N ≤ E.n → OK E st m a w → c.wpIn (Fz ρ) 0 P (fun e a' w' => ∃ st' m', Q e st' ∧ OK E st' m' a' w') a w
theorem stepR_scope_ {P : Program} {b : Frame} {a : Act} {k : List Item} {cs : List Frame} {w : World} {c : Code} : step P (lone (b.atR a (.code (.scope c) :: k)) cs w) = .next (lone (b.atR a (.code c :: .inScope c :: k)) cs w) :=
  step_lone_go (by simp [stepG, stepG.exec, Frame.atR])
theorem stepR_inScope_ {P : Program} {b : Frame} {a : Act} {k : List Item} {cs : List Frame} {w : World} {c : Code} : step P (lone (b.atR a (.inScope c :: k)) cs w) = .next (lone (b.atR a k) cs w) :=
  step_lone_go (by simp [stepG, stepG.exec, Frame.atR])
def isGoto : Exit → Bool
  | .goto _ => true
  | _ => false
theorem wpIn_scope {F : Fence} {n : Nat} {P : Program} {Q : Exit → Act → World → Prop} {a : Act} {w : World} {c : Code} (h : c.wpIn F n P (fun e a w => isGoto e = false ∧ Q e a w) a w) : (Code.scope c).wpIn F n P Q a w := by
  intro b k cs hro hb hr
  have h0 : (lone (b.atR a (.code (.scope c) :: k)) cs w).fenced P F := fenced_calm hb hr rfl
  obtain ⟨e, a₁, w₁, ⟨hg, hq⟩, harr⟩ := h b (.inScope c :: k) cs hro hb hr
  cases e with
  | normal => exact ⟨.normal, a₁, w₁, hq, .head h0 stepR_scope_ (StepsIn.trans harr (.one (fenced_calm (fr := b.atR a₁ (.inScope c :: k)) hb hr rfl) stepR_inScope_))⟩
  | exit id => exact ⟨.exit id, a₁, w₁, hq, fun k' hk => .head h0 stepR_scope_ (harr.1 k' (by simp [exitTo, hk])), fun hr' hk => by
      obtain ⟨k₁, h1, h2⟩ := harr.2 hr' (by simp [exitTo, hk])
      exact ⟨k₁, h1, .head h0 stepR_scope_ h2⟩⟩
  | goto l => cases hg
  | ret => exact ⟨_, a₁, w₁, hq, .of_steps (.one h0 stepR_scope_) harr⟩
  | panic ch => exact ⟨_, a₁, w₁, hq, .of_steps (.one h0 stepR_scope_) harr⟩
  | outgrown => exact ⟨_, a₁, w₁, hq, .of_steps (.one h0 stepR_scope_) harr⟩
/-- Behind a piece of code that ends: K; else Q. -/
def Th (K : St → Prop) (Q : Exit → St → Prop) : Exit → St → Prop
  | .normal, s => K s
  | e, s => Q e s
section
variable {ρ : Option Nat} {P : Program} {N : Nat} {st : St} {Q Q' : Exit → St → Prop}
theorem AW.mono {c : Code} (h : AW ρ P N c st Q) (hq : ∀ e s, Q e s → Q' e s) : AW ρ P N c st Q' := fun E m a w hN ho => wpIn_mono (h E m a w hN ho) fun e a' w' ⟨s, m', q, o⟩ => ⟨s, m', hq e s q, o⟩
theorem AW.skip (h : Q .normal st) : AW ρ P N .skip st Q := fun E m a w hN ho => wpIn_skip ⟨st, m, h, ho⟩
theorem AW.ret (h : Q .ret st) : AW ρ P N .ret st Q := fun E m a w hN ho => wpIn_ret ⟨st, m, h, ho⟩
theorem AW.exit {id : Nat} (h : Q (.exit id) st) : AW ρ P N (.exit id) st Q := fun E m a w hN ho => wpIn_exit ⟨st, m, h, ho⟩
theorem AW.seq {x y : Code} (h : AW ρ P N x st (Th (fun s => AW ρ P N y s Q) Q)) : AW ρ P N (.seq x y) st Q := fun E m a w hN ho => wpIn_seq (wpIn_mono (h E m a w hN ho) fun e a' w' ⟨s, m', q, o⟩ => by
  cases e
  case normal => exact q E m' a' w' hN o
  all_goals exact ⟨s, m', q, o⟩)
/-- As 'seq', with what is between told. -/
theorem AW.cond {c : Operand} {x y : Code} {t : Nat} {b : Bool} (hc : c = .tmp t) (hb : st.e t = some (V (.bool b))) (ht : b = true → AW ρ P N x st Q) (hf : b = false → AW ρ P N y st Q) : AW ρ P N (.cond c x y) st Q := fun E m a w hN ho => by
  have hv := ho.env t _ hb
  have e : a.eval c = .bool b := by
    subst hc
    simp only [AV.R, V, CV.R] at hv
    obtain ⟨y, hy, hr⟩ := hv
    simp only [List.cons.injEq, and_true] at hy
    subst hy
    exact hr
  cases b with
  | true => exact wpIn_cond_true e (ht rfl E m a w hN ho)
  | false => exact wpIn_cond_false e (hf rfl E m a w hN ho)
def Bl (id : Nat) (Q : Exit → St → Prop) : Exit → St → Prop
  | .exit id', s => match Nat.beq id' id with | true => Q .normal s | false => Q (.exit id') s
  | e, s => Q e s
theorem AW.block {id : Nat} {c : Code} (h : AW ρ P N c st (Bl id Q)) : AW ρ P N (.block id c) st Q := fun E m a w hN ho => wpIn_block (wpIn_mono (h E m a w hN ho) fun e a' w' ⟨s, m', q, o⟩ => by
  cases e with
  | exit i =>
    simp only [Exit.inBlock]
    by_cases hi : i = id
    · subst hi
      rw [if_pos rfl]
      simp only [Bl, Nat.beq_refl] at q
      exact ⟨s, m', q, o⟩
    · rw [if_neg hi]
      simp only [Bl, beq_f hi] at q
      exact ⟨s, m', q, o⟩
  | _ => exact ⟨s, m', q, o⟩)
theorem wp_loop_n {F : Fence} {f : Nat} {Q : Exit → Act → World → Prop} {c : Code} (I : Nat → Act → World → Prop) (round : ∀ n a w, I n a w → c.wpIn F f P (Exit.then (fun a' w' => ∃ n', n' < n ∧ I n' a' w') Q) a w) (n : Nat) (a : Act) (w : World) (h₀ : I n a w) : (Code.loop c).wpIn F f P Q a w := by
  intro b k cs hro hb hr
  have key : ∀ n a w, I n a w → ∃ e a' w', Q e a' w' ∧ ArrivesIn (Machine.fenced P F) P (lone (b.atR a (.code c :: .inLoop c :: k)) cs w) b k cs e a' w' := by
    intro n
    induction n using Nat.strongRecOn with
    | _ n ih =>
      intro a w hI
      obtain ⟨e, a₁, w₁, hq, harr⟩ := round n a w hI b (.inLoop c :: k) cs hro hb hr
      cases e with
      | normal =>
        obtain ⟨n', hlt, hI₁⟩ := hq
        obtain ⟨e₂, a₂, w₂, hq₂, harr₂⟩ := ih n' hlt a₁ w₁ hI₁
        exact ⟨e₂, a₂, w₂, hq₂, .of_steps (StepsIn.trans harr (.one (fenced_calm hb hr rfl) stepR_inLoop)) harr₂⟩
      | exit id => exact ⟨_, a₁, w₁, hq, .pass (x := .inLoop c) rfl (fun _ _ => .inl (by simp)) harr⟩
      | goto l => exact ⟨_, a₁, w₁, hq, .pass (x := .inLoop c) rfl (fun _ _ => .inl (by simp)) harr⟩
      | ret => exact ⟨_, a₁, w₁, hq, .pass (x := .inLoop c) rfl (fun _ _ => .inl (by simp)) harr⟩
      | panic ch => exact ⟨_, a₁, w₁, hq, .pass (x := .inLoop c) rfl (fun _ _ => .inl (by simp)) harr⟩
      | outgrown => exact ⟨_, a₁, w₁, hq, .pass (x := .inLoop c) rfl (fun _ _ => .inl (by simp)) harr⟩
  obtain ⟨e, a', w', hq, harr⟩ := key n a w h₀
  exact ⟨e, a', w', hq, .of_steps (.one (fenced_calm hb hr rfl) stepR_loop) harr⟩
/-- A loop: what holds at its head, with as many rounds left. -/
theorem AW.loop {c : Code} (I : Nat → St → Prop) (round : ∀ n s, I n s → AW ρ P N c s (Th (fun s' => ∃ n', n' < n ∧ I n' s') Q)) (n : Nat) (h : I n st) : AW ρ P N (.loop c) st Q := fun E m a w hN ho => by
  refine wp_loop_n (fun n a w => ∃ s m, I n s ∧ OK E s m a w) (fun n a w ⟨s, m, hI, o⟩ => ?_) n a w ⟨st, m, h, ho⟩
  refine wpIn_mono (round n s hI E m a w hN o) fun e a' w' ⟨s', m', q, o'⟩ => ?_
  cases e
  case normal => obtain ⟨n', hn, hI'⟩ := q; exact ⟨n', hn, s', m', hI', o'⟩
  all_goals exact ⟨s', m', q, o'⟩
end
end Go.Proofs.Ytfjdhdmbbfeigaa.Am
