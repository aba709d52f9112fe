/- Plain facts of the document's graphs of ands: what find, And, Or, Xor, Mux and Made come to, and that what is made is a right graph. -/
import Derived.Test.YtdfbnlmjnollnaaPBits
import Derived.Test.YtdfbnlmjnollnaaXb16
import Derived.Test.YtdfbnlmjnollnaaXb7
namespace Go.Proofs.Ytdfbnlmjnollnaa.PAig
open Go.RowKit Go.Proofs.YtdfbnlmjnollnaaW.PrintWords Go.Proofs.YtdfbnlmjnollnaaW.PrintMore Go.Proofs.Ytdfbnlmjnollnaa.PBits Go.Proofs.Ytdfbnlmjnollnaa.Xb
abbrev A2 := S49
/-- The place of an and, from i on; -1: there is none. -/
def idx (a b : Int) : List A2 → Int → Int
  | [], _ => -1
  | x :: xs, i => if x.f0 = a ∧ x.f1 = b then i else idx a b xs (i + 1)
theorem idx_spec (a b : Int) : ∀ (l : List A2) (i : Int), 0 ≤ i → (idx a b l i = -1 ∧ ∀ x ∈ l, ¬ (x.f0 = a ∧ x.f1 = b)) ∨ (∃ j : Nat, idx a b l i = i + j ∧ l[j]? = some ⟨a, b⟩)
  | [], i, _ => .inl ⟨rfl, fun x hx => by cases hx⟩
  | x :: xs, i, hi => by
    unfold idx
    by_cases h : x.f0 = a ∧ x.f1 = b
    · rw [if_pos h]
      refine .inr ⟨0, by simp, ?_⟩
      obtain ⟨rfl, rfl⟩ := h
      rfl
    · rw [if_neg h]
      rcases idx_spec a b xs (i + 1) (by omega) with ⟨h1, h2⟩ | ⟨j, h1, h2⟩
      · refine .inl ⟨h1, fun y hy => ?_⟩
        rcases List.mem_cons.1 hy with rfl | hy
        · exact h
        · exact h2 y hy
      · exact .inr ⟨j + 1, by rw [h1]; push_cast; omega, by simpa using h2⟩
theorem find_ev (ins a b : Int) (l : List A2) (hl : l.length < 1000000) : ∀ (d : Nat) (i : Nat), l.length - i = d → i ≤ l.length →
    Ev (fun k => proofmarkref13_find.l0 k a b (l.length : Int) (i : Int) ins l) (idx a b (l.drop i) i) := by
  intro d
  induction d with
  | zero =>
    intro i hd hi
    refine Ev.step (fun k => by simp only [proofmarkref13_find.l0]; rw [if_neg (by omega)]) ?_
    rw [List.drop_eq_nil_of_le (by omega)]
    exact Ev.now _
  | succ d ih =>
    intro i hd hi
    have hlt : i < l.length := by omega
    have hx : rd_T49 l (i : Int) = l[i] := by
      unfold rd_T49
      rw [Int.toNat_natCast, List.getD_eq_getElem?_getD, List.getElem?_eq_getElem hlt]
      rfl
    have hs : wrap64 ((i : Int) + 1) = ((i + 1 : Nat) : Int) := by rw [w64 (by omega) (by omega)]; push_cast; rfl
    refine Ev.step (fun k => by simp only [proofmarkref13_find.l0]; rw [if_pos (by omega), if_pos (by omega), if_pos (by omega), hx, hs]) ?_
    rw [List.drop_eq_getElem_cons hlt]
    unfold idx
    by_cases h0 : l[i].f0 = a
    · refine Ev.ite_pos h0 ?_
      by_cases h1 : l[i].f1 = b
      · rw [if_pos ⟨h0, h1⟩]
        exact Ev.ite_pos h1 (Ev.now _)
      · rw [if_neg (fun h => h1 h.2)]
        exact Ev.ite_neg h1 (ih (i + 1) (by omega) (by omega))
    · rw [if_neg (fun h => h0 h.1)]
      exact Ev.ite_neg h0 (ih (i + 1) (by omega) (by omega))
def lo (a b : Int) : Int := if a > b then b else a
def hi (a b : Int) : Int := if a > b then a else b
/-- And: the graph's ands, behind it. -/
def andL (l : List A2) (a b : Int) : List A2 :=
  if lo a b = 0 ∨ (lo a b / 2 = hi a b / 2 ∧ lo a b ≠ hi a b) then l else if lo a b = 1 ∨ lo a b = hi a b then l else if idx (lo a b) (hi a b) l 0 < 0 then l ++ [⟨lo a b, hi a b⟩] else l
/-- And: the literal. -/
def andX (ins : Int) (l : List A2) (a b : Int) : Int :=
  if lo a b = 0 ∨ (lo a b / 2 = hi a b / 2 ∧ lo a b ≠ hi a b) then 0 else if lo a b = 1 ∨ lo a b = hi a b then hi a b else if idx (lo a b) (hi a b) l 0 < 0 then 2 * (ins + 1 + l.length) else 2 * (ins + 1 + idx (lo a b) (hi a b) l 0)
theorem and_ev (ins : Int) (l : List A2) (a b : Int) (hl : l.length < 1000000) (hi0 : 0 ≤ ins) (hi1 : ins < 1000000) (ha : 0 ≤ a) (ha1 : a < 4611686018427387904) (hb : 0 ≤ b) (hb1 : b < 4611686018427387904) :
    Ev (fun k => proofmarkref13_And.f k ins l a b) (ins, andL l a b, andX ins l a b) := by
  have main : ∀ x y : Int, 0 ≤ x → x < 4611686018427387904 → 0 ≤ y → y < 4611686018427387904 → lo a b = x → hi a b = y → Ev (fun k => proofmarkref13_And.j0 k x y ins l) (ins, andL l a b, andX ins l a b) := by
    intro x y hx hx1 hy hy1 ex ey
    unfold andL andX
    rw [ex, ey]
    have d1 : wrap64 (Int.tdiv x 2) = x / 2 := by rw [tdiv2 hx]; exact w64 (by omega) (by omega)
    have d2 : wrap64 (Int.tdiv y 2) = y / 2 := by rw [tdiv2 hy]; exact w64 (by omega) (by omega)
    have rest : ¬ (x = 0 ∨ (x / 2 = y / 2 ∧ x ≠ y)) → Ev (fun k => proofmarkref13_And.j1 k x y false ins l) (ins, if x = 1 ∨ x = y then l else if idx x y l 0 < 0 then l ++ [⟨x, y⟩] else l, if x = 1 ∨ x = y then y else if idx x y l 0 < 0 then 2 * (ins + 1 + l.length) else 2 * (ins + 1 + idx x y l 0)) := by
      intro hn
      have tail : Ev (fun k => proofmarkref13_And.j2 k x y false ins l) (ins, if idx x y l 0 < 0 then l ++ [⟨x, y⟩] else l, if idx x y l 0 < 0 then 2 * (ins + 1 + l.length) else 2 * (ins + 1 + idx x y l 0)) := by
        refine Ev.step (fun k => by simp only [proofmarkref13_And.j2]; rw [if_neg (by decide)]) ?_
        have hf := find_ev ins x y l hl l.length 0 (by omega) (by omega)
        rw [List.drop_zero, show ((0 : Nat) : Int) = (0 : Int) from rfl] at hf
        refine Ev.bind (f := fun k t143 => _) hf ?_
        have hs := idx_spec x y l 0 (by omega)
        by_cases hneg : idx x y l 0 < 0
        · simp only [if_pos hneg, Option.bind_some, List.nil_append]
          refine Ev.ite_pos (by simp; omega) (Ev.ite_pos (by omega) (Ev.const ?_))
          rw [w64 (n := ins + 1) (by omega) (by omega), w64 (n := ins + 1 + (l.length : Int)) (by omega) (by omega), w64 (by omega) (by omega)]
        · simp only [if_neg hneg]
          refine Ev.const ?_
          have hb2 : idx x y l 0 < 1000000 := by
            rcases hs with ⟨h1, _⟩ | ⟨j, h1, h2⟩
            · omega
            · have := (List.getElem?_eq_some_iff.1 h2).1
              omega
          rw [w64 (n := ins + 1) (by omega) (by omega), w64 (n := ins + 1 + idx x y l 0) (by omega) (by omega), w64 (by omega) (by omega)]
      refine Ev.step (fun k => by simp only [proofmarkref13_And.j1]; rw [if_neg (by decide)]) ?_
      have fin : Ev (fun k => proofmarkref13_And.j2 k x y true ins l) (ins, l, y) := Ev.step (fun k => by simp only [proofmarkref13_And.j2]; rw [if_pos trivial]) (Ev.now _)
      by_cases h1 : x = 1
      · rw [if_pos (Or.inl h1), if_pos (Or.inl h1)]
        exact Ev.ite_pos h1 fin
      · refine Ev.ite_neg h1 ?_
        by_cases h2 : x = y
        · rw [if_pos (Or.inr h2), if_pos (Or.inr h2), show (x == y) = true from beq_iff_eq.2 h2]
          exact fin
        · have h3 : ¬ (x = 1 ∨ x = y) := fun h => h.elim h1 h2
          rw [if_neg h3, if_neg h3, show (x == y) = false from beq_eq_false_iff_ne.2 h2]
          exact tail
    have zero : Ev (fun k => proofmarkref13_And.j1 k x y true ins l) (ins, l, (0 : Int)) := Ev.step (fun k => by simp only [proofmarkref13_And.j1]; rw [if_pos trivial]) (Ev.now _)
    refine Ev.step (fun k => by simp only [proofmarkref13_And.j0]; rw [d1, d2]) ?_
    by_cases h0 : x = 0
    · rw [if_pos (Or.inl h0), if_pos (Or.inl h0)]
      exact Ev.ite_pos h0 zero
    · refine Ev.ite_neg h0 ?_
      by_cases h1 : x / 2 = y / 2
      · refine Ev.ite_pos h1 ?_
        by_cases h2 : x = y
        · rw [show (x != y) = false from by simpa using h2]
          have h3 : ¬ (x = 0 ∨ (x / 2 = y / 2 ∧ x ≠ y)) := fun h => h.elim h0 (fun h => h.2 h2)
          rw [if_neg h3, if_neg h3]
          exact rest h3
        · rw [show (x != y) = true from by simpa using h2, if_pos (Or.inr ⟨h1, h2⟩), if_pos (Or.inr ⟨h1, h2⟩)]
          exact zero
      · have h3 : ¬ (x = 0 ∨ (x / 2 = y / 2 ∧ x ≠ y)) := fun h => h.elim h0 (fun h => h1 h.1)
        rw [if_neg h3, if_neg h3]
        exact Ev.ite_neg h1 (rest h3)
  unfold proofmarkref13_And.f
  by_cases hab : a > b
  · exact Ev.ite_pos hab (main b a hb hb1 ha ha1 (if_pos hab) (if_pos hab))
  · exact Ev.ite_neg hab (main a b ha ha1 hb hb1 (if_neg hab) (if_neg hab))
/-- A right graph, of few inputs and ands. -/
structure GoodA (ins : Int) (l : List A2) : Prop where
  ins0 : 0 ≤ ins
  ins1 : ins ≤ 8
  in_ : ∀ (i : Nat) (x : A2), l[i]? = some x → 2 ≤ x.f0 ∧ x.f0 < x.f1 ∧ x.f1 < 2 * (ins + 1 + i) ∧ x.f0 / 2 ≠ x.f1 / 2
  once : ∀ (i j : Nat) (x : A2), l[i]? = some x → l[j]? = some x → i = j
/-- A literal of a graph. -/
def Lit_ (ins : Int) (l : List A2) (a : Int) : Prop := 0 ≤ a ∧ a < 2 * (ins + 1 + l.length)
theorem lo_lit {ins : Int} {l : List A2} {a b : Int} (ha : Lit_ ins l a) (hb : Lit_ ins l b) : Lit_ ins l (lo a b) := by unfold lo; split <;> assumption
theorem hi_lit {ins : Int} {l : List A2} {a b : Int} (ha : Lit_ ins l a) (hb : Lit_ ins l b) : Lit_ ins l (hi a b) := by unfold hi; split <;> assumption
theorem lo_le_hi (a b : Int) : lo a b ≤ hi a b := by unfold lo hi; split <;> omega
theorem and_good {ins : Int} {l : List A2} {a b : Int} (h : GoodA ins l) (ha : Lit_ ins l a) (hb : Lit_ ins l b) :
    GoodA ins (andL l a b) ∧ (∃ t, andL l a b = l ++ t ∧ t.length ≤ 1) ∧ Lit_ ins (andL l a b) (andX ins l a b) := by
  have hlo := lo_lit ha hb
  have hhi := hi_lit ha hb
  have hle := lo_le_hi a b
  have h0 := h.ins0
  unfold andL andX
  generalize lo a b = x at *
  generalize hi a b = y at *
  by_cases c1 : x = 0 ∨ (x / 2 = y / 2 ∧ x ≠ y)
  · rw [if_pos c1, if_pos c1]
    exact ⟨h, ⟨[], by simp⟩, by omega, by omega⟩
  rw [if_neg c1, if_neg c1]
  by_cases c2 : x = 1 ∨ x = y
  · rw [if_pos c2, if_pos c2]
    exact ⟨h, ⟨[], by simp⟩, hhi⟩
  rw [if_neg c2, if_neg c2]
  have c1' : x ≠ 0 ∧ (x / 2 = y / 2 → x = y) := ⟨fun e => c1 (.inl e), fun e => Classical.byContradiction fun n => c1 (.inr ⟨e, n⟩)⟩
  have c2' : x ≠ 1 ∧ x ≠ y := ⟨fun e => c2 (.inl e), fun e => c2 (.inr e)⟩
  have hx : 2 ≤ x := by have := hlo.1; omega
  rcases idx_spec x y l 0 (by omega) with ⟨e, hn⟩ | ⟨j, e, hj⟩
  · rw [e, if_pos (by omega), if_pos (by omega)]
    refine ⟨⟨h0, h.ins1, fun i z hz => ?_, fun i j z hi hj => ?_⟩, ⟨[⟨x, y⟩], rfl, by simp⟩, by have := h0; omega, by rw [List.length_append, List.length_singleton]; push_cast; omega⟩
    · by_cases hi : i < l.length
      · rw [List.getElem?_append_left hi] at hz
        exact h.in_ i z hz
      · have hil : i < (l ++ [(⟨x, y⟩ : A2)]).length := (List.getElem?_eq_some_iff.1 hz).1
        have hi2 : i = l.length := by simp at hil; omega
        subst hi2
        rw [List.getElem?_append_right (Nat.le_refl _)] at hz
        simp at hz
        subst hz
        have := hhi.2
        exact ⟨hx, by show x < y; omega, by show y < _; omega, fun e => c2'.2 (c1'.2 e)⟩
    · have key : ∀ i, (l ++ [(⟨x, y⟩ : A2)])[i]? = some z → i < l.length ∨ (i = l.length ∧ z = ⟨x, y⟩) := by
        intro i hz
        by_cases hi : i < l.length
        · exact .inl hi
        · have hil : i < (l ++ [(⟨x, y⟩ : A2)]).length := (List.getElem?_eq_some_iff.1 hz).1
          have hi2 : i = l.length := by simp at hil; omega
          subst hi2
          rw [List.getElem?_append_right (Nat.le_refl _)] at hz
          simp at hz
          exact .inr ⟨rfl, hz.symm⟩
      have old : ∀ i, i < l.length → (l ++ [(⟨x, y⟩ : A2)])[i]? = some z → z ≠ ⟨x, y⟩ := by
        intro i hi hz e
        rw [List.getElem?_append_left hi] at hz
        subst e
        exact hn _ (List.mem_of_getElem? hz) ⟨rfl, rfl⟩
      rcases key i hi with h1 | ⟨h1, h1'⟩ <;> rcases key j hj with h2 | ⟨h2, h2'⟩
      · rw [List.getElem?_append_left h1] at hi
        rw [List.getElem?_append_left h2] at hj
        exact h.once i j z hi hj
      · exact absurd h2' (old i h1 hi)
      · exact absurd h1' (old j h2 hj)
      · omega
  · rw [e, if_neg (by omega), if_neg (by omega)]
    have hjl := (List.getElem?_eq_some_iff.1 hj).1
    exact ⟨h, ⟨[], by simp⟩, by omega, by omega⟩
theorem Lit_.app {ins : Int} {l t : List A2} {a : Int} (h : Lit_ ins l a) : Lit_ ins (l ++ t) a := ⟨h.1, by have := h.2; rw [List.length_append]; push_cast; omega⟩
theorem Lit_.turn {ins : Int} {l : List A2} {a : Int} (h : Lit_ ins l a) : Lit_ ins l (turn a) := ⟨turn_nonneg h.1, turn_lt h.2⟩
def orL (l : List A2) (a b : Int) : List A2 := andL l (turn a) (turn b)
def orX (ins : Int) (l : List A2) (a b : Int) : Int := turn (andX ins l (turn a) (turn b))
def muxL (ins : Int) (l : List A2) (i a b : Int) : List A2 :=
  orL (andL (andL l i a) (turn i) b) (andX ins l i a) (andX ins (andL l i a) (turn i) b)
def muxX (ins : Int) (l : List A2) (i a b : Int) : Int :=
  orX ins (andL (andL l i a) (turn i) b) (andX ins l i a) (andX ins (andL l i a) (turn i) b)
def xorL (ins : Int) (l : List A2) (a b : Int) : List A2 := muxL ins l a (turn b) b
def xorX (ins : Int) (l : List A2) (a b : Int) : Int := muxX ins l a (turn b) b
theorem or_good {ins : Int} {l : List A2} {a b : Int} (h : GoodA ins l) (ha : Lit_ ins l a) (hb : Lit_ ins l b) :
    GoodA ins (orL l a b) ∧ (∃ t, orL l a b = l ++ t ∧ t.length ≤ 1) ∧ Lit_ ins (orL l a b) (orX ins l a b) := by
  obtain ⟨h1, h2, h3⟩ := and_good h ha.turn hb.turn
  exact ⟨h1, h2, h3.turn⟩
theorem mux_good {ins : Int} {l : List A2} {i a b : Int} (h : GoodA ins l) (hi : Lit_ ins l i) (ha : Lit_ ins l a) (hb : Lit_ ins l b) :
    GoodA ins (muxL ins l i a b) ∧ (∃ t, muxL ins l i a b = l ++ t ∧ t.length ≤ 3) ∧ Lit_ ins (muxL ins l i a b) (muxX ins l i a b) := by
  obtain ⟨h1, ⟨t1, e1, n1⟩, x1⟩ := and_good h hi ha
  have hi1 : Lit_ ins (andL l i a) (turn i) := by rw [e1]; exact hi.turn.app
  have hb1 : Lit_ ins (andL l i a) b := by rw [e1]; exact hb.app
  obtain ⟨h2, ⟨t2, e2, n2⟩, x2⟩ := and_good h1 hi1 hb1
  have x1' : Lit_ ins (andL (andL l i a) (turn i) b) (andX ins l i a) := by rw [e2]; exact x1.app
  obtain ⟨h3, ⟨t3, e3, n3⟩, x3⟩ := or_good h2 x1' x2
  refine ⟨h3, ⟨t1 ++ (t2 ++ t3), ?_, by simp; omega⟩, x3⟩
  unfold muxL
  rw [e3, e2, e1]
  simp
theorem xor_good {ins : Int} {l : List A2} {a b : Int} (h : GoodA ins l) (ha : Lit_ ins l a) (hb : Lit_ ins l b) :
    GoodA ins (xorL ins l a b) ∧ (∃ t, xorL ins l a b = l ++ t ∧ t.length ≤ 3) ∧ Lit_ ins (xorL ins l a b) (xorX ins l a b) := mux_good h ha hb.turn hb
/-- Few enough that nothing wraps. -/
def Few (ins : Int) (l : List A2) : Prop := 0 ≤ ins ∧ ins ≤ 1000 ∧ l.length < 900000
theorem Lit_.bd {ins : Int} {l : List A2} {a : Int} (hf : Few ins l) (h : Lit_ ins l a) : 0 ≤ a ∧ a < 2000000 := ⟨h.1, by have := h.2; have := hf.2.1; have := hf.2.2; omega⟩
theorem and_ev' {ins : Int} {l : List A2} {a b : Int} (hf : Few ins l) (ha : Lit_ ins l a) (hb : Lit_ ins l b) : Ev (fun k => proofmarkref13_And.f k ins l a b) (ins, andL l a b, andX ins l a b) := by
  have h1 := ha.bd hf
  have h2 := hb.bd hf
  exact and_ev ins l a b (by have := hf.2.2; omega) hf.1 (by have := hf.2.1; omega) h1.1 (by omega) h2.1 (by omega)
theorem turn_f {a : Int} (h0 : 0 ≤ a) (h1 : a < 2000000) : proofmarkref13_turn.f a = some (turn a) := by
  unfold proofmarkref13_turn.f
  rw [xor_one a h0 (by omega)]
theorem few_and {ins : Int} {l : List A2} {a b : Int} {n : Nat} (hf : Few ins l) (hn : l.length + n + 1 < 900000) : Few ins (andL l a b) ∧ (andL l a b).length ≤ l.length + 1 := by
  have : (andL l a b).length ≤ l.length + 1 := by
    unfold andL
    split
    · omega
    · split
      · omega
      · split
        · simp
        · omega
  exact ⟨⟨hf.1, hf.2.1, by omega⟩, this⟩
theorem or_ev {ins : Int} {l : List A2} {a b : Int} (h : GoodA ins l) (hf : Few ins l) (hn : l.length + 10 < 900000) (ha : Lit_ ins l a) (hb : Lit_ ins l b) : Ev (fun k => proofmarkref13_Or.f k ins l a b) (ins, orL l a b, orX ins l a b) := by
  have h1 := ha.bd hf
  have h2 := hb.bd hf
  unfold proofmarkref13_Or.f
  simp only [turn_f h1.1 h1.2, turn_f h2.1 h2.2, Option.bind_some]
  refine Ev.bind (f := fun k bt => _) (and_ev' hf ha.turn hb.turn) ?_
  have hx := (and_good h ha.turn hb.turn).2.2
  have h3 := hx.bd (few_and (n := 9) hf (by omega)).1
  simp only [turn_f h3.1 h3.2, Option.bind_some]
  exact Ev.now _
theorem mux_ev {ins : Int} {l : List A2} {i a b : Int} (h : GoodA ins l) (hf : Few ins l) (hn : l.length + 20 < 900000) (hi : Lit_ ins l i) (ha : Lit_ ins l a) (hb : Lit_ ins l b) : Ev (fun k => proofmarkref13_Mux.f k ins l i a b) (ins, muxL ins l i a b, muxX ins l i a b) := by
  obtain ⟨g1, ⟨t1, e1, n1⟩, x1⟩ := and_good h hi ha
  have f1 := few_and (n := 9) (a := i) (b := a) hf (by omega)
  have hi1 : Lit_ ins (andL l i a) (turn i) := by rw [e1]; exact hi.turn.app
  have hb1 : Lit_ ins (andL l i a) b := by rw [e1]; exact hb.app
  obtain ⟨g2, ⟨t2, e2, n2⟩, x2⟩ := and_good g1 hi1 hb1
  have f2 := few_and (n := 9) (a := turn i) (b := b) f1.1 (by omega)
  have x1' : Lit_ ins (andL (andL l i a) (turn i) b) (andX ins l i a) := by rw [e2]; exact x1.app
  have h1 := hi.bd hf
  unfold proofmarkref13_Mux.f
  refine Ev.bind (f := fun k bt => _) (and_ev' hf hi ha) ?_
  simp only [turn_f h1.1 h1.2, Option.bind_some]
  refine Ev.bind (f := fun k bt => _) (and_ev' f1.1 hi1 hb1) ?_
  have q1 := f1.2
  have q2 := f2.2
  refine Ev.bind (f := fun k bt => _) (or_ev (l := andL (andL l i a) (turn i) b) g2 f2.1 (by omega) x1' x2) ?_
  exact Ev.now _
theorem xor_ev {ins : Int} {l : List A2} {a b : Int} (h : GoodA ins l) (hf : Few ins l) (hn : l.length + 20 < 900000) (ha : Lit_ ins l a) (hb : Lit_ ins l b) : Ev (fun k => proofmarkref13_Xor.f k ins l a b) (ins, xorL ins l a b, xorX ins l a b) := by
  have h2 := hb.bd hf
  unfold proofmarkref13_Xor.f
  simp only [turn_f h2.1 h2.2, Option.bind_some]
  refine Ev.bind (f := fun k bt => _) (mux_ev h hf hn ha hb.turn hb) ?_
  exact Ev.now _
theorem literal_f {ins : Int} {l : List A2} {n : Int} (hf : Few ins l) (h0 : 0 ≤ n) (h1 : n ≤ 65535) : proofmarklaw13_literal.f ins l n = some (n % (2 * (ins + l.length + 1))) ∧ Lit_ ins l (n % (2 * (ins + l.length + 1))) := by
  have a1 := hf.1
  have a2 := hf.2.1
  have a3 := hf.2.2
  have hm : 0 < 2 * (ins + (l.length : Int) + 1) := by omega
  constructor
  · unfold proofmarklaw13_literal.f
    rw [w64 (n := ins + (l.length : Int)) (by omega) (by omega), w64 (n := ins + (l.length : Int) + 1) (by omega) (by omega), w64 (n := 2 * (ins + (l.length : Int) + 1)) (by omega) (by omega), w64 (n := n) (by omega) (by omega), if_neg (by omega), tmodn h0]
  · exact ⟨Int.emod_nonneg _ (by omega), by have := Int.emod_lt_of_pos n hm; omega⟩
/-- What is known of an op that came in. -/
def OpOk (x : S53) : Prop := (0 ≤ x.f0 ∧ x.f0 ≤ 255) ∧ (0 ≤ x.f1 ∧ x.f1 ≤ 65535) ∧ (0 ≤ x.f2 ∧ x.f2 ≤ 65535) ∧ (0 ≤ x.f3 ∧ x.f3 ≤ 65535)
theorem made_loop (ops : List S53) (hops : ∀ x ∈ ops, OpOk x) (hlen : ops.length ≤ 120) (ins : Int) : ∀ (d i : Nat) (l : List A2) (lits : List Int), ops.length - i = d → i ≤ ops.length → GoodA ins l → l.length ≤ 3 * i → lits.length = i →
    ∃ l' lits', Ev (fun k => proofmarklaw13_Made.l0 k ops lits (i : Int) ins l) (ins, l', lits') ∧ GoodA ins l' ∧ l'.length ≤ 3 * ops.length := by
  intro d
  induction d with
  | zero =>
    intro i l lits hd hi hg hl hlit
    refine ⟨l, lits, Ev.step (fun k => by simp only [proofmarklaw13_Made.l0]; rw [if_neg (by omega)]) (Ev.now _), hg, by omega⟩
  | succ d ih =>
    intro i l lits hd hi hg hl hlit
    have hlt : i < ops.length := by omega
    have hx : rd_T53 ops (i : Int) = ops[i] := by
      unfold rd_T53
      rw [Int.toNat_natCast, List.getD_eq_getElem?_getD, List.getElem?_eq_getElem hlt]
      rfl
    have hxo := hops _ (List.getElem_mem hlt)
    generalize ops[i] = x at hx hxo
    obtain ⟨h0, h1, h2, h3⟩ := hxo
    have hf : Few ins l := ⟨hg.ins0, by have := hg.ins1; omega, by omega⟩
    obtain ⟨e1, l1⟩ := literal_f hf h1.1 h1.2
    obtain ⟨e2, l2⟩ := literal_f hf h2.1 h2.2
    obtain ⟨e3, l3⟩ := literal_f hf h3.1 h3.2
    have next : ∀ (l' : List A2) (y : Int), GoodA ins l' → l'.length ≤ l.length + 3 → ∃ l2 lits', Ev (fun k => if lits.length < 17592186044416 then proofmarklaw13_Made.l0 k ops (lits ++ [y]) (wrap64 ((i : Int) + 1)) ins l' else none) (ins, l2, lits') ∧ GoodA ins l2 ∧ l2.length ≤ 3 * ops.length := by
      intro l' y hg' hl'
      obtain ⟨l2, lits', hev, hg2, hl2⟩ := ih (i + 1) l' (lits ++ [y]) (by omega) (by omega) hg' (by omega) (by simp [hlit])
      exact ⟨l2, lits', Ev.ite_pos (by omega) (by rw [succ64 (by omega)]; exact hev), hg2, hl2⟩
    have body : ∃ l2 lits', Ev (fun k => if Int.tmod x.f0 4 = 0 then ((proofmarkref13_And.f k ins l (x.f1 % (2 * (ins + l.length + 1))) (x.f2 % (2 * (ins + l.length + 1)))).bind fun bt => if lits.length < 17592186044416 then proofmarklaw13_Made.l0 k ops (lits ++ [bt.2.2]) (wrap64 ((i : Int) + 1)) bt.1 bt.2.1 else none)
        else if Int.tmod x.f0 4 = 1 then ((proofmarkref13_Or.f k ins l (x.f1 % (2 * (ins + l.length + 1))) (x.f2 % (2 * (ins + l.length + 1)))).bind fun bt => if lits.length < 17592186044416 then proofmarklaw13_Made.l0 k ops (lits ++ [bt.2.2]) (wrap64 ((i : Int) + 1)) bt.1 bt.2.1 else none)
        else if Int.tmod x.f0 4 = 2 then ((proofmarkref13_Xor.f k ins l (x.f1 % (2 * (ins + l.length + 1))) (x.f2 % (2 * (ins + l.length + 1)))).bind fun bt => if lits.length < 17592186044416 then proofmarklaw13_Made.l0 k ops (lits ++ [bt.2.2]) (wrap64 ((i : Int) + 1)) bt.1 bt.2.1 else none)
        else if Int.tmod x.f0 4 = 3 then ((proofmarkref13_Mux.f k ins l (x.f1 % (2 * (ins + l.length + 1))) (x.f2 % (2 * (ins + l.length + 1))) (x.f3 % (2 * (ins + l.length + 1)))).bind fun bt => if lits.length < 17592186044416 then proofmarklaw13_Made.l0 k ops (lits ++ [bt.2.2]) (wrap64 ((i : Int) + 1)) bt.1 bt.2.1 else none)
        else if lits.length < 17592186044416 then proofmarklaw13_Made.l0 k ops (lits ++ [0]) (wrap64 ((i : Int) + 1)) ins l else none) (ins, l2, lits') ∧ GoodA ins l2 ∧ l2.length ≤ 3 * ops.length := by
      by_cases c0 : Int.tmod x.f0 4 = 0
      · simp only [if_pos c0]
        obtain ⟨g, ⟨t, e, n⟩, _⟩ := and_good hg l1 l2
        obtain ⟨l2', lits', hev, r⟩ := next _ (andX ins l (x.f1 % (2 * (ins + l.length + 1))) (x.f2 % (2 * (ins + l.length + 1)))) g (by rw [e]; simp; omega)
        exact ⟨l2', lits', Ev.bind (f := fun k bt => _) (and_ev' hf l1 l2) hev, r⟩
      simp only [if_neg c0]
      by_cases c1 : Int.tmod x.f0 4 = 1
      · simp only [if_pos c1]
        obtain ⟨g, ⟨t, e, n⟩, _⟩ := or_good hg l1 l2
        obtain ⟨l2', lits', hev, r⟩ := next _ (orX ins l (x.f1 % (2 * (ins + l.length + 1))) (x.f2 % (2 * (ins + l.length + 1)))) g (by rw [e]; simp; omega)
        exact ⟨l2', lits', Ev.bind (f := fun k bt => _) (or_ev hg hf (by omega) l1 l2) hev, r⟩
      simp only [if_neg c1]
      by_cases c2 : Int.tmod x.f0 4 = 2
      · simp only [if_pos c2]
        obtain ⟨g, ⟨t, e, n⟩, _⟩ := xor_good hg l1 l2
        obtain ⟨l2', lits', hev, r⟩ := next _ (xorX ins l (x.f1 % (2 * (ins + l.length + 1))) (x.f2 % (2 * (ins + l.length + 1)))) g (by rw [e]; simp; omega)
        exact ⟨l2', lits', Ev.bind (f := fun k bt => _) (xor_ev hg hf (by omega) l1 l2) hev, r⟩
      simp only [if_neg c2]
      by_cases c3 : Int.tmod x.f0 4 = 3
      · simp only [if_pos c3]
        obtain ⟨g, ⟨t, e, n⟩, _⟩ := mux_good hg l1 l2 l3
        obtain ⟨l2', lits', hev, r⟩ := next _ (muxX ins l (x.f1 % (2 * (ins + l.length + 1))) (x.f2 % (2 * (ins + l.length + 1))) (x.f3 % (2 * (ins + l.length + 1)))) g (by rw [e]; simp; omega)
        exact ⟨l2', lits', Ev.bind (f := fun k bt => _) (mux_ev hg hf (by omega) l1 l2 l3) hev, r⟩
      simp only [if_neg c3]
      exact next l 0 hg (by omega)
    obtain ⟨l2', lits', hev, r⟩ := body
    refine ⟨l2', lits', Ev.step (fun k => ?_) hev, r⟩
    simp only [proofmarklaw13_Made.l0]
    rw [if_pos (by omega), if_pos (by omega), hx, e1, e2, e3]
    simp only [Option.bind_some]
theorem made_ev (x0 : Int) (ops : List S53) (h0 : 0 ≤ x0) (h1 : x0 ≤ 255) (hops : ∀ x ∈ ops, OpOk x) (hlen : ops.length ≤ 120) :
    ∃ ins l lits, Ev (fun k => proofmarklaw13_Made.f k x0 ops) (ins, l, lits) ∧ GoodA ins l ∧ l.length ≤ 360 := by
  have hm : 0 ≤ x0 % 9 ∧ x0 % 9 ≤ 8 := by omega
  obtain ⟨l, lits, hev, hg, hl⟩ := made_loop ops hops hlen (x0 % 9) ops.length 0 [] [] (by omega) (by omega) ⟨hm.1, hm.2, fun i x h => by simp at h, fun i j x h => by simp at h⟩ (by simp) rfl
  refine ⟨x0 % 9, l, lits, ?_, hg, by omega⟩
  unfold proofmarklaw13_Made.f proofmarkref13_New.f
  simp only [Option.bind_some]
  rw [w64 (n := x0) (by omega) (by omega), tmodn h0]
  exact hev
theorem great_f (ops : List S53) : proofmarklaw13_Great.f ops = some (decide ((ops.length : Int) > 120)) := rfl
end Go.Proofs.Ytdfbnlmjnollnaa.PAig
