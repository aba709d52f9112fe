/- Plain facts: Go's bit operations on small naturals of 64 bits; the wrap of what fits; loops by rounds. Plain facts of the document's graphs of ands: what find, And, Or, Xor, Mux and Made come to, and that what is made is a right graph. Plain facts of clauses: literals, the clauses of a graph, rows that are alike; the law's live question. Plain facts: whether clauses are of variables within bounds. Plain facts of values: the bits of a graph's inputs, every variable's value, whether clauses are met, and that the graph's own values alone meet its clauses. -/
import Derived.Test.YtdfbnlmjnollnaaWWords
import Derived.Test.YtdfbnlmjnollnaaWMore
import Derived.IntWalk
import Derived.Test.YtdfbnlmjnollnaaXb16
import Derived.Test.YtdfbnlmjnollnaaXb7
import Derived.Test.YtdfbnlmjnollnaaXb3
import Derived.Test.YtdfbnlmjnollnaaXb5
import Derived.Test.YtdfbnlmjnollnaaXb18
import Derived.Test.YtdfbnlmjnollnaaXb19
import Derived.Test.YtdfbnlmjnollnaaXb17
import Derived.Test.YtdfbnlmjnollnaaXb1
import Derived.Test.YtdfbnlmjnollnaaXb4
import Derived.Test.YtdfbnlmjnollnaaXb6
import Derived.Test.YtdfbnlmjnollnaaXb21
import Derived.Test.YtdfbnlmjnollnaaXb27
import Derived.Test.YtdfbnlmjnollnaaXb26
import Derived.Test.YtdfbnlmjnollnaaXb25
import Derived.Test.YtdfbnlmjnollnaaXb28
namespace Go.Proofs.Ytdfbnlmjnollnaa.PBits
open Go.RowKit Go.Proofs.YtdfbnlmjnollnaaW.PrintWords Go.Proofs.YtdfbnlmjnollnaaW.PrintMore
theorem w64 {n : Int} (h0 : -9223372036854775808 ≤ n) (h1 : n ≤ 9223372036854775807) : wrap64 n = n := by unfold wrap64; omega
theorem succ64 {i : Nat} (h : i < 4611686018427387904) : wrap64 ((i : Int) + 1) = ((i + 1 : Nat) : Int) := by rw [w64 (by omega) (by omega)]; push_cast; rfl
theorem wrapi (n : Int) (h0 : 0 ≤ n) (h1 : n < 9223372036854775808) : IntKind.i64.wrap n = n := by rw [IntKind.wrap_i64]; omega
theorem toN (a : Nat) (ha : a < 9223372036854775808) : (BitVec.ofInt 64 (a : Int)).toNat = a := by
  rw [BitVec.ofInt_natCast, BitVec.toNat_ofNat]; exact Nat.mod_eq_of_lt (by omega)
theorem xor_nat (a b : Nat) (ha : a < 9223372036854775808) (hb : b < 9223372036854775808) : Go.bits .xor .i64 (a : Int) (b : Int) = ((a ^^^ b : Nat) : Int) := by
  have hx : a ^^^ b < 2 ^ 63 := Nat.xor_lt_two_pow (by omega) (by omega)
  show IntKind.i64.wrap ((BitVec.ofInt 64 (a : Int) ^^^ BitVec.ofInt 64 (b : Int)).toNat : Int) = _
  rw [BitVec.toNat_xor, toN a ha, toN b hb]
  exact wrapi _ (by omega) (by omega)
theorem and_nat (a b : Nat) (ha : a < 9223372036854775808) (hb : b < 9223372036854775808) : Go.bits .and .i64 (a : Int) (b : Int) = ((a &&& b : Nat) : Int) := by
  have hx : a &&& b < 2 ^ 63 := Nat.and_lt_two_pow a (by omega)
  show IntKind.i64.wrap ((BitVec.ofInt 64 (a : Int) &&& BitVec.ofInt 64 (b : Int)).toNat : Int) = _
  rw [BitVec.toNat_and, toN a ha, toN b hb]
  exact wrapi _ (by omega) (by omega)
theorem or_nat (a b : Nat) (ha : a < 9223372036854775808) (hb : b < 9223372036854775808) : Go.bits .or .i64 (a : Int) (b : Int) = ((a ||| b : Nat) : Int) := by
  have hx : a ||| b < 2 ^ 63 := Nat.or_lt_two_pow (by omega) (by omega)
  show IntKind.i64.wrap ((BitVec.ofInt 64 (a : Int) ||| BitVec.ofInt 64 (b : Int)).toNat : Int) = _
  rw [BitVec.toNat_or, toN a ha, toN b hb]
  exact wrapi _ (by omega) (by omega)
/-- A literal, turned. -/
def turn (a : Int) : Int := if a % 2 = 0 then a + 1 else a - 1
theorem nat_xor_one (a : Nat) : a ^^^ 1 = if a % 2 = 0 then a + 1 else a - 1 := by
  have h1 : (a ^^^ 1) / 2 = a / 2 := by
    have := Nat.shiftRight_xor_distrib (a := a) (b := 1) (i := 1)
    simpa [Nat.shiftRight_eq_div_pow] using this
  have h2 : (a ^^^ 1) % 2 = if a % 2 = 0 then 1 else 0 := by
    have h3 := Nat.testBit_xor a 1 0
    simp only [Nat.testBit_zero] at h3
    rcases Nat.mod_two_eq_zero_or_one a with h | h <;> rcases Nat.mod_two_eq_zero_or_one (a ^^^ 1) with h' | h' <;> simp [h, h'] at h3 ⊢
  split at h2 <;> rename_i h
  · rw [if_pos h]; omega
  · rw [if_neg h]; omega
theorem xor_one (a : Int) (h0 : 0 ≤ a) (h1 : a < 9223372036854775807) : Go.bits .xor .i64 a 1 = turn a := by
  obtain ⟨n, rfl⟩ := Int.eq_ofNat_of_zero_le h0
  have := xor_nat n 1 (by omega) (by omega)
  rw [show ((1 : Nat) : Int) = 1 from rfl] at this
  rw [this, nat_xor_one]
  unfold turn
  split <;> split <;> omega
theorem and_one (a : Int) (h0 : 0 ≤ a) (h1 : a < 9223372036854775808) : Go.bits .and .i64 a 1 = a % 2 := by
  obtain ⟨n, rfl⟩ := Int.eq_ofNat_of_zero_le h0
  have := and_nat n 1 (by omega) (by omega)
  rw [show ((1 : Nat) : Int) = 1 from rfl] at this
  rw [this, Nat.and_one_is_mod]
  omega
theorem turn_turn (a : Int) : turn (turn a) = a := by unfold turn; split <;> split <;> omega
theorem turn_nonneg {a : Int} (h : 0 ≤ a) : 0 ≤ turn a := by unfold turn; split <;> omega
theorem turn_lt {a n : Int} (h : a < 2 * n) : turn a < 2 * n := by unfold turn; split <;> omega
theorem turn_div (a : Int) : turn a / 2 = a / 2 := by unfold turn; split <;> omega
theorem turn_mod (a : Int) : turn a % 2 = 1 - a % 2 := by unfold turn; split <;> omega
theorem turn_ne (a : Int) : turn a ≠ a := by unfold turn; split <;> omega
theorem tdiv2 {a : Int} (h : 0 ≤ a) : Int.tdiv a 2 = a / 2 := Int.tdiv_eq_ediv_of_nonneg h
theorem tmodn {a b : Int} (h : 0 ≤ a) : Int.tmod a b = a % b := Int.tmod_eq_emod_of_nonneg h
theorem lit_u8 {x : Int} (h : (Lit.int .u8 x).wf = true) : 0 ≤ x ∧ x ≤ 255 := by
  have h1 : IntKind.u8.min = 0 := by decide
  have h2 : IntKind.u8.max = 255 := by decide
  simp [Lit.wf] at h
  omega
theorem lit_u16 {x : Int} (h : (Lit.int .u16 x).wf = true) : 0 ≤ x ∧ x ≤ 65535 := by
  have h1 : IntKind.u16.min = 0 := by decide
  have h2 : IntKind.u16.max = 65535 := by decide
  simp [Lit.wf] at h
  omega
theorem mx_max (a b : Int) : mx a b = max a b := by unfold mx; omega
theorem Ev.ite_pos {α : Type} {c : Prop} [Decidable c] {g f : Nat → Option α} {r : α} (hc : c) (h : Ev g r) : Ev (fun k => if c then g k else f k) r := by
  simp only [if_pos hc]; exact h
theorem Ev.ite_neg {α : Type} {c : Prop} [Decidable c] {g f : Nat → Option α} {r : α} (hc : ¬ c) (h : Ev f r) : Ev (fun k => if c then g k else f k) r := by
  simp only [if_neg hc]; exact h
theorem Ev.const {α : Type} {o : Option α} {r : α} (h : o = some r) : Ev (fun _ => o) r := ⟨0, fun _ _ => h⟩
theorem Ev.bindc {α β : Type} {o : Option α} {f : Nat → α → Option β} {a : α} {r : β} (h : o = some a) (k : Ev (fun n => f n a) r) : Ev (fun n => o.bind (f n)) r := by
  subst h; exact k
end Go.Proofs.Ytdfbnlmjnollnaa.PBits
namespace Go.Proofs.Ytdfbnlmjnollnaa.PAig
open Go.RowKit Go.Proofs.YtdfbnlmjnollnaaW.PrintWords Go.Proofs.YtdfbnlmjnollnaaW.PrintMore Go.Proofs.Ytdfbnlmjnollnaa.PBits Go.Proofs.Ytdfbnlmjnollnaa.Xb
abbrev A2 := S49
/-- The place of an and, from i on; -1: there is none. -/
def idx (a b : Int) : List A2 → Int → Int
  | [], _ => -1
  | x :: xs, i => if x.f0 = a ∧ x.f1 = b then i else idx a b xs (i + 1)
theorem idx_spec (a b : Int) : ∀ (l : List A2) (i : Int), 0 ≤ i → (idx a b l i = -1 ∧ ∀ x ∈ l, ¬ (x.f0 = a ∧ x.f1 = b)) ∨ (∃ j : Nat, idx a b l i = i + j ∧ l[j]? = some ⟨a, b⟩)
  | [], i, _ => .inl ⟨rfl, fun x hx => by cases hx⟩
  | x :: xs, i, hi => by
    unfold idx
    by_cases h : x.f0 = a ∧ x.f1 = b
    · rw [if_pos h]
      refine .inr ⟨0, by simp, ?_⟩
      obtain ⟨rfl, rfl⟩ := h
      rfl
    · rw [if_neg h]
      rcases idx_spec a b xs (i + 1) (by omega) with ⟨h1, h2⟩ | ⟨j, h1, h2⟩
      · refine .inl ⟨h1, fun y hy => ?_⟩
        rcases List.mem_cons.1 hy with rfl | hy
        · exact h
        · exact h2 y hy
      · exact .inr ⟨j + 1, by rw [h1]; push_cast; omega, by simpa using h2⟩
theorem find_ev (ins a b : Int) (l : List A2) (hl : l.length < 1000000) : ∀ (d : Nat) (i : Nat), l.length - i = d → i ≤ l.length →
    Ev (fun k => proofmarkref13_find.l0 k a b (l.length : Int) (i : Int) ins l) (idx a b (l.drop i) i) := by
  intro d
  induction d with
  | zero =>
    intro i hd hi
    refine Ev.step (fun k => by simp only [proofmarkref13_find.l0]; rw [if_neg (by omega)]) ?_
    rw [List.drop_eq_nil_of_le (by omega)]
    exact Ev.now _
  | succ d ih =>
    intro i hd hi
    have hlt : i < l.length := by omega
    have hx : rd_T49 l (i : Int) = l[i] := by
      unfold rd_T49
      rw [Int.toNat_natCast, List.getD_eq_getElem?_getD, List.getElem?_eq_getElem hlt]
      rfl
    have hs : wrap64 ((i : Int) + 1) = ((i + 1 : Nat) : Int) := by rw [w64 (by omega) (by omega)]; push_cast; rfl
    refine Ev.step (fun k => by simp only [proofmarkref13_find.l0]; rw [if_pos (by omega), if_pos (by omega), if_pos (by omega), hx, hs]) ?_
    rw [List.drop_eq_getElem_cons hlt]
    unfold idx
    by_cases h0 : l[i].f0 = a
    · refine Ev.ite_pos h0 ?_
      by_cases h1 : l[i].f1 = b
      · rw [if_pos ⟨h0, h1⟩]
        exact Ev.ite_pos h1 (Ev.now _)
      · rw [if_neg (fun h => h1 h.2)]
        exact Ev.ite_neg h1 (ih (i + 1) (by omega) (by omega))
    · rw [if_neg (fun h => h0 h.1)]
      exact Ev.ite_neg h0 (ih (i + 1) (by omega) (by omega))
def lo (a b : Int) : Int := if a > b then b else a
def hi (a b : Int) : Int := if a > b then a else b
/-- And: the graph's ands, behind it. -/
def andL (l : List A2) (a b : Int) : List A2 :=
  if lo a b = 0 ∨ (lo a b / 2 = hi a b / 2 ∧ lo a b ≠ hi a b) then l else if lo a b = 1 ∨ lo a b = hi a b then l else if idx (lo a b) (hi a b) l 0 < 0 then l ++ [⟨lo a b, hi a b⟩] else l
/-- And: the literal. -/
def andX (ins : Int) (l : List A2) (a b : Int) : Int :=
  if lo a b = 0 ∨ (lo a b / 2 = hi a b / 2 ∧ lo a b ≠ hi a b) then 0 else if lo a b = 1 ∨ lo a b = hi a b then hi a b else if idx (lo a b) (hi a b) l 0 < 0 then 2 * (ins + 1 + l.length) else 2 * (ins + 1 + idx (lo a b) (hi a b) l 0)
theorem and_ev (ins : Int) (l : List A2) (a b : Int) (hl : l.length < 1000000) (hi0 : 0 ≤ ins) (hi1 : ins < 1000000) (ha : 0 ≤ a) (ha1 : a < 4611686018427387904) (hb : 0 ≤ b) (hb1 : b < 4611686018427387904) :
    Ev (fun k => proofmarkref13_And.f k ins l a b) (ins, andL l a b, andX ins l a b) := by
  have main : ∀ x y : Int, 0 ≤ x → x < 4611686018427387904 → 0 ≤ y → y < 4611686018427387904 → lo a b = x → hi a b = y → Ev (fun k => proofmarkref13_And.j0 k x y ins l) (ins, andL l a b, andX ins l a b) := by
    intro x y hx hx1 hy hy1 ex ey
    unfold andL andX
    rw [ex, ey]
    have d1 : wrap64 (Int.tdiv x 2) = x / 2 := by rw [tdiv2 hx]; exact w64 (by omega) (by omega)
    have d2 : wrap64 (Int.tdiv y 2) = y / 2 := by rw [tdiv2 hy]; exact w64 (by omega) (by omega)
    have rest : ¬ (x = 0 ∨ (x / 2 = y / 2 ∧ x ≠ y)) → Ev (fun k => proofmarkref13_And.j1 k x y false ins l) (ins, if x = 1 ∨ x = y then l else if idx x y l 0 < 0 then l ++ [⟨x, y⟩] else l, if x = 1 ∨ x = y then y else if idx x y l 0 < 0 then 2 * (ins + 1 + l.length) else 2 * (ins + 1 + idx x y l 0)) := by
      intro hn
      have tail : Ev (fun k => proofmarkref13_And.j2 k x y false ins l) (ins, if idx x y l 0 < 0 then l ++ [⟨x, y⟩] else l, if idx x y l 0 < 0 then 2 * (ins + 1 + l.length) else 2 * (ins + 1 + idx x y l 0)) := by
        refine Ev.step (fun k => by simp only [proofmarkref13_And.j2]; rw [if_neg (by decide)]) ?_
        have hf := find_ev ins x y l hl l.length 0 (by omega) (by omega)
        rw [List.drop_zero, show ((0 : Nat) : Int) = (0 : Int) from rfl] at hf
        refine Ev.bind (f := fun k t143 => _) hf ?_
        have hs := idx_spec x y l 0 (by omega)
        by_cases hneg : idx x y l 0 < 0
        · simp only [if_pos hneg, Option.bind_some, List.nil_append]
          refine Ev.ite_pos (by simp; omega) (Ev.ite_pos (by omega) (Ev.const ?_))
          rw [w64 (n := ins + 1) (by omega) (by omega), w64 (n := ins + 1 + (l.length : Int)) (by omega) (by omega), w64 (by omega) (by omega)]
        · simp only [if_neg hneg]
          refine Ev.const ?_
          have hb2 : idx x y l 0 < 1000000 := by
            rcases hs with ⟨h1, _⟩ | ⟨j, h1, h2⟩
            · omega
            · have := (List.getElem?_eq_some_iff.1 h2).1
              omega
          rw [w64 (n := ins + 1) (by omega) (by omega), w64 (n := ins + 1 + idx x y l 0) (by omega) (by omega), w64 (by omega) (by omega)]
      refine Ev.step (fun k => by simp only [proofmarkref13_And.j1]; rw [if_neg (by decide)]) ?_
      have fin : Ev (fun k => proofmarkref13_And.j2 k x y true ins l) (ins, l, y) := Ev.step (fun k => by simp only [proofmarkref13_And.j2]; rw [if_pos trivial]) (Ev.now _)
      by_cases h1 : x = 1
      · rw [if_pos (Or.inl h1), if_pos (Or.inl h1)]
        exact Ev.ite_pos h1 fin
      · refine Ev.ite_neg h1 ?_
        by_cases h2 : x = y
        · rw [if_pos (Or.inr h2), if_pos (Or.inr h2), show (x == y) = true from beq_iff_eq.2 h2]
          exact fin
        · have h3 : ¬ (x = 1 ∨ x = y) := fun h => h.elim h1 h2
          rw [if_neg h3, if_neg h3, show (x == y) = false from beq_eq_false_iff_ne.2 h2]
          exact tail
    have zero : Ev (fun k => proofmarkref13_And.j1 k x y true ins l) (ins, l, (0 : Int)) := Ev.step (fun k => by simp only [proofmarkref13_And.j1]; rw [if_pos trivial]) (Ev.now _)
    refine Ev.step (fun k => by simp only [proofmarkref13_And.j0]; rw [d1, d2]) ?_
    by_cases h0 : x = 0
    · rw [if_pos (Or.inl h0), if_pos (Or.inl h0)]
      exact Ev.ite_pos h0 zero
    · refine Ev.ite_neg h0 ?_
      by_cases h1 : x / 2 = y / 2
      · refine Ev.ite_pos h1 ?_
        by_cases h2 : x = y
        · rw [show (x != y) = false from by simpa using h2]
          have h3 : ¬ (x = 0 ∨ (x / 2 = y / 2 ∧ x ≠ y)) := fun h => h.elim h0 (fun h => h.2 h2)
          rw [if_neg h3, if_neg h3]
          exact rest h3
        · rw [show (x != y) = true from by simpa using h2, if_pos (Or.inr ⟨h1, h2⟩), if_pos (Or.inr ⟨h1, h2⟩)]
          exact zero
      · have h3 : ¬ (x = 0 ∨ (x / 2 = y / 2 ∧ x ≠ y)) := fun h => h.elim h0 (fun h => h1 h.1)
        rw [if_neg h3, if_neg h3]
        exact Ev.ite_neg h1 (rest h3)
  unfold proofmarkref13_And.f
  by_cases hab : a > b
  · exact Ev.ite_pos hab (main b a hb hb1 ha ha1 (if_pos hab) (if_pos hab))
  · exact Ev.ite_neg hab (main a b ha ha1 hb hb1 (if_neg hab) (if_neg hab))
/-- A right graph, of few inputs and ands. -/
structure GoodA (ins : Int) (l : List A2) : Prop where
  ins0 : 0 ≤ ins
  ins1 : ins ≤ 8
  in_ : ∀ (i : Nat) (x : A2), l[i]? = some x → 2 ≤ x.f0 ∧ x.f0 < x.f1 ∧ x.f1 < 2 * (ins + 1 + i) ∧ x.f0 / 2 ≠ x.f1 / 2
  once : ∀ (i j : Nat) (x : A2), l[i]? = some x → l[j]? = some x → i = j
/-- A literal of a graph. -/
def Lit_ (ins : Int) (l : List A2) (a : Int) : Prop := 0 ≤ a ∧ a < 2 * (ins + 1 + l.length)
theorem lo_lit {ins : Int} {l : List A2} {a b : Int} (ha : Lit_ ins l a) (hb : Lit_ ins l b) : Lit_ ins l (lo a b) := by unfold lo; split <;> assumption
theorem hi_lit {ins : Int} {l : List A2} {a b : Int} (ha : Lit_ ins l a) (hb : Lit_ ins l b) : Lit_ ins l (hi a b) := by unfold hi; split <;> assumption
theorem lo_le_hi (a b : Int) : lo a b ≤ hi a b := by unfold lo hi; split <;> omega
theorem and_good {ins : Int} {l : List A2} {a b : Int} (h : GoodA ins l) (ha : Lit_ ins l a) (hb : Lit_ ins l b) :
    GoodA ins (andL l a b) ∧ (∃ t, andL l a b = l ++ t ∧ t.length ≤ 1) ∧ Lit_ ins (andL l a b) (andX ins l a b) := by
  have hlo := lo_lit ha hb
  have hhi := hi_lit ha hb
  have hle := lo_le_hi a b
  have h0 := h.ins0
  unfold andL andX
  generalize lo a b = x at *
  generalize hi a b = y at *
  by_cases c1 : x = 0 ∨ (x / 2 = y / 2 ∧ x ≠ y)
  · rw [if_pos c1, if_pos c1]
    exact ⟨h, ⟨[], by simp⟩, by omega, by omega⟩
  rw [if_neg c1, if_neg c1]
  by_cases c2 : x = 1 ∨ x = y
  · rw [if_pos c2, if_pos c2]
    exact ⟨h, ⟨[], by simp⟩, hhi⟩
  rw [if_neg c2, if_neg c2]
  have c1' : x ≠ 0 ∧ (x / 2 = y / 2 → x = y) := ⟨fun e => c1 (.inl e), fun e => Classical.byContradiction fun n => c1 (.inr ⟨e, n⟩)⟩
  have c2' : x ≠ 1 ∧ x ≠ y := ⟨fun e => c2 (.inl e), fun e => c2 (.inr e)⟩
  have hx : 2 ≤ x := by have := hlo.1; omega
  rcases idx_spec x y l 0 (by omega) with ⟨e, hn⟩ | ⟨j, e, hj⟩
  · rw [e, if_pos (by omega), if_pos (by omega)]
    refine ⟨⟨h0, h.ins1, fun i z hz => ?_, fun i j z hi hj => ?_⟩, ⟨[⟨x, y⟩], rfl, by simp⟩, by have := h0; omega, by rw [List.length_append, List.length_singleton]; push_cast; omega⟩
    · by_cases hi : i < l.length
      · rw [List.getElem?_append_left hi] at hz
        exact h.in_ i z hz
      · have hil : i < (l ++ [(⟨x, y⟩ : A2)]).length := (List.getElem?_eq_some_iff.1 hz).1
        have hi2 : i = l.length := by simp at hil; omega
        subst hi2
        rw [List.getElem?_append_right (Nat.le_refl _)] at hz
        simp at hz
        subst hz
        have := hhi.2
        exact ⟨hx, by show x < y; omega, by show y < _; omega, fun e => c2'.2 (c1'.2 e)⟩
    · have key : ∀ i, (l ++ [(⟨x, y⟩ : A2)])[i]? = some z → i < l.length ∨ (i = l.length ∧ z = ⟨x, y⟩) := by
        intro i hz
        by_cases hi : i < l.length
        · exact .inl hi
        · have hil : i < (l ++ [(⟨x, y⟩ : A2)]).length := (List.getElem?_eq_some_iff.1 hz).1
          have hi2 : i = l.length := by simp at hil; omega
          subst hi2
          rw [List.getElem?_append_right (Nat.le_refl _)] at hz
          simp at hz
          exact .inr ⟨rfl, hz.symm⟩
      have old : ∀ i, i < l.length → (l ++ [(⟨x, y⟩ : A2)])[i]? = some z → z ≠ ⟨x, y⟩ := by
        intro i hi hz e
        rw [List.getElem?_append_left hi] at hz
        subst e
        exact hn _ (List.mem_of_getElem? hz) ⟨rfl, rfl⟩
      rcases key i hi with h1 | ⟨h1, h1'⟩ <;> rcases key j hj with h2 | ⟨h2, h2'⟩
      · rw [List.getElem?_append_left h1] at hi
        rw [List.getElem?_append_left h2] at hj
        exact h.once i j z hi hj
      · exact absurd h2' (old i h1 hi)
      · exact absurd h1' (old j h2 hj)
      · omega
  · rw [e, if_neg (by omega), if_neg (by omega)]
    have hjl := (List.getElem?_eq_some_iff.1 hj).1
    exact ⟨h, ⟨[], by simp⟩, by omega, by omega⟩
theorem Lit_.app {ins : Int} {l t : List A2} {a : Int} (h : Lit_ ins l a) : Lit_ ins (l ++ t) a := ⟨h.1, by have := h.2; rw [List.length_append]; push_cast; omega⟩
theorem Lit_.turn {ins : Int} {l : List A2} {a : Int} (h : Lit_ ins l a) : Lit_ ins l (turn a) := ⟨turn_nonneg h.1, turn_lt h.2⟩
def orL (l : List A2) (a b : Int) : List A2 := andL l (turn a) (turn b)
def orX (ins : Int) (l : List A2) (a b : Int) : Int := turn (andX ins l (turn a) (turn b))
def muxL (ins : Int) (l : List A2) (i a b : Int) : List A2 :=
  orL (andL (andL l i a) (turn i) b) (andX ins l i a) (andX ins (andL l i a) (turn i) b)
def muxX (ins : Int) (l : List A2) (i a b : Int) : Int :=
  orX ins (andL (andL l i a) (turn i) b) (andX ins l i a) (andX ins (andL l i a) (turn i) b)
def xorL (ins : Int) (l : List A2) (a b : Int) : List A2 := muxL ins l a (turn b) b
def xorX (ins : Int) (l : List A2) (a b : Int) : Int := muxX ins l a (turn b) b
theorem or_good {ins : Int} {l : List A2} {a b : Int} (h : GoodA ins l) (ha : Lit_ ins l a) (hb : Lit_ ins l b) :
    GoodA ins (orL l a b) ∧ (∃ t, orL l a b = l ++ t ∧ t.length ≤ 1) ∧ Lit_ ins (orL l a b) (orX ins l a b) := by
  obtain ⟨h1, h2, h3⟩ := and_good h ha.turn hb.turn
  exact ⟨h1, h2, h3.turn⟩
theorem mux_good {ins : Int} {l : List A2} {i a b : Int} (h : GoodA ins l) (hi : Lit_ ins l i) (ha : Lit_ ins l a) (hb : Lit_ ins l b) :
    GoodA ins (muxL ins l i a b) ∧ (∃ t, muxL ins l i a b = l ++ t ∧ t.length ≤ 3) ∧ Lit_ ins (muxL ins l i a b) (muxX ins l i a b) := by
  obtain ⟨h1, ⟨t1, e1, n1⟩, x1⟩ := and_good h hi ha
  have hi1 : Lit_ ins (andL l i a) (turn i) := by rw [e1]; exact hi.turn.app
  have hb1 : Lit_ ins (andL l i a) b := by rw [e1]; exact hb.app
  obtain ⟨h2, ⟨t2, e2, n2⟩, x2⟩ := and_good h1 hi1 hb1
  have x1' : Lit_ ins (andL (andL l i a) (turn i) b) (andX ins l i a) := by rw [e2]; exact x1.app
  obtain ⟨h3, ⟨t3, e3, n3⟩, x3⟩ := or_good h2 x1' x2
  refine ⟨h3, ⟨t1 ++ (t2 ++ t3), ?_, by simp; omega⟩, x3⟩
  unfold muxL
  rw [e3, e2, e1]
  simp
theorem xor_good {ins : Int} {l : List A2} {a b : Int} (h : GoodA ins l) (ha : Lit_ ins l a) (hb : Lit_ ins l b) :
    GoodA ins (xorL ins l a b) ∧ (∃ t, xorL ins l a b = l ++ t ∧ t.length ≤ 3) ∧ Lit_ ins (xorL ins l a b) (xorX ins l a b) := mux_good h ha hb.turn hb
/-- Few enough that nothing wraps. -/
def Few (ins : Int) (l : List A2) : Prop := 0 ≤ ins ∧ ins ≤ 1000 ∧ l.length < 900000
theorem Lit_.bd {ins : Int} {l : List A2} {a : Int} (hf : Few ins l) (h : Lit_ ins l a) : 0 ≤ a ∧ a < 2000000 := ⟨h.1, by have := h.2; have := hf.2.1; have := hf.2.2; omega⟩
theorem and_ev' {ins : Int} {l : List A2} {a b : Int} (hf : Few ins l) (ha : Lit_ ins l a) (hb : Lit_ ins l b) : Ev (fun k => proofmarkref13_And.f k ins l a b) (ins, andL l a b, andX ins l a b) := by
  have h1 := ha.bd hf
  have h2 := hb.bd hf
  exact and_ev ins l a b (by have := hf.2.2; omega) hf.1 (by have := hf.2.1; omega) h1.1 (by omega) h2.1 (by omega)
theorem turn_f {a : Int} (h0 : 0 ≤ a) (h1 : a < 2000000) : proofmarkref13_turn.f a = some (turn a) := by
  unfold proofmarkref13_turn.f
  rw [xor_one a h0 (by omega)]
theorem few_and {ins : Int} {l : List A2} {a b : Int} {n : Nat} (hf : Few ins l) (hn : l.length + n + 1 < 900000) : Few ins (andL l a b) ∧ (andL l a b).length ≤ l.length + 1 := by
  have : (andL l a b).length ≤ l.length + 1 := by
    unfold andL
    split
    · omega
    · split
      · omega
      · split
        · simp
        · omega
  exact ⟨⟨hf.1, hf.2.1, by omega⟩, this⟩
theorem or_ev {ins : Int} {l : List A2} {a b : Int} (h : GoodA ins l) (hf : Few ins l) (hn : l.length + 10 < 900000) (ha : Lit_ ins l a) (hb : Lit_ ins l b) : Ev (fun k => proofmarkref13_Or.f k ins l a b) (ins, orL l a b, orX ins l a b) := by
  have h1 := ha.bd hf
  have h2 := hb.bd hf
  unfold proofmarkref13_Or.f
  simp only [turn_f h1.1 h1.2, turn_f h2.1 h2.2, Option.bind_some]
  refine Ev.bind (f := fun k bt => _) (and_ev' hf ha.turn hb.turn) ?_
  have hx := (and_good h ha.turn hb.turn).2.2
  have h3 := hx.bd (few_and (n := 9) hf (by omega)).1
  simp only [turn_f h3.1 h3.2, Option.bind_some]
  exact Ev.now _
theorem mux_ev {ins : Int} {l : List A2} {i a b : Int} (h : GoodA ins l) (hf : Few ins l) (hn : l.length + 20 < 900000) (hi : Lit_ ins l i) (ha : Lit_ ins l a) (hb : Lit_ ins l b) : Ev (fun k => proofmarkref13_Mux.f k ins l i a b) (ins, muxL ins l i a b, muxX ins l i a b) := by
  obtain ⟨g1, ⟨t1, e1, n1⟩, x1⟩ := and_good h hi ha
  have f1 := few_and (n := 9) (a := i) (b := a) hf (by omega)
  have hi1 : Lit_ ins (andL l i a) (turn i) := by rw [e1]; exact hi.turn.app
  have hb1 : Lit_ ins (andL l i a) b := by rw [e1]; exact hb.app
  obtain ⟨g2, ⟨t2, e2, n2⟩, x2⟩ := and_good g1 hi1 hb1
  have f2 := few_and (n := 9) (a := turn i) (b := b) f1.1 (by omega)
  have x1' : Lit_ ins (andL (andL l i a) (turn i) b) (andX ins l i a) := by rw [e2]; exact x1.app
  have h1 := hi.bd hf
  unfold proofmarkref13_Mux.f
  refine Ev.bind (f := fun k bt => _) (and_ev' hf hi ha) ?_
  simp only [turn_f h1.1 h1.2, Option.bind_some]
  refine Ev.bind (f := fun k bt => _) (and_ev' f1.1 hi1 hb1) ?_
  have q1 := f1.2
  have q2 := f2.2
  refine Ev.bind (f := fun k bt => _) (or_ev (l := andL (andL l i a) (turn i) b) g2 f2.1 (by omega) x1' x2) ?_
  exact Ev.now _
theorem xor_ev {ins : Int} {l : List A2} {a b : Int} (h : GoodA ins l) (hf : Few ins l) (hn : l.length + 20 < 900000) (ha : Lit_ ins l a) (hb : Lit_ ins l b) : Ev (fun k => proofmarkref13_Xor.f k ins l a b) (ins, xorL ins l a b, xorX ins l a b) := by
  have h2 := hb.bd hf
  unfold proofmarkref13_Xor.f
  simp only [turn_f h2.1 h2.2, Option.bind_some]
  refine Ev.bind (f := fun k bt => _) (mux_ev h hf hn ha hb.turn hb) ?_
  exact Ev.now _
theorem literal_f {ins : Int} {l : List A2} {n : Int} (hf : Few ins l) (h0 : 0 ≤ n) (h1 : n ≤ 65535) : proofmarklaw13_literal.f ins l n = some (n % (2 * (ins + l.length + 1))) ∧ Lit_ ins l (n % (2 * (ins + l.length + 1))) := by
  have a1 := hf.1
  have a2 := hf.2.1
  have a3 := hf.2.2
  have hm : 0 < 2 * (ins + (l.length : Int) + 1) := by omega
  constructor
  · unfold proofmarklaw13_literal.f
    rw [w64 (n := ins + (l.length : Int)) (by omega) (by omega), w64 (n := ins + (l.length : Int) + 1) (by omega) (by omega), w64 (n := 2 * (ins + (l.length : Int) + 1)) (by omega) (by omega), w64 (n := n) (by omega) (by omega), if_neg (by omega), tmodn h0]
  · exact ⟨Int.emod_nonneg _ (by omega), by have := Int.emod_lt_of_pos n hm; omega⟩
/-- What is known of an op that came in. -/
def OpOk (x : S53) : Prop := (0 ≤ x.f0 ∧ x.f0 ≤ 255) ∧ (0 ≤ x.f1 ∧ x.f1 ≤ 65535) ∧ (0 ≤ x.f2 ∧ x.f2 ≤ 65535) ∧ (0 ≤ x.f3 ∧ x.f3 ≤ 65535)
theorem made_loop (ops : List S53) (hops : ∀ x ∈ ops, OpOk x) (hlen : ops.length ≤ 120) (ins : Int) : ∀ (d i : Nat) (l : List A2) (lits : List Int), ops.length - i = d → i ≤ ops.length → GoodA ins l → l.length ≤ 3 * i → lits.length = i →
    ∃ l' lits', Ev (fun k => proofmarklaw13_Made.l0 k ops lits (i : Int) ins l) (ins, l', lits') ∧ GoodA ins l' ∧ l'.length ≤ 3 * ops.length := by
  intro d
  induction d with
  | zero =>
    intro i l lits hd hi hg hl hlit
    refine ⟨l, lits, Ev.step (fun k => by simp only [proofmarklaw13_Made.l0]; rw [if_neg (by omega)]) (Ev.now _), hg, by omega⟩
  | succ d ih =>
    intro i l lits hd hi hg hl hlit
    have hlt : i < ops.length := by omega
    have hx : rd_T53 ops (i : Int) = ops[i] := by
      unfold rd_T53
      rw [Int.toNat_natCast, List.getD_eq_getElem?_getD, List.getElem?_eq_getElem hlt]
      rfl
    have hxo := hops _ (List.getElem_mem hlt)
    generalize ops[i] = x at hx hxo
    obtain ⟨h0, h1, h2, h3⟩ := hxo
    have hf : Few ins l := ⟨hg.ins0, by have := hg.ins1; omega, by omega⟩
    obtain ⟨e1, l1⟩ := literal_f hf h1.1 h1.2
    obtain ⟨e2, l2⟩ := literal_f hf h2.1 h2.2
    obtain ⟨e3, l3⟩ := literal_f hf h3.1 h3.2
    have next : ∀ (l' : List A2) (y : Int), GoodA ins l' → l'.length ≤ l.length + 3 → ∃ l2 lits', Ev (fun k => if lits.length < 17592186044416 then proofmarklaw13_Made.l0 k ops (lits ++ [y]) (wrap64 ((i : Int) + 1)) ins l' else none) (ins, l2, lits') ∧ GoodA ins l2 ∧ l2.length ≤ 3 * ops.length := by
      intro l' y hg' hl'
      obtain ⟨l2, lits', hev, hg2, hl2⟩ := ih (i + 1) l' (lits ++ [y]) (by omega) (by omega) hg' (by omega) (by simp [hlit])
      exact ⟨l2, lits', Ev.ite_pos (by omega) (by rw [succ64 (by omega)]; exact hev), hg2, hl2⟩
    have body : ∃ l2 lits', Ev (fun k => if Int.tmod x.f0 4 = 0 then ((proofmarkref13_And.f k ins l (x.f1 % (2 * (ins + l.length + 1))) (x.f2 % (2 * (ins + l.length + 1)))).bind fun bt => if lits.length < 17592186044416 then proofmarklaw13_Made.l0 k ops (lits ++ [bt.2.2]) (wrap64 ((i : Int) + 1)) bt.1 bt.2.1 else none)
        else if Int.tmod x.f0 4 = 1 then ((proofmarkref13_Or.f k ins l (x.f1 % (2 * (ins + l.length + 1))) (x.f2 % (2 * (ins + l.length + 1)))).bind fun bt => if lits.length < 17592186044416 then proofmarklaw13_Made.l0 k ops (lits ++ [bt.2.2]) (wrap64 ((i : Int) + 1)) bt.1 bt.2.1 else none)
        else if Int.tmod x.f0 4 = 2 then ((proofmarkref13_Xor.f k ins l (x.f1 % (2 * (ins + l.length + 1))) (x.f2 % (2 * (ins + l.length + 1)))).bind fun bt => if lits.length < 17592186044416 then proofmarklaw13_Made.l0 k ops (lits ++ [bt.2.2]) (wrap64 ((i : Int) + 1)) bt.1 bt.2.1 else none)
        else if Int.tmod x.f0 4 = 3 then ((proofmarkref13_Mux.f k ins l (x.f1 % (2 * (ins + l.length + 1))) (x.f2 % (2 * (ins + l.length + 1))) (x.f3 % (2 * (ins + l.length + 1)))).bind fun bt => if lits.length < 17592186044416 then proofmarklaw13_Made.l0 k ops (lits ++ [bt.2.2]) (wrap64 ((i : Int) + 1)) bt.1 bt.2.1 else none)
        else if lits.length < 17592186044416 then proofmarklaw13_Made.l0 k ops (lits ++ [0]) (wrap64 ((i : Int) + 1)) ins l else none) (ins, l2, lits') ∧ GoodA ins l2 ∧ l2.length ≤ 3 * ops.length := by
      by_cases c0 : Int.tmod x.f0 4 = 0
      · simp only [if_pos c0]
        obtain ⟨g, ⟨t, e, n⟩, _⟩ := and_good hg l1 l2
        obtain ⟨l2', lits', hev, r⟩ := next _ (andX ins l (x.f1 % (2 * (ins + l.length + 1))) (x.f2 % (2 * (ins + l.length + 1)))) g (by rw [e]; simp; omega)
        exact ⟨l2', lits', Ev.bind (f := fun k bt => _) (and_ev' hf l1 l2) hev, r⟩
      simp only [if_neg c0]
      by_cases c1 : Int.tmod x.f0 4 = 1
      · simp only [if_pos c1]
        obtain ⟨g, ⟨t, e, n⟩, _⟩ := or_good hg l1 l2
        obtain ⟨l2', lits', hev, r⟩ := next _ (orX ins l (x.f1 % (2 * (ins + l.length + 1))) (x.f2 % (2 * (ins + l.length + 1)))) g (by rw [e]; simp; omega)
        exact ⟨l2', lits', Ev.bind (f := fun k bt => _) (or_ev hg hf (by omega) l1 l2) hev, r⟩
      simp only [if_neg c1]
      by_cases c2 : Int.tmod x.f0 4 = 2
      · simp only [if_pos c2]
        obtain ⟨g, ⟨t, e, n⟩, _⟩ := xor_good hg l1 l2
        obtain ⟨l2', lits', hev, r⟩ := next _ (xorX ins l (x.f1 % (2 * (ins + l.length + 1))) (x.f2 % (2 * (ins + l.length + 1)))) g (by rw [e]; simp; omega)
        exact ⟨l2', lits', Ev.bind (f := fun k bt => _) (xor_ev hg hf (by omega) l1 l2) hev, r⟩
      simp only [if_neg c2]
      by_cases c3 : Int.tmod x.f0 4 = 3
      · simp only [if_pos c3]
        obtain ⟨g, ⟨t, e, n⟩, _⟩ := mux_good hg l1 l2 l3
        obtain ⟨l2', lits', hev, r⟩ := next _ (muxX ins l (x.f1 % (2 * (ins + l.length + 1))) (x.f2 % (2 * (ins + l.length + 1))) (x.f3 % (2 * (ins + l.length + 1)))) g (by rw [e]; simp; omega)
        exact ⟨l2', lits', Ev.bind (f := fun k bt => _) (mux_ev hg hf (by omega) l1 l2 l3) hev, r⟩
      simp only [if_neg c3]
      exact next l 0 hg (by omega)
    obtain ⟨l2', lits', hev, r⟩ := body
    refine ⟨l2', lits', Ev.step (fun k => ?_) hev, r⟩
    simp only [proofmarklaw13_Made.l0]
    rw [if_pos (by omega), if_pos (by omega), hx, e1, e2, e3]
    simp only [Option.bind_some]
theorem made_ev (x0 : Int) (ops : List S53) (h0 : 0 ≤ x0) (h1 : x0 ≤ 255) (hops : ∀ x ∈ ops, OpOk x) (hlen : ops.length ≤ 120) :
    ∃ ins l lits, Ev (fun k => proofmarklaw13_Made.f k x0 ops) (ins, l, lits) ∧ GoodA ins l ∧ l.length ≤ 360 := by
  have hm : 0 ≤ x0 % 9 ∧ x0 % 9 ≤ 8 := by omega
  obtain ⟨l, lits, hev, hg, hl⟩ := made_loop ops hops hlen (x0 % 9) ops.length 0 [] [] (by omega) (by omega) ⟨hm.1, hm.2, fun i x h => by simp at h, fun i j x h => by simp at h⟩ (by simp) rfl
  refine ⟨x0 % 9, l, lits, ?_, hg, by omega⟩
  unfold proofmarklaw13_Made.f proofmarkref13_New.f
  simp only [Option.bind_some]
  rw [w64 (n := x0) (by omega) (by omega), tmodn h0]
  exact hev
theorem great_f (ops : List S53) : proofmarklaw13_Great.f ops = some (decide ((ops.length : Int) > 120)) := rfl
end Go.Proofs.Ytdfbnlmjnollnaa.PAig
namespace Go.Proofs.Ytdfbnlmjnollnaa.PCnf
open Go.RowKit Go.Proofs.YtdfbnlmjnollnaaW.PrintWords Go.Proofs.YtdfbnlmjnollnaaW.PrintMore Go.Proofs.Ytdfbnlmjnollnaa.PBits Go.Proofs.Ytdfbnlmjnollnaa.PAig Go.Proofs.Ytdfbnlmjnollnaa.Xb
/-- A literal, as clauses have it. -/
def ofv (a off : Int) : Int := if a % 2 = 0 then off + 1 + a / 2 else -(off + 1 + a / 2)
theorem of_f {a off : Int} (h0 : 0 ≤ a) (h1 : a < 1000000000) (h2 : 0 ≤ off) (h3 : off < 1000000000) : cnf_Of.f a off = some (ofv a off) := by
  have e : cnf_literal_of.f a off = some (ofv a off) := by
    unfold cnf_literal_of.f ofv
    rw [and_one a h0 (by omega)]
    have hm : a % 2 = 0 ∨ a % 2 = 1 := by omega
    rw [w64 (n := off + 1) (by omega) (by omega), w64 (n := off + 1 + a / 2) (by omega) (by omega)]
    rcases hm with hm | hm
    · rw [hm, if_pos rfl, w64 (n := 2 * 0) (by omega) (by omega), w64 (n := 1 - 2 * 0) (by omega) (by omega), w64 (by omega) (by omega)]
      congr 1; omega
    · rw [hm, if_neg (by omega), w64 (n := 2 * 1) (by omega) (by omega), w64 (n := 1 - 2 * 1) (by omega) (by omega), w64 (by omega) (by omega)]
      congr 1; omega
  unfold cnf_Of.f
  rw [e]
  rfl
theorem ofr_f {a off : Int} (h0 : 0 ≤ a) (h1 : a < 1000000000) (h2 : 0 ≤ off) (h3 : off < 1000000000) : proofmarkref17_Of.f a off = some (ofv a off) := by
  unfold proofmarkref17_Of.f ofv
  rw [tmodn h0, tdiv2 h0, w64 (n := a / 2) (by omega) (by omega), w64 (n := off + 1) (by omega) (by omega), w64 (n := off + 1 + a / 2) (by omega) (by omega)]
  have hm : a % 2 = 0 ∨ a % 2 = 1 := by omega
  rcases hm with hm | hm
  · rw [hm, if_neg (by omega), if_pos rfl]
  · rw [hm, if_pos rfl, if_neg (by omega), w64 (by omega) (by omega)]
theorem of_eq {a off : Int} (h0 : 0 ≤ a) (h1 : a < 1000000000) (h2 : 0 ≤ off) (h3 : off < 1000000000) : cnf_Clauses.of a off = ofv a off := by
  have h := cnf_Clauses.of_eq a off
  rw [of_f h0 h1 h2 h3] at h
  exact (Option.some.inj h).symm
theorem ofv_bd {a off : Int} (h0 : 0 ≤ a) (h2 : 0 ≤ off) : -(off + 1 + a / 2) ≤ ofv a off ∧ ofv a off ≤ off + 1 + a / 2 := by unfold ofv; split <;> omega
theorem ofv_abs {a off : Int} (h0 : 0 ≤ a) (h2 : 0 ≤ off) : max (ofv a off) (-(ofv a off)) = off + 1 + a / 2 := by unfold ofv; split <;> omega
/-- The three clauses of an and. -/
def three (ins off : Int) (i : Int) (x : A2) : List (List Int) :=
  [[-(off + 2 + ins + i), ofv x.f0 off], [-(off + 2 + ins + i), ofv x.f1 off], [off + 2 + ins + i, -(ofv x.f0 off), -(ofv x.f1 off)]]
/-- The clauses of a graph's first k ands. -/
def cls (ins off : Int) (l : List A2) : Nat → List (List Int)
  | 0 => [[-(off + 1)]]
  | k + 1 => cls ins off l k ++ three ins off k (l.getD k z49)
theorem cls_len (ins off : Int) (l : List A2) : ∀ k, (cls ins off l k).length = 1 + 3 * k
  | 0 => rfl
  | k + 1 => by simp [cls, cls_len ins off l k, three]; omega
theorem good_f {ins : Int} {l : List A2} (h : GoodA ins l) (hl : l.length ≤ 1000) {i : Nat} {x : A2} (hx : l[i]? = some x) : 0 ≤ x.f0 ∧ x.f0 < 4000 ∧ 0 ≤ x.f1 ∧ x.f1 < 4000 := by
  have h1 := h.in_ i x hx
  have h2 := h.ins1
  have h3 := (List.getElem?_eq_some_iff.1 hx).1
  omega
theorem three_eq {ins off : Int} {i : Nat} {x : A2} (hi0 : 0 ≤ ins) (hi1 : ins ≤ 8) (hi : i < 1000) (h2 : 0 ≤ off) (h3 : off < 100000000) (hx : 0 ≤ x.f0 ∧ x.f0 < 4000 ∧ 0 ≤ x.f1 ∧ x.f1 < 4000) : cnf_Clauses.three ins off i x = three ins off i x := by
  obtain ⟨a0, a1, b0, b1⟩ := hx
  have e : cnf_Clauses.of (wrap64 (2 * (wrap64 ((wrap64 (1 + ins)) + (i : Int))))) off = off + 2 + ins + i := by
    rw [w64 (n := 1 + ins) (by omega) (by omega), w64 (n := 1 + ins + (i : Int)) (by omega) (by omega), w64 (n := 2 * (1 + ins + (i : Int))) (by omega) (by omega), of_eq (by omega) (by omega) h2 (by omega)]
    unfold ofv
    rw [if_pos (by omega)]
    omega
  have p0 := ofv_bd (a := x.f0) (off := off) a0 h2
  have p1 := ofv_bd (a := x.f1) (off := off) b0 h2
  unfold cnf_Clauses.three three
  rw [e, of_eq a0 (by omega) h2 (by omega), of_eq b0 (by omega) h2 (by omega), w64 (n := -(off + 2 + ins + (i : Int))) (by omega) (by omega), w64 (n := -(ofv x.f0 off)) (by omega) (by omega), w64 (n := -(ofv x.f1 off)) (by omega) (by omega)]
theorem upto_eq {ins off : Int} {l : List A2} (h : GoodA ins l) (hl : l.length ≤ 1000) (h2 : 0 ≤ off) (h3 : off < 100000000) : ∀ k, k ≤ l.length → cnf_Clauses.upto ins off l k = cls ins off l k
  | 0, _ => by
    unfold cnf_Clauses.upto cls
    rw [of_eq (by omega) (by omega) h2 (by omega)]
    unfold ofv
    rw [if_pos (by omega), w64 (by omega) (by omega)]
    simp
  | k + 1, hk => by
    unfold cnf_Clauses.upto cls
    rw [upto_eq h hl h2 h3 k (by omega)]
    have hx : l[k]? = some l[k] := List.getElem?_eq_getElem (by omega)
    have e : rd_T49 l (k : Int) = l.getD k z49 := by unfold rd_T49; rw [Int.toNat_natCast]
    have e2 : l.getD k z49 = l[k] := by rw [List.getD_eq_getElem?_getD, hx]; rfl
    rw [e, e2, three_eq h.ins0 h.ins1 (by omega) h2 h3 (good_f h hl hx)]
theorem clauses_f {ins off : Int} {l : List A2} (h : GoodA ins l) (hl : l.length ≤ 1000) (h2 : 0 ≤ off) (h3 : off < 100000000) : cnf_Clauses.f ins l off = some (cls ins off l l.length) := by
  unfold cnf_Clauses.f
  rw [if_pos (by omega), upto_eq h hl h2 h3 _ (Nat.le_refl _)]
theorem clausesr_ev {ins off : Int} {l : List A2} (h : GoodA ins l) (hl : l.length ≤ 1000) (h2 : 0 ≤ off) (h3 : off < 100000000) : Ev (fun k => proofmarkref17_Clauses.f k ins l off) (cls ins off l l.length) := by
  have i0 := h.ins0
  have i1 := h.ins1
  have loop : ∀ d i, l.length - i = d → i ≤ l.length → Ev (fun k => proofmarkref17_Clauses.l0 k off (cls ins off l i) (i : Int) ins l) (cls ins off l l.length) := by
    intro d
    induction d with
    | zero =>
      intro i hd hi
      obtain rfl : i = l.length := by omega
      exact Ev.step (fun k => by simp only [proofmarkref17_Clauses.l0]; rw [if_neg (by omega)]) (Ev.now _)
    | succ d ih =>
      intro i hd hi
      have hlt : i < l.length := by omega
      have hx : l[i]? = some l[i] := List.getElem?_eq_getElem hlt
      have e : rd_T49 l (i : Int) = l[i] := by unfold rd_T49; rw [Int.toNat_natCast, List.getD_eq_getElem?_getD, hx]; rfl
      have e2 : l.getD i z49 = l[i] := by rw [List.getD_eq_getElem?_getD, hx]; rfl
      have g := good_f h hl hx
      have p0 := ofv_bd (a := l[i].f0) (off := off) g.1 h2
      have p1 := ofv_bd (a := l[i].f1) (off := off) g.2.2.1 h2
      have hlen := cls_len ins off l i
      have hn := ih (i + 1) (by omega) (by omega)
      refine Ev.step (fun k => ?_) hn
      simp only [proofmarkref17_Clauses.l0]
      rw [if_pos (by omega), if_pos (by omega), e, ofr_f g.1 (by omega) h2 (by omega), ofr_f g.2.2.1 (by omega) h2 (by omega)]
      simp only [Option.bind_some]
      rw [if_pos (by simp [hlen]; omega), succ64 (by omega), w64 (n := off + 2) (by omega) (by omega), w64 (n := off + 2 + ins) (by omega) (by omega), w64 (n := off + 2 + ins + (i : Int)) (by omega) (by omega), w64 (n := -(off + 2 + ins + (i : Int))) (by omega) (by omega), w64 (n := -(ofv l[i].f0 off)) (by omega) (by omega), w64 (n := -(ofv l[i].f1 off)) (by omega) (by omega)]
      simp only [cls, e2, three]
  unfold proofmarkref17_Clauses.f
  rw [w64 (n := off + 1) (by omega) (by omega), w64 (n := -(off + 1)) (by omega) (by omega)]
  exact loop l.length 0 (by omega) (by omega)
/-- Rows that are one are alike. -/
theorem same_ev (a : List (List Int)) (ha : a.length < 1000000000) (hr : ∀ r ∈ a, r.length < 1000000000) : Ev (fun k => proofmarkref11_SameRows.f k a a) true := by
  have get : ∀ i (h : i < a.length), rd_L2 a (i : Int) = a[i] := fun i h => by
    unfold rd_L2
    rw [Int.toNat_natCast, List.getD_eq_getElem?_getD, List.getElem?_eq_getElem h]; rfl
  have outer : ∀ d i, a.length - i = d → i ≤ a.length → Ev (fun k => proofmarkref11_SameRows.l0 k a a (i : Int)) true := by
    intro d
    induction d with
    | zero =>
      intro i hd hi
      exact Ev.step (fun k => by simp only [proofmarkref11_SameRows.l0]; rw [if_neg (by omega)]) (Ev.now _)
    | succ d ih =>
      intro i hd hi
      have hlt : i < a.length := by omega
      have hb := hr _ (List.getElem_mem hlt)
      have inner : ∀ e j, a[i].length - j = e → j ≤ a[i].length → Ev (fun k => proofmarkref11_SameRows.l1 k a a (i : Int) (j : Int)) true := by
        intro e
        induction e with
        | zero =>
          intro j he hj
          have hn := ih (i + 1) (by omega) (by omega)
          refine Ev.step (fun k => ?_) hn
          simp only [proofmarkref11_SameRows.l1]
          rw [get i hlt, if_pos (by omega), if_pos (by omega), if_neg (by omega), succ64 (by omega)]
        | succ e ih2 =>
          intro j he hj
          have hn := ih2 (j + 1) (by omega) (by omega)
          refine Ev.step (fun k => ?_) hn
          simp only [proofmarkref11_SameRows.l1]
          rw [get i hlt, if_pos (by omega), if_pos (by omega), if_pos (by omega), if_pos (by omega), if_pos (by omega), if_pos (by omega), if_pos trivial, succ64 (by omega)]
      have hn := inner a[i].length 0 (by omega) (by omega)
      refine Ev.step (fun k => ?_) hn
      simp only [proofmarkref11_SameRows.l0]
      rw [if_pos (by omega), if_pos (by omega), if_pos (by omega), if_pos trivial]
      rfl
  unfold proofmarkref11_SameRows.f
  exact Ev.ite_pos rfl (outer a.length 0 (by omega) (by omega))
theorem head_1 : cnf_Of.f 5 10 = some (-13) := by rw [of_f (by omega) (by omega) (by omega) (by omega)]; rfl
theorem head_2 : cnf_Of.f 0 0 = some 1 := by rw [of_f (by omega) (by omega) (by omega) (by omega)]; rfl
theorem head_3 : cnf_Vars.f 2 [(⟨2, 5⟩ : A2)] = some 4 := by
  unfold cnf_Vars.f
  rw [w64 (n := 1 + 2) (by omega) (by omega), w64 (by simp) (by simp)]
  rfl
theorem head_g : GoodA 2 [(⟨2, 5⟩ : A2)] := by
  refine ⟨by omega, by omega, fun i x h => ?_, fun i j x h1 h2 => ?_⟩
  · have : i = 0 := by have := (List.getElem?_eq_some_iff.1 h).1; simp at this; exact this
    subst this
    simp at h
    subst h
    decide
  · have a1 := (List.getElem?_eq_some_iff.1 h1).1
    have a2 := (List.getElem?_eq_some_iff.1 h2).1
    simp at a1 a2
    omega
theorem head_4 : cnf_Clauses.f 2 [(⟨2, 5⟩ : A2)] 10 = some [[-11], [-14, 12], [-14, -13], [14, -12, 13]] := by
  rw [clauses_f (off := 10) head_g (by simp) (by omega) (by omega)]
  rfl
theorem head_ev : Ev (fun k => proofmarklaw17_head.f k) true := by
  have h5 : Ev (fun k => proofmarkref11_SameRows.f k [[-11], [-14, 12], [-14, -13], [14, -12, 13]] [[-11], [-14, 12], [-14, -13], [14, -12, 13]]) true := by
    refine same_ev _ (by simp) ?_
    intro r hr
    simp at hr
    rcases hr with rfl | rfl | rfl | rfl <;> simp
  obtain ⟨K, h5⟩ := h5
  refine ⟨K, fun k hk => ?_⟩
  have h6 : proofmarkref11_SameRows.f k [[-11], [-14, 12], [-14, -13], [14, -12, 13]] [[-11], [-14, 12], [-14, -13], [14, -12, 13]] = some true := h5 k hk
  show proofmarklaw17_head.f k = some true
  unfold proofmarklaw17_head.f
  rw [Option.bind_some, head_1, Option.bind_some, if_pos rfl, head_2, Option.bind_some, if_pos rfl, head_3, Option.bind_some, if_pos rfl, head_4, Option.bind_some, h6, Option.bind_some]
theorem vars_f {ins : Int} {l : List A2} (h : GoodA ins l) (hl : l.length ≤ 1000) : cnf_Vars.f ins l = some (1 + ins + l.length) ∧ proofmarkref17_Vars.f ins l = some (1 + ins + l.length) := by
  have i0 := h.ins0
  have i1 := h.ins1
  unfold cnf_Vars.f proofmarkref17_Vars.f
  rw [w64 (n := 1 + ins) (by omega) (by omega), w64 (by omega) (by omega)]
  exact ⟨rfl, rfl⟩
theorem cls_rows (ins off : Int) (l : List A2) : ∀ k, ∀ r ∈ cls ins off l k, r.length < 1000000000
  | 0, r, hr => by simp [cls] at hr; subst hr; simp
  | k + 1, r, hr => by
    simp only [cls, List.mem_append] at hr
    rcases hr with hr | hr
    · exact cls_rows ins off l k r hr
    · simp [three] at hr
      rcases hr with rfl | rfl | rfl <;> simp
theorem rd_get {a : List Int} {j : Nat} (h : j < a.length) : rd a (j : Int) = a[j] := by
  unfold rd
  rw [Int.toNat_natCast, List.getD_eq_getElem?_getD, List.getElem?_eq_getElem h]; rfl
theorem rows_get {a : List (List Int)} {i : Nat} (h : i < a.length) : rd_L2 a (i : Int) = a[i] := by
  unfold rd_L2
  rw [Int.toNat_natCast, List.getD_eq_getElem?_getD, List.getElem?_eq_getElem h]; rfl
/-- All literals of rows are of variables above off, and not above most. -/
def In (rows : List (List Int)) (off most : Int) : Prop := ∀ r ∈ rows, ∀ x ∈ r, off < max x (-x) ∧ max x (-x) ≤ most
theorem In_cls {ins off : Int} {l : List A2} (h : GoodA ins l) (h2 : 0 ≤ off) : ∀ k, k ≤ l.length → In (cls ins off l k) off (off + 1 + ins + k)
  | 0, _ => by
    intro r hr x hx
    simp [cls] at hr
    subst hr
    simp at hx
    subst hx
    have := h.ins0
    omega
  | k + 1, hk => by
    intro r hr x hx
    have i0 := h.ins0
    simp only [cls, List.mem_append] at hr
    rcases hr with hr | hr
    · have := In_cls h h2 k (by omega) r hr x hx
      omega
    · have hg : l[k]? = some l[k] := List.getElem?_eq_getElem (by omega)
      have e2 : l.getD k z49 = l[k] := by rw [List.getD_eq_getElem?_getD, hg]; rfl
      rw [e2] at hr
      obtain ⟨a0, a1, a2, _⟩ := h.in_ k _ hg
      have p0 := ofv_abs (a := l[k].f0) (off := off) (by omega) h2
      have p1 := ofv_abs (a := l[k].f1) (off := off) (by omega) h2
      simp [three] at hr
      rcases hr with rfl | rfl | rfl <;> simp at hx
      · rcases hx with rfl | rfl <;> omega
      · rcases hx with rfl | rfl <;> omega
      · rcases hx with rfl | rfl | rfl <;> omega
end Go.Proofs.Ytdfbnlmjnollnaa.PCnf
namespace Go.Proofs.Ytdfbnlmjnollnaa.PCnf
open Go.RowKit Go.Proofs.YtdfbnlmjnollnaaW.PrintWords Go.Proofs.YtdfbnlmjnollnaaW.PrintMore Go.Proofs.Ytdfbnlmjnollnaa.PBits Go.Proofs.Ytdfbnlmjnollnaa.PAig Go.Proofs.Ytdfbnlmjnollnaa.Xb
theorem within_ev (a : List (List Int)) (off most : Int) (ha : a.length < 1000000000) (hr : ∀ r ∈ a, r.length < 1000000000) (hi : In a off most) (hm : most < 1000000000) : Ev (fun k => proofmarklaw17_within.f k a off most) true := by
  have outer : ∀ d i, a.length - i = d → i ≤ a.length → Ev (fun k => proofmarklaw17_within.l0 k a off most (i : Int)) true := by
    intro d
    induction d with
    | zero =>
      intro i hd hi
      have z : ¬ ((i : Int) < (a.length : Int)) := by omega
      exact Ev.step (fun k => by simp only [proofmarklaw17_within.l0]; rw [if_neg z]) (Ev.now _)
    | succ d ih =>
      intro i hd hle
      have hlt : i < a.length := by omega
      have hb := hr _ (List.getElem_mem hlt)
      have z1 : (i : Int) < (a.length : Int) := by omega
      have z0 : (0 : Int) ≤ (i : Int) := by omega
      have inner : ∀ e j, a[i].length - j = e → j ≤ a[i].length → Ev (fun k => proofmarklaw17_within.l1 k a off most (i : Int) (j : Int)) true := by
        intro e
        induction e with
        | zero =>
          intro j he hj
          have hn := ih (i + 1) (by omega) (by omega)
          refine Ev.step (fun k => ?_) hn
          have z2 : ¬ ((j : Int) < (a[i].length : Int)) := by omega
          simp only [proofmarklaw17_within.l1]
          rw [rows_get hlt, if_pos z0, if_pos z1, if_neg z2, succ64 (by omega)]
        | succ e ih2 =>
          intro j he hj
          have hn := ih2 (j + 1) (by omega) (by omega)
          have hjl : j < a[i].length := by omega
          have z2 : (j : Int) < (a[i].length : Int) := by omega
          have z3 : (0 : Int) ≤ (j : Int) := by omega
          obtain ⟨b1, b2⟩ := hi _ (List.getElem_mem hlt) _ (List.getElem_mem hjl)
          have w : wrap64 (-(a[i][j])) = -(a[i][j]) := w64 (by omega) (by omega)
          have z4 : ¬ (max (a[i][j]) (-(a[i][j])) ≤ off) := by omega
          have z5 : ¬ (max (a[i][j]) (-(a[i][j])) > most) := by omega
          refine Ev.step (fun k => ?_) hn
          simp only [proofmarklaw17_within.l1]
          rw [rows_get hlt, if_pos z0, if_pos z1, if_pos z2, if_pos z3, rd_get hjl, w, mx_max, if_neg z4, if_neg z5, succ64 (by omega)]
      have hn := inner 0
      refine Ev.step (fun k => ?_) (inner _ 0 rfl (by omega))
      simp only [proofmarklaw17_within.l0]
      rw [if_pos z1]
      rfl
  unfold proofmarklaw17_within.f
  exact outer _ 0 rfl (by omega)
end Go.Proofs.Ytdfbnlmjnollnaa.PCnf
namespace Go.Proofs.Ytdfbnlmjnollnaa.PVal
open Go.RowKit Go.Proofs.YtdfbnlmjnollnaaW.PrintWords Go.Proofs.YtdfbnlmjnollnaaW.PrintMore Go.Proofs.Ytdfbnlmjnollnaa.PBits Go.Proofs.Ytdfbnlmjnollnaa.PAig Go.Proofs.Ytdfbnlmjnollnaa.PCnf Go.Proofs.Ytdfbnlmjnollnaa.Xb
/-- A literal's value. -/
def lv (v : List Bool) (a : Int) : Bool := (v.getD (a / 2).toNat false) != (a % 2 == 1)
theorem lit_f {v : List Bool} {a : Int} (h0 : 0 ≤ a) (h1 : a < 2 * v.length) (h2 : v.length < 1000000000) : aig_Lit.f v a = some (lv v a) := by
  have z0 : 0 ≤ a / 2 := by omega
  have z1 : a / 2 < (v.length : Int) := by omega
  unfold aig_Lit.f lv
  rw [if_pos z0, if_pos z1, and_one a h0 (by omega)]
  rfl
theorem getD_left {v w : List Bool} {i : Nat} (h : i < v.length) : (v ++ w).getD i false = v.getD i false := by
  rw [List.getD_eq_getElem?_getD, List.getD_eq_getElem?_getD, List.getElem?_append_left h]
theorem getD_right {v w : List Bool} {i : Nat} : (v ++ w).getD (v.length + i) false = w.getD i false := by
  rw [List.getD_eq_getElem?_getD, List.getD_eq_getElem?_getD, List.getElem?_append_right (by omega)]
  congr 2
  omega
theorem lv_left {v w : List Bool} {a : Int} (h0 : 0 ≤ a) (h : a < 2 * v.length) : lv (v ++ w) a = lv v a := by
  have z : (a / 2).toNat < v.length := by omega
  unfold lv
  rw [getD_left z]
theorem bits_ev (ins : Int) (l : List A2) (x : List Bool) (h0 : 0 ≤ ins) (h1 : ins ≤ 8) : ∃ v : List Bool, Ev (fun k => proofmarklaw13_Bits.f k ins l x) v ∧ (v.length : Int) = ins := by
  have loop : ∀ d (i : Nat) (v : List Bool), ins.toNat - i = d → (i : Int) ≤ ins → v.length = i → ∃ w : List Bool, Ev (fun k => proofmarklaw13_Bits.l0 k x v (i : Int) ins l) w ∧ (w.length : Int) = ins := by
    intro d
    induction d with
    | zero =>
      intro i v hd hi hv
      have z : ¬ ((i : Int) < ins) := by omega
      exact ⟨v, Ev.step (fun k => by simp only [proofmarklaw13_Bits.l0]; rw [if_neg z]) (Ev.now _), by omega⟩
    | succ d ih =>
      intro i v hd hi hv
      have z : (i : Int) < ins := by omega
      have z2 : v.length < 140737488355328 := by omega
      have z3 : (0 : Int) ≤ (i : Int) := by omega
      by_cases c : (i : Int) < (x.length : Int)
      · obtain ⟨w, hw, hl⟩ := ih (i + 1) (v ++ [rdOf false x (i : Int)]) (by omega) (by omega) (by simp [hv])
        exact ⟨w, Ev.step (fun k => by simp only [proofmarklaw13_Bits.l0]; rw [if_pos z, if_pos c, if_pos z3, if_pos z2, succ64 (by omega)]) hw, hl⟩
      · obtain ⟨w, hw, hl⟩ := ih (i + 1) (v ++ [false]) (by omega) (by omega) (by simp [hv])
        exact ⟨w, Ev.step (fun k => by simp only [proofmarklaw13_Bits.l0]; rw [if_pos z, if_neg c, if_pos z2, succ64 (by omega)]) hw, hl⟩
  exact loop _ 0 [] rfl (by omega) rfl
/-- The values of a graph's variables, n ands far. -/
structure Val (ins : Int) (l : List A2) (w : List Bool) (n : Nat) : Prop where
  len : (w.length : Int) = 1 + ins + n
  zero : w.getD 0 false = false
  ands : ∀ (i : Nat) (x : A2), i < n → l[i]? = some x → w.getD (1 + ins + i).toNat false = (lv w x.f0 && lv w x.f1)
theorem eval_ev {ins : Int} {l : List A2} {inp : List Bool} (h : GoodA ins l) (hl : l.length ≤ 1000) (hi : (inp.length : Int) = ins) : ∃ w, Ev (fun k => aig_Eval.f k ins l inp) w ∧ Val ins l w l.length := by
  have i0 := h.ins0
  have i1 := h.ins1
  have loop : ∀ d (i : Nat) (v : List Bool), l.length - i = d → i ≤ l.length → Val ins l v i → ∃ w, Ev (fun k => aig_Eval.l0 k v l (l.length : Int) (i : Int)) w ∧ Val ins l w l.length := by
    intro d
    induction d with
    | zero =>
      intro i v hd hi hv
      obtain rfl : i = l.length := by omega
      have z : ¬ ((l.length : Int) < (l.length : Int)) := by omega
      exact ⟨v, Ev.step (fun k => by simp only [aig_Eval.l0]; rw [if_neg z]) (Ev.now _), hv⟩
    | succ d ih =>
      intro i v hd hi hv
      have hlt : i < l.length := by omega
      have hx : l[i]? = some l[i] := List.getElem?_eq_getElem hlt
      have e : rd_T49 l (i : Int) = l[i] := by unfold rd_T49; rw [Int.toNat_natCast, List.getD_eq_getElem?_getD, hx]; rfl
      obtain ⟨a0, a1, a2, _⟩ := h.in_ i _ hx
      have vl := hv.len
      have z : (i : Int) < (l.length : Int) := by omega
      have z2 : v.length < 140737488355328 := by omega
      have z3 : (0 : Int) ≤ (i : Int) := by omega
      have f0 := lit_f (v := v) (a := l[i].f0) (by omega) (by omega) (by omega)
      have f1 := lit_f (v := v) (a := l[i].f1) (by omega) (by omega) (by omega)
      have nv : Val ins l (v ++ [lv v l[i].f0 && lv v l[i].f1]) (i + 1) := by
        refine ⟨by rw [List.length_append, List.length_singleton]; omega, ?_, ?_⟩
        · rw [getD_left (by omega)]
          exact hv.zero
        · intro j x hj hjx
          by_cases c : j = i
          · subst c
            rw [hx] at hjx
            have hjx := Option.some.inj hjx
            subst hjx
            have q : (1 + ins + (j : Int)).toNat = v.length + 0 := by omega
            rw [q, getD_right, lv_left (by omega) (by omega), lv_left (by omega) (by omega)]
            rfl
          · obtain ⟨b0, b1, b2, _⟩ := h.in_ j _ hjx
            rw [getD_left (by omega), lv_left (by omega) (by omega), lv_left (by omega) (by omega)]
            exact hv.ands j x (by omega) hjx
      obtain ⟨w, hw, hr⟩ := ih (i + 1) _ (by omega) (by omega) nv
      refine ⟨w, Ev.step (fun k => ?_) hw, hr⟩
      simp only [aig_Eval.l0]
      rw [if_pos z, if_pos z3, if_pos z, e, f0, f1]
      simp only [Option.bind_some]
      rw [if_pos z2, succ64 (by omega)]
      cases lv v l[i].f0
      · rw [if_neg (by decide), if_pos z2]
        rfl
      · rw [if_pos rfl]
        rfl
  have z : ins = (inp.length : Int) ∧ inp.length + l.length < 1099511627776 := by omega
  unfold aig_Eval.f
  simp only [if_pos z]
  refine loop _ 0 _ rfl (by omega) ⟨by rw [List.length_cons]; omega, rfl, fun i x hi => by omega⟩
/-- Whether a literal of clauses is true. -/
def tr (v : List Bool) (x : Int) : Bool := if x > 0 then v.getD (x - 1).toNat false else !(v.getD (-x - 1).toNat false)
/-- Whether clauses are met. -/
def met (a : List (List Int)) (v : List Bool) : Bool := a.all fun r => r.any (tr v)
theorem met_ev (a : List (List Int)) (v : List Bool) (ha : a.length < 1000000000) (hr : ∀ r ∈ a, r.length < 1000000000) (hv : v.length < 1000000000) (hi : In a 0 v.length) : Ev (fun k => proofmarkref17_Met.f k a v) (met a v) := by
  have outer : ∀ d i, a.length - i = d → i ≤ a.length → Ev (fun k => proofmarkref17_Met.l0 k a v (i : Int)) (met (a.drop i) v) := by
    intro d
    induction d with
    | zero =>
      intro i hd hi
      have z : ¬ ((i : Int) < (a.length : Int)) := by omega
      rw [List.drop_eq_nil_of_le (by omega)]
      exact Ev.step (fun k => by simp only [proofmarkref17_Met.l0]; rw [if_neg z]; rfl) (Ev.now _)
    | succ d ih =>
      intro i hd hle
      have hlt : i < a.length := by omega
      have hb := hr _ (List.getElem_mem hlt)
      have z1 : (i : Int) < (a.length : Int) := by omega
      have z0 : (0 : Int) ≤ (i : Int) := by omega
      have inner : ∀ e j (b : Bool), a[i].length - j = e → j ≤ a[i].length → Ev (fun k => proofmarkref17_Met.l1 k a v (i : Int) b (j : Int)) ((b || (a[i].drop j).any (tr v)) && met (a.drop (i + 1)) v) := by
        intro e
        induction e with
        | zero =>
          intro j b he hj
          have hn := ih (i + 1) (by omega) (by omega)
          have z2 : ¬ ((j : Int) < (a[i].length : Int)) := by omega
          rw [List.drop_eq_nil_of_le (show a[i].length ≤ j by omega)]
          cases b
          · refine Ev.step (fun k => ?_) (Ev.now _)
            simp only [proofmarkref17_Met.l1]
            rw [rows_get hlt, if_pos z0, if_pos z1, if_neg z2, if_neg (by decide)]
            rfl
          · refine Ev.step (fun k => ?_) hn
            simp only [proofmarkref17_Met.l1]
            rw [rows_get hlt, if_pos z0, if_pos z1, if_neg z2, if_pos trivial, succ64 (by omega)]
        | succ e ih2 =>
          intro j b he hj
          have hjl : j < a[i].length := by omega
          have z2 : (j : Int) < (a[i].length : Int) := by omega
          have z3 : (0 : Int) ≤ (j : Int) := by omega
          obtain ⟨b1, b2⟩ := hi _ (List.getElem_mem hlt) _ (List.getElem_mem hjl)
          have hn := ih2 (j + 1) (b || tr v a[i][j]) (by omega) (by omega)
          rw [Bool.or_assoc] at hn
          rw [List.drop_eq_getElem_cons hjl, List.any_cons]
          cases b
          · have c0 : a[i][j] > 0 ∨ a[i][j] < 0 := by omega
            rcases c0 with c | c
            · have q0 : wrap64 (a[i][j] - 1) = a[i][j] - 1 := w64 (by omega) (by omega)
              have q1 : 0 ≤ a[i][j] - 1 := by omega
              have q2 : a[i][j] - 1 < (v.length : Int) := by omega
              have c' : ¬ a[i][j] < 0 := by omega
              have t : rdOf false v (a[i][j] - 1) = tr v a[i][j] := by unfold rdOf tr; rw [if_pos c]
              refine Ev.step (fun k => ?_) hn
              simp only [proofmarkref17_Met.l1]
              rw [rows_get hlt, if_pos z0, if_pos z1, if_pos z2, if_pos z3, if_neg (by decide), rd_get hjl, if_pos c, q0, if_pos q1, if_pos q2, t, if_neg c', succ64 (by omega)]
              cases tr v a[i][j]
              · rw [if_neg (by decide)]
                rfl
              · rw [if_pos rfl]
                rfl
            · have q3 : wrap64 (-(a[i][j])) = -(a[i][j]) := w64 (by omega) (by omega)
              have q0 : wrap64 (-(a[i][j]) - 1) = -(a[i][j]) - 1 := w64 (by omega) (by omega)
              have q1 : 0 ≤ -(a[i][j]) - 1 := by omega
              have q2 : -(a[i][j]) - 1 < (v.length : Int) := by omega
              have c' : ¬ a[i][j] > 0 := by omega
              have t : (!(rdOf false v (-(a[i][j]) - 1))) = tr v a[i][j] := by unfold rdOf tr; rw [if_neg c']
              refine Ev.step (fun k => ?_) hn
              simp only [proofmarkref17_Met.l1]
              rw [rows_get hlt, if_pos z0, if_pos z1, if_pos z2, if_pos z3, if_neg (by decide), rd_get hjl, if_neg c', if_pos c, q3, q0, if_pos q1, if_pos q2, t, succ64 (by omega), Bool.false_or]
          · refine Ev.step (fun k => ?_) hn
            simp only [proofmarkref17_Met.l1]
            rw [rows_get hlt, if_pos z0, if_pos z1, if_pos z2, if_pos z3, if_pos trivial, succ64 (by omega), Bool.true_or]
      have hn := inner _ 0 false rfl (by omega)
      rw [List.drop_eq_getElem_cons hlt]
      refine Ev.step (fun k => ?_) hn
      simp only [proofmarkref17_Met.l0]
      rw [if_pos z1]
      rfl
  unfold proofmarkref17_Met.f
  exact outer _ 0 rfl (by omega)
theorem tr_at {pre w : List Bool} {n : Int} (h : 0 ≤ n) : tr (pre ++ w) (pre.length + 1 + n) = w.getD n.toNat false := by
  have c : (pre.length : Int) + 1 + n > 0 := by omega
  have q : ((pre.length : Int) + 1 + n - 1).toNat = pre.length + n.toNat := by omega
  unfold tr
  rw [if_pos c, q, getD_right]
theorem tr_neg {v : List Bool} {x : Int} (h : x ≠ 0) : tr v (-x) = !(tr v x) := by
  unfold tr
  have c : x > 0 ∨ x < 0 := by omega
  rcases c with c | c
  · rw [if_neg (show ¬ -x > 0 by omega), if_pos c, Int.neg_neg]
  · rw [if_pos (show -x > 0 by omega), if_neg (show ¬ x > 0 by omega), Bool.not_not]
theorem tr_ofv {pre w : List Bool} {a : Int} (h : 0 ≤ a) : tr (pre ++ w) (ofv a pre.length) = lv w a := by
  have hm : a % 2 = 0 ∨ a % 2 = 1 := by omega
  have h2 : 0 ≤ a / 2 := by omega
  have t := tr_at (pre := pre) (w := w) h2
  unfold ofv lv
  rcases hm with hm | hm
  · rw [if_pos hm, t, hm]
    cases w.getD (a / 2).toNat false <;> rfl
  · rw [if_neg (by omega), tr_neg (by omega), t, hm]
    cases w.getD (a / 2).toNat false <;> rfl
theorem ofv_ne {a off : Int} (h0 : 0 ≤ a) (h2 : 0 ≤ off) : ofv a off ≠ 0 := by unfold ofv; split <;> omega
theorem met_three {ins : Int} {i : Nat} {x : A2} {pre w : List Bool} (h0 : 0 ≤ ins) (a0 : 0 ≤ x.f0) (a1 : 0 ≤ x.f1) : met (three ins pre.length i x) (pre ++ w) = true ↔ w.getD (1 + ins + i).toNat false = (lv w x.f0 && lv w x.f1) := by
  have p0 := tr_ofv (pre := pre) (w := w) a0
  have p1 := tr_ofv (pre := pre) (w := w) a1
  have n0 := tr_neg (v := pre ++ w) (ofv_ne a0 (show (0 : Int) ≤ pre.length by omega))
  have n1 := tr_neg (v := pre ++ w) (ofv_ne a1 (show (0 : Int) ≤ pre.length by omega))
  have e : (pre.length : Int) + 2 + ins + i = pre.length + 1 + (1 + ins + i) := by omega
  have p2 := tr_at (pre := pre) (w := w) (show 0 ≤ 1 + ins + (i : Int) by omega)
  have n2 := tr_neg (v := pre ++ w) (show (pre.length : Int) + 1 + (1 + ins + i) ≠ 0 by omega)
  unfold three met
  rw [e]
  simp only [List.all_cons, List.all_nil, List.any_cons, List.any_nil, n0, n1, n2, p0, p1, p2]
  cases lv w x.f0 <;> cases lv w x.f1 <;> cases w.getD (1 + ins + (i : Int)).toNat false <;> decide
theorem met_app (a b : List (List Int)) (v : List Bool) : met (a ++ b) v = (met a v && met b v) := by unfold met; rw [List.all_append]
theorem met_cls {ins : Int} {l : List A2} (h : GoodA ins l) (pre w : List Bool) : ∀ k, k ≤ l.length → (met (cls ins pre.length l k) (pre ++ w) = true ↔ (w.getD 0 false = false ∧ ∀ (i : Nat) (x : A2), i < k → l[i]? = some x → w.getD (1 + ins + i).toNat false = (lv w x.f0 && lv w x.f1)))
  | 0, _ => by
    have n := tr_neg (v := pre ++ w) (show (pre.length : Int) + 1 + 0 ≠ 0 by omega)
    have p := tr_at (pre := pre) (w := w) (show (0 : Int) ≤ 0 by omega)
    have e : (pre.length : Int) + 1 = pre.length + 1 + 0 := by omega
    unfold cls met
    rw [e]
    simp only [List.all_cons, List.all_nil, List.any_cons, List.any_nil, n, p]
    constructor
    · intro hh
      refine ⟨?_, fun i x hi => by omega⟩
      have : ((0 : Int)).toNat = 0 := rfl
      rw [this] at hh
      revert hh
      cases w.getD 0 false <;> decide
    · intro hh
      have : ((0 : Int)).toNat = 0 := rfl
      rw [this, hh.1]
      rfl
  | k + 1, hk => by
    have hx : l[k]? = some l[k] := List.getElem?_eq_getElem (by omega)
    have e2 : l.getD k z49 = l[k] := by rw [List.getD_eq_getElem?_getD, hx]; rfl
    obtain ⟨a0, a1, a2, _⟩ := h.in_ k _ hx
    have ih := met_cls h pre w k (by omega)
    have m3 := met_three (i := k) (x := l[k]) (pre := pre) (w := w) h.ins0 (by omega) (by omega)
    unfold cls
    rw [e2, met_app, Bool.and_eq_true, ih, m3]
    constructor
    · rintro ⟨⟨q0, q1⟩, q2⟩
      refine ⟨q0, fun i x hi hix => ?_⟩
      by_cases c : i = k
      · subst c
        rw [hx] at hix
        have hix := Option.some.inj hix
        subst hix
        exact q2
      · exact q1 i x (by omega) hix
    · rintro ⟨q0, q1⟩
      exact ⟨⟨q0, fun i x hi hix => q1 i x (by omega) hix⟩, q1 k _ (by omega) hx⟩
theorem Val.met {ins : Int} {l : List A2} {w : List Bool} (h : GoodA ins l) (hw : Val ins l w l.length) (pre : List Bool) : met (cls ins pre.length l l.length) (pre ++ w) = true :=
  (met_cls h pre w _ (Nat.le_refl _)).2 ⟨hw.zero, hw.ands⟩
/-- The graph's values are the one way, behind its inputs. -/
theorem once {ins : Int} {l : List A2} {w u : List Bool} (h : GoodA ins l) (hw : Val ins l w l.length) (hu : Val ins l u l.length) (hin : ∀ j : Nat, 1 ≤ j → (j : Int) ≤ ins → w.getD j false = u.getD j false) : ∀ n j : Nat, j < n → (j : Int) < 1 + ins + l.length → w.getD j false = u.getD j false
  | 0, j, hj, _ => by omega
  | n + 1, j, hj, hjl => by
    have ih := once h hw hu hin n
    have i0 := h.ins0
    by_cases c0 : j = 0
    · subst c0
      rw [hw.zero, hu.zero]
    by_cases c1 : (j : Int) ≤ ins
    · exact hin j (by omega) c1
    have hil : (j - 1 - ins.toNat) < l.length := by omega
    have hx : l[j - 1 - ins.toNat]? = some l[j - 1 - ins.toNat] := List.getElem?_eq_getElem hil
    have q0 := hw.ands _ _ hil hx
    have q1 := hu.ands _ _ hil hx
    obtain ⟨a0, a1, a2, _⟩ := h.in_ _ _ hx
    generalize l[j - 1 - ins.toNat] = x at q0 q1 a0 a1 a2
    have e : (1 + ins + ((j - 1 - ins.toNat : Nat) : Int)).toNat = j := by omega
    rw [e] at q0 q1
    have same : ∀ a : Int, 0 ≤ a → a < 2 * j → lv w a = lv u a := by
      intro a g0 g1
      unfold lv
      rw [ih (a / 2).toNat (by omega) (by omega)]
    rw [q0, q1, same _ (by omega) (by omega), same _ (by omega) (by omega)]
end Go.Proofs.Ytdfbnlmjnollnaa.PVal
