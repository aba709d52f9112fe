/- Slimmed by this session: what nothing names is struck out. -/
import Derived.Test.YtlnjefcfbncegaaWWords
import Derived.Test.YtlnjefcfbncegaaWMore
import Derived.IntWalk
import Derived.Test.YtlnjefcfbncegaaXb27
import Derived.Test.YtlnjefcfbncegaaXb17
import Derived.Test.YtlnjefcfbncegaaXb29
import Derived.Test.YtlnjefcfbncegaaXbM
import Derived.Test.YtlnjefcfbncegaaXb2
import Derived.Test.YtlnjefcfbncegaaXb4
import Derived.Test.YtlnjefcfbncegaaXb6
import Derived.Test.YtlnjefcfbncegaaXb8
import Derived.Test.YtlnjefcfbncegaaXb5
import Derived.Test.YtlnjefcfbncegaaXb28
import Derived.Test.YtlnjefcfbncegaaXb16
namespace Go.Proofs.Ytlnjefcfbncegaa.PBits
open Go.RowKit Go.Proofs.YtlnjefcfbncegaaW.PrintWords Go.Proofs.YtlnjefcfbncegaaW.PrintMore
theorem w64 {n : Int} (h0 : -9223372036854775808 ≤ n) (h1 : n ≤ 9223372036854775807) : wrap64 n = n := by unfold wrap64; omega
theorem succ64 {i : Nat} (h : i < 4611686018427387904) : wrap64 ((i : Int) + 1) = ((i + 1 : Nat) : Int) := by rw [w64 (by omega) (by omega)]; push_cast; rfl
theorem wrapi (n : Int) (h0 : 0 ≤ n) (h1 : n < 9223372036854775808) : IntKind.i64.wrap n = n := by rw [IntKind.wrap_i64]; omega
theorem toN (a : Nat) (ha : a < 9223372036854775808) : (BitVec.ofInt 64 (a : Int)).toNat = a := by
  rw [BitVec.ofInt_natCast, BitVec.toNat_ofNat]; exact Nat.mod_eq_of_lt (by omega)
theorem xor_nat (a b : Nat) (ha : a < 9223372036854775808) (hb : b < 9223372036854775808) : Go.bits .xor .i64 (a : Int) (b : Int) = ((a ^^^ b : Nat) : Int) := by
  have hx : a ^^^ b < 2 ^ 63 := Nat.xor_lt_two_pow (by omega) (by omega)
  show IntKind.i64.wrap ((BitVec.ofInt 64 (a : Int) ^^^ BitVec.ofInt 64 (b : Int)).toNat : Int) = _
  rw [BitVec.toNat_xor, toN a ha, toN b hb]
  exact wrapi _ (by omega) (by omega)
theorem and_nat (a b : Nat) (ha : a < 9223372036854775808) (hb : b < 9223372036854775808) : Go.bits .and .i64 (a : Int) (b : Int) = ((a &&& b : Nat) : Int) := by
  have hx : a &&& b < 2 ^ 63 := Nat.and_lt_two_pow a (by omega)
  show IntKind.i64.wrap ((BitVec.ofInt 64 (a : Int) &&& BitVec.ofInt 64 (b : Int)).toNat : Int) = _
  rw [BitVec.toNat_and, toN a ha, toN b hb]
  exact wrapi _ (by omega) (by omega)
def turn (a : Int) : Int := if a % 2 = 0 then a + 1 else a - 1
theorem nat_xor_one (a : Nat) : a ^^^ 1 = if a % 2 = 0 then a + 1 else a - 1 := by
  have h1 : (a ^^^ 1) / 2 = a / 2 := by
    have := Nat.shiftRight_xor_distrib (a := a) (b := 1) (i := 1)
    simpa [Nat.shiftRight_eq_div_pow] using this
  have h2 : (a ^^^ 1) % 2 = if a % 2 = 0 then 1 else 0 := by
    have h3 := Nat.testBit_xor a 1 0
    simp only [Nat.testBit_zero] at h3
    rcases Nat.mod_two_eq_zero_or_one a with h | h <;> rcases Nat.mod_two_eq_zero_or_one (a ^^^ 1) with h' | h' <;> simp [h, h'] at h3 ⊢
  split at h2 <;> rename_i h
  · rw [if_pos h]; omega
  · rw [if_neg h]; omega
theorem xor_one (a : Int) (h0 : 0 ≤ a) (h1 : a < 9223372036854775807) : Go.bits .xor .i64 a 1 = turn a := by
  obtain ⟨n, rfl⟩ := Int.eq_ofNat_of_zero_le h0
  have := xor_nat n 1 (by omega) (by omega)
  rw [show ((1 : Nat) : Int) = 1 from rfl] at this
  rw [this, nat_xor_one]
  unfold turn
  split <;> split <;> omega
theorem and_one (a : Int) (h0 : 0 ≤ a) (h1 : a < 9223372036854775808) : Go.bits .and .i64 a 1 = a % 2 := by
  obtain ⟨n, rfl⟩ := Int.eq_ofNat_of_zero_le h0
  have := and_nat n 1 (by omega) (by omega)
  rw [show ((1 : Nat) : Int) = 1 from rfl] at this
  rw [this, Nat.and_one_is_mod]
  omega
theorem turn_nonneg {a : Int} (h : 0 ≤ a) : 0 ≤ turn a := by unfold turn; split <;> omega
theorem turn_lt {a n : Int} (h : a < 2 * n) : turn a < 2 * n := by unfold turn; split <;> omega
theorem turn_div (a : Int) : turn a / 2 = a / 2 := by unfold turn; split <;> omega
theorem turn_ne (a : Int) : turn a ≠ a := by unfold turn; split <;> omega
theorem tdiv2 {a : Int} (h : 0 ≤ a) : Int.tdiv a 2 = a / 2 := Int.tdiv_eq_ediv_of_nonneg h
theorem tmodn {a b : Int} (h : 0 ≤ a) : Int.tmod a b = a % b := Int.tmod_eq_emod_of_nonneg h
theorem lit_u8 {x : Int} (h : (Lit.int .u8 x).wf = true) : 0 ≤ x ∧ x ≤ 255 := by
  have h1 : IntKind.u8.min = 0 := by decide
  have h2 : IntKind.u8.max = 255 := by decide
  simp [Lit.wf] at h
  omega
theorem lit_u16 {x : Int} (h : (Lit.int .u16 x).wf = true) : 0 ≤ x ∧ x ≤ 65535 := by
  have h1 : IntKind.u16.min = 0 := by decide
  have h2 : IntKind.u16.max = 65535 := by decide
  simp [Lit.wf] at h
  omega
theorem Ev.ite_pos {α : Type} {c : Prop} [Decidable c] {g f : Nat → Option α} {r : α} (hc : c) (h : Ev g r) : Ev (fun k => if c then g k else f k) r := by
  simp only [if_pos hc]; exact h
theorem Ev.ite_neg {α : Type} {c : Prop} [Decidable c] {g f : Nat → Option α} {r : α} (hc : ¬ c) (h : Ev f r) : Ev (fun k => if c then g k else f k) r := by
  simp only [if_neg hc]; exact h
theorem Ev.const {α : Type} {o : Option α} {r : α} (h : o = some r) : Ev (fun _ => o) r := ⟨0, fun _ _ => h⟩
theorem Ev.bindc {α β : Type} {o : Option α} {f : Nat → α → Option β} {a : α} {r : β} (h : o = some a) (k : Ev (fun n => f n a) r) : Ev (fun n => o.bind (f n)) r := by
  subst h; exact k
end Go.Proofs.Ytlnjefcfbncegaa.PBits
namespace Go.Proofs.Ytlnjefcfbncegaa.PAig
open Go.RowKit Go.Proofs.YtlnjefcfbncegaaW.PrintWords Go.Proofs.YtlnjefcfbncegaaW.PrintMore Go.Proofs.Ytlnjefcfbncegaa.PBits Go.Proofs.Ytlnjefcfbncegaa.Xb
abbrev A2 := S50
def idx (a b : Int) : List A2 → Int → Int
  | [], _ => -1
  | x :: xs, i => if x.f0 = a ∧ x.f1 = b then i else idx a b xs (i + 1)
theorem idx_spec (a b : Int) : ∀ (l : List A2) (i : Int), 0 ≤ i → (idx a b l i = -1 ∧ ∀ x ∈ l, ¬ (x.f0 = a ∧ x.f1 = b)) ∨ (∃ j : Nat, idx a b l i = i + j ∧ l[j]? = some ⟨a, b⟩)
  | [], i, _ => .inl ⟨rfl, fun x hx => by cases hx⟩
  | x :: xs, i, hi => by
    unfold idx
    by_cases h : x.f0 = a ∧ x.f1 = b
    · rw [if_pos h]
      refine .inr ⟨0, by simp, ?_⟩
      obtain ⟨rfl, rfl⟩ := h
      rfl
    · rw [if_neg h]
      rcases idx_spec a b xs (i + 1) (by omega) with ⟨h1, h2⟩ | ⟨j, h1, h2⟩
      · refine .inl ⟨h1, fun y hy => ?_⟩
        rcases List.mem_cons.1 hy with rfl | hy
        · exact h
        · exact h2 y hy
      · exact .inr ⟨j + 1, by rw [h1]; push_cast; omega, by simpa using h2⟩
theorem find_ev (ins a b : Int) (l : List A2) (hl : l.length < 1000000) : ∀ (d : Nat) (i : Nat), l.length - i = d → i ≤ l.length →
    Ev (fun k => proofmarkref13_find.l0 k a b (l.length : Int) (i : Int) ins l) (idx a b (l.drop i) i) := by
  intro d
  induction d with
  | zero =>
    intro i hd hi
    refine Ev.step (fun k => by simp only [proofmarkref13_find.l0]; rw [if_neg (by omega)]) ?_
    rw [List.drop_eq_nil_of_le (by omega)]
    exact Ev.now _
  | succ d ih =>
    intro i hd hi
    have hlt : i < l.length := by omega
    have hx : rd_T50 l (i : Int) = l[i] := by
      unfold rd_T50
      rw [Int.toNat_natCast, List.getD_eq_getElem?_getD, List.getElem?_eq_getElem hlt]
      rfl
    have hs : wrap64 ((i : Int) + 1) = ((i + 1 : Nat) : Int) := by rw [w64 (by omega) (by omega)]; push_cast; rfl
    refine Ev.step (fun k => by simp only [proofmarkref13_find.l0]; rw [if_pos (by omega), if_pos (by omega), if_pos (by omega), hx, hs]) ?_
    rw [List.drop_eq_getElem_cons hlt]
    unfold idx
    by_cases h0 : l[i].f0 = a
    · refine Ev.ite_pos h0 ?_
      by_cases h1 : l[i].f1 = b
      · rw [if_pos ⟨h0, h1⟩]
        exact Ev.ite_pos h1 (Ev.now _)
      · rw [if_neg (fun h => h1 h.2)]
        exact Ev.ite_neg h1 (ih (i + 1) (by omega) (by omega))
    · rw [if_neg (fun h => h0 h.1)]
      exact Ev.ite_neg h0 (ih (i + 1) (by omega) (by omega))
def lo (a b : Int) : Int := if a > b then b else a
def hi (a b : Int) : Int := if a > b then a else b
def andL (l : List A2) (a b : Int) : List A2 :=
  if lo a b = 0 ∨ (lo a b / 2 = hi a b / 2 ∧ lo a b ≠ hi a b) then l else if lo a b = 1 ∨ lo a b = hi a b then l else if idx (lo a b) (hi a b) l 0 < 0 then l ++ [⟨lo a b, hi a b⟩] else l
def andX (ins : Int) (l : List A2) (a b : Int) : Int :=
  if lo a b = 0 ∨ (lo a b / 2 = hi a b / 2 ∧ lo a b ≠ hi a b) then 0 else if lo a b = 1 ∨ lo a b = hi a b then hi a b else if idx (lo a b) (hi a b) l 0 < 0 then 2 * (ins + 1 + l.length) else 2 * (ins + 1 + idx (lo a b) (hi a b) l 0)
theorem and_ev (ins : Int) (l : List A2) (a b : Int) (hl : l.length < 1000000) (hi0 : 0 ≤ ins) (hi1 : ins < 1000000) (ha : 0 ≤ a) (ha1 : a < 4611686018427387904) (hb : 0 ≤ b) (hb1 : b < 4611686018427387904) :
    Ev (fun k => proofmarkref13_And.f k ins l a b) (ins, andL l a b, andX ins l a b) := by
  have main : ∀ x y : Int, 0 ≤ x → x < 4611686018427387904 → 0 ≤ y → y < 4611686018427387904 → lo a b = x → hi a b = y → Ev (fun k => proofmarkref13_And.j0 k x y ins l) (ins, andL l a b, andX ins l a b) := by
    intro x y hx hx1 hy hy1 ex ey
    unfold andL andX
    rw [ex, ey]
    have d1 : wrap64 (Int.tdiv x 2) = x / 2 := by rw [tdiv2 hx]; exact w64 (by omega) (by omega)
    have d2 : wrap64 (Int.tdiv y 2) = y / 2 := by rw [tdiv2 hy]; exact w64 (by omega) (by omega)
    have rest : ¬ (x = 0 ∨ (x / 2 = y / 2 ∧ x ≠ y)) → Ev (fun k => proofmarkref13_And.j1 k x y false ins l) (ins, if x = 1 ∨ x = y then l else if idx x y l 0 < 0 then l ++ [⟨x, y⟩] else l, if x = 1 ∨ x = y then y else if idx x y l 0 < 0 then 2 * (ins + 1 + l.length) else 2 * (ins + 1 + idx x y l 0)) := by
      intro hn
      have tail : Ev (fun k => proofmarkref13_And.j2 k x y false ins l) (ins, if idx x y l 0 < 0 then l ++ [⟨x, y⟩] else l, if idx x y l 0 < 0 then 2 * (ins + 1 + l.length) else 2 * (ins + 1 + idx x y l 0)) := by
        refine Ev.step (fun k => by simp only [proofmarkref13_And.j2]; rw [if_neg (by decide)]) ?_
        have hf := find_ev ins x y l hl l.length 0 (by omega) (by omega)
        rw [List.drop_zero, show ((0 : Nat) : Int) = (0 : Int) from rfl] at hf
        refine Ev.bind (f := fun k t143 => _) hf ?_
        have hs := idx_spec x y l 0 (by omega)
        by_cases hneg : idx x y l 0 < 0
        · simp only [if_pos hneg, Option.bind_some, List.nil_append]
          refine Ev.ite_pos (by simp; omega) (Ev.ite_pos (by omega) (Ev.const ?_))
          rw [w64 (n := ins + 1) (by omega) (by omega), w64 (n := ins + 1 + (l.length : Int)) (by omega) (by omega), w64 (by omega) (by omega)]
        · simp only [if_neg hneg]
          refine Ev.const ?_
          have hb2 : idx x y l 0 < 1000000 := by
            rcases hs with ⟨h1, _⟩ | ⟨j, h1, h2⟩
            · omega
            · have := (List.getElem?_eq_some_iff.1 h2).1
              omega
          rw [w64 (n := ins + 1) (by omega) (by omega), w64 (n := ins + 1 + idx x y l 0) (by omega) (by omega), w64 (by omega) (by omega)]
      refine Ev.step (fun k => by simp only [proofmarkref13_And.j1]; rw [if_neg (by decide)]) ?_
      have fin : Ev (fun k => proofmarkref13_And.j2 k x y true ins l) (ins, l, y) := Ev.step (fun k => by simp only [proofmarkref13_And.j2]; rw [if_pos trivial]) (Ev.now _)
      by_cases h1 : x = 1
      · rw [if_pos (Or.inl h1), if_pos (Or.inl h1)]
        exact Ev.ite_pos h1 fin
      · refine Ev.ite_neg h1 ?_
        by_cases h2 : x = y
        · rw [if_pos (Or.inr h2), if_pos (Or.inr h2), show (x == y) = true from beq_iff_eq.2 h2]
          exact fin
        · have h3 : ¬ (x = 1 ∨ x = y) := fun h => h.elim h1 h2
          rw [if_neg h3, if_neg h3, show (x == y) = false from beq_eq_false_iff_ne.2 h2]
          exact tail
    have zero : Ev (fun k => proofmarkref13_And.j1 k x y true ins l) (ins, l, (0 : Int)) := Ev.step (fun k => by simp only [proofmarkref13_And.j1]; rw [if_pos trivial]) (Ev.now _)
    refine Ev.step (fun k => by simp only [proofmarkref13_And.j0]; rw [d1, d2]) ?_
    by_cases h0 : x = 0
    · rw [if_pos (Or.inl h0), if_pos (Or.inl h0)]
      exact Ev.ite_pos h0 zero
    · refine Ev.ite_neg h0 ?_
      by_cases h1 : x / 2 = y / 2
      · refine Ev.ite_pos h1 ?_
        by_cases h2 : x = y
        · rw [show (x != y) = false from by simpa using h2]
          have h3 : ¬ (x = 0 ∨ (x / 2 = y / 2 ∧ x ≠ y)) := fun h => h.elim h0 (fun h => h.2 h2)
          rw [if_neg h3, if_neg h3]
          exact rest h3
        · rw [show (x != y) = true from by simpa using h2, if_pos (Or.inr ⟨h1, h2⟩), if_pos (Or.inr ⟨h1, h2⟩)]
          exact zero
      · have h3 : ¬ (x = 0 ∨ (x / 2 = y / 2 ∧ x ≠ y)) := fun h => h.elim h0 (fun h => h1 h.1)
        rw [if_neg h3, if_neg h3]
        exact Ev.ite_neg h1 (rest h3)
  unfold proofmarkref13_And.f
  by_cases hab : a > b
  · exact Ev.ite_pos hab (main b a hb hb1 ha ha1 (if_pos hab) (if_pos hab))
  · exact Ev.ite_neg hab (main a b ha ha1 hb hb1 (if_neg hab) (if_neg hab))
structure GoodA (ins : Int) (l : List A2) : Prop where
  ins0 : 0 ≤ ins
  ins1 : ins ≤ 8
  in_ : ∀ (i : Nat) (x : A2), l[i]? = some x → 2 ≤ x.f0 ∧ x.f0 < x.f1 ∧ x.f1 < 2 * (ins + 1 + i) ∧ x.f0 / 2 ≠ x.f1 / 2
  once : ∀ (i j : Nat) (x : A2), l[i]? = some x → l[j]? = some x → i = j
def Lit_ (ins : Int) (l : List A2) (a : Int) : Prop := 0 ≤ a ∧ a < 2 * (ins + 1 + l.length)
theorem lo_lit {ins : Int} {l : List A2} {a b : Int} (ha : Lit_ ins l a) (hb : Lit_ ins l b) : Lit_ ins l (lo a b) := by unfold lo; split <;> assumption
theorem hi_lit {ins : Int} {l : List A2} {a b : Int} (ha : Lit_ ins l a) (hb : Lit_ ins l b) : Lit_ ins l (hi a b) := by unfold hi; split <;> assumption
theorem lo_le_hi (a b : Int) : lo a b ≤ hi a b := by unfold lo hi; split <;> omega
theorem and_good {ins : Int} {l : List A2} {a b : Int} (h : GoodA ins l) (ha : Lit_ ins l a) (hb : Lit_ ins l b) :
    GoodA ins (andL l a b) ∧ (∃ t, andL l a b = l ++ t ∧ t.length ≤ 1) ∧ Lit_ ins (andL l a b) (andX ins l a b) := by
  have hlo := lo_lit ha hb
  have hhi := hi_lit ha hb
  have hle := lo_le_hi a b
  have h0 := h.ins0
  unfold andL andX
  generalize lo a b = x at *
  generalize hi a b = y at *
  by_cases c1 : x = 0 ∨ (x / 2 = y / 2 ∧ x ≠ y)
  · rw [if_pos c1, if_pos c1]
    exact ⟨h, ⟨[], by simp⟩, by omega, by omega⟩
  rw [if_neg c1, if_neg c1]
  by_cases c2 : x = 1 ∨ x = y
  · rw [if_pos c2, if_pos c2]
    exact ⟨h, ⟨[], by simp⟩, hhi⟩
  rw [if_neg c2, if_neg c2]
  have c1' : x ≠ 0 ∧ (x / 2 = y / 2 → x = y) := ⟨fun e => c1 (.inl e), fun e => Classical.byContradiction fun n => c1 (.inr ⟨e, n⟩)⟩
  have c2' : x ≠ 1 ∧ x ≠ y := ⟨fun e => c2 (.inl e), fun e => c2 (.inr e)⟩
  have hx : 2 ≤ x := by have := hlo.1; omega
  rcases idx_spec x y l 0 (by omega) with ⟨e, hn⟩ | ⟨j, e, hj⟩
  · rw [e, if_pos (by omega), if_pos (by omega)]
    refine ⟨⟨h0, h.ins1, fun i z hz => ?_, fun i j z hi hj => ?_⟩, ⟨[⟨x, y⟩], rfl, by simp⟩, by have := h0; omega, by rw [List.length_append, List.length_singleton]; push_cast; omega⟩
    · by_cases hi : i < l.length
      · rw [List.getElem?_append_left hi] at hz
        exact h.in_ i z hz
      · have hil : i < (l ++ [(⟨x, y⟩ : A2)]).length := (List.getElem?_eq_some_iff.1 hz).1
        have hi2 : i = l.length := by simp at hil; omega
        subst hi2
        rw [List.getElem?_append_right (Nat.le_refl _)] at hz
        simp at hz
        subst hz
        have := hhi.2
        exact ⟨hx, by show x < y; omega, by show y < _; omega, fun e => c2'.2 (c1'.2 e)⟩
    · have key : ∀ i, (l ++ [(⟨x, y⟩ : A2)])[i]? = some z → i < l.length ∨ (i = l.length ∧ z = ⟨x, y⟩) := by
        intro i hz
        by_cases hi : i < l.length
        · exact .inl hi
        · have hil : i < (l ++ [(⟨x, y⟩ : A2)]).length := (List.getElem?_eq_some_iff.1 hz).1
          have hi2 : i = l.length := by simp at hil; omega
          subst hi2
          rw [List.getElem?_append_right (Nat.le_refl _)] at hz
          simp at hz
          exact .inr ⟨rfl, hz.symm⟩
      have old : ∀ i, i < l.length → (l ++ [(⟨x, y⟩ : A2)])[i]? = some z → z ≠ ⟨x, y⟩ := by
        intro i hi hz e
        rw [List.getElem?_append_left hi] at hz
        subst e
        exact hn _ (List.mem_of_getElem? hz) ⟨rfl, rfl⟩
      rcases key i hi with h1 | ⟨h1, h1'⟩ <;> rcases key j hj with h2 | ⟨h2, h2'⟩
      · rw [List.getElem?_append_left h1] at hi
        rw [List.getElem?_append_left h2] at hj
        exact h.once i j z hi hj
      · exact absurd h2' (old i h1 hi)
      · exact absurd h1' (old j h2 hj)
      · omega
  · rw [e, if_neg (by omega), if_neg (by omega)]
    have hjl := (List.getElem?_eq_some_iff.1 hj).1
    exact ⟨h, ⟨[], by simp⟩, by omega, by omega⟩
theorem Lit_.app {ins : Int} {l t : List A2} {a : Int} (h : Lit_ ins l a) : Lit_ ins (l ++ t) a := ⟨h.1, by have := h.2; rw [List.length_append]; push_cast; omega⟩
theorem Lit_.turn {ins : Int} {l : List A2} {a : Int} (h : Lit_ ins l a) : Lit_ ins l (turn a) := ⟨turn_nonneg h.1, turn_lt h.2⟩
def orL (l : List A2) (a b : Int) : List A2 := andL l (turn a) (turn b)
def orX (ins : Int) (l : List A2) (a b : Int) : Int := turn (andX ins l (turn a) (turn b))
def muxL (ins : Int) (l : List A2) (i a b : Int) : List A2 :=
  orL (andL (andL l i a) (turn i) b) (andX ins l i a) (andX ins (andL l i a) (turn i) b)
def muxX (ins : Int) (l : List A2) (i a b : Int) : Int :=
  orX ins (andL (andL l i a) (turn i) b) (andX ins l i a) (andX ins (andL l i a) (turn i) b)
def xorL (ins : Int) (l : List A2) (a b : Int) : List A2 := muxL ins l a (turn b) b
def xorX (ins : Int) (l : List A2) (a b : Int) : Int := muxX ins l a (turn b) b
theorem or_good {ins : Int} {l : List A2} {a b : Int} (h : GoodA ins l) (ha : Lit_ ins l a) (hb : Lit_ ins l b) :
    GoodA ins (orL l a b) ∧ (∃ t, orL l a b = l ++ t ∧ t.length ≤ 1) ∧ Lit_ ins (orL l a b) (orX ins l a b) := by
  obtain ⟨h1, h2, h3⟩ := and_good h ha.turn hb.turn
  exact ⟨h1, h2, h3.turn⟩
theorem mux_good {ins : Int} {l : List A2} {i a b : Int} (h : GoodA ins l) (hi : Lit_ ins l i) (ha : Lit_ ins l a) (hb : Lit_ ins l b) :
    GoodA ins (muxL ins l i a b) ∧ (∃ t, muxL ins l i a b = l ++ t ∧ t.length ≤ 3) ∧ Lit_ ins (muxL ins l i a b) (muxX ins l i a b) := by
  obtain ⟨h1, ⟨t1, e1, n1⟩, x1⟩ := and_good h hi ha
  have hi1 : Lit_ ins (andL l i a) (turn i) := by rw [e1]; exact hi.turn.app
  have hb1 : Lit_ ins (andL l i a) b := by rw [e1]; exact hb.app
  obtain ⟨h2, ⟨t2, e2, n2⟩, x2⟩ := and_good h1 hi1 hb1
  have x1' : Lit_ ins (andL (andL l i a) (turn i) b) (andX ins l i a) := by rw [e2]; exact x1.app
  obtain ⟨h3, ⟨t3, e3, n3⟩, x3⟩ := or_good h2 x1' x2
  refine ⟨h3, ⟨t1 ++ (t2 ++ t3), ?_, by simp; omega⟩, x3⟩
  unfold muxL
  rw [e3, e2, e1]
  simp
theorem xor_good {ins : Int} {l : List A2} {a b : Int} (h : GoodA ins l) (ha : Lit_ ins l a) (hb : Lit_ ins l b) :
    GoodA ins (xorL ins l a b) ∧ (∃ t, xorL ins l a b = l ++ t ∧ t.length ≤ 3) ∧ Lit_ ins (xorL ins l a b) (xorX ins l a b) := mux_good h ha hb.turn hb
def Few (ins : Int) (l : List A2) : Prop := 0 ≤ ins ∧ ins ≤ 1000 ∧ l.length < 900000
theorem Lit_.bd {ins : Int} {l : List A2} {a : Int} (hf : Few ins l) (h : Lit_ ins l a) : 0 ≤ a ∧ a < 2000000 := ⟨h.1, by have := h.2; have := hf.2.1; have := hf.2.2; omega⟩
theorem and_ev' {ins : Int} {l : List A2} {a b : Int} (hf : Few ins l) (ha : Lit_ ins l a) (hb : Lit_ ins l b) : Ev (fun k => proofmarkref13_And.f k ins l a b) (ins, andL l a b, andX ins l a b) := by
  have h1 := ha.bd hf
  have h2 := hb.bd hf
  exact and_ev ins l a b (by have := hf.2.2; omega) hf.1 (by have := hf.2.1; omega) h1.1 (by omega) h2.1 (by omega)
theorem turn_f {a : Int} (h0 : 0 ≤ a) (h1 : a < 2000000) : proofmarkref13_turn.f a = some (turn a) := by
  unfold proofmarkref13_turn.f
  rw [xor_one a h0 (by omega)]
theorem few_and {ins : Int} {l : List A2} {a b : Int} {n : Nat} (hf : Few ins l) (hn : l.length + n + 1 < 900000) : Few ins (andL l a b) ∧ (andL l a b).length ≤ l.length + 1 := by
  have : (andL l a b).length ≤ l.length + 1 := by
    unfold andL
    split
    · omega
    · split
      · omega
      · split
        · simp
        · omega
  exact ⟨⟨hf.1, hf.2.1, by omega⟩, this⟩
theorem or_ev {ins : Int} {l : List A2} {a b : Int} (h : GoodA ins l) (hf : Few ins l) (hn : l.length + 10 < 900000) (ha : Lit_ ins l a) (hb : Lit_ ins l b) : Ev (fun k => proofmarkref13_Or.f k ins l a b) (ins, orL l a b, orX ins l a b) := by
  have h1 := ha.bd hf
  have h2 := hb.bd hf
  unfold proofmarkref13_Or.f
  simp only [turn_f h1.1 h1.2, turn_f h2.1 h2.2, Option.bind_some]
  refine Ev.bind (f := fun k bt => _) (and_ev' hf ha.turn hb.turn) ?_
  have hx := (and_good h ha.turn hb.turn).2.2
  have h3 := hx.bd (few_and (n := 9) hf (by omega)).1
  simp only [turn_f h3.1 h3.2, Option.bind_some]
  exact Ev.now _
theorem mux_ev {ins : Int} {l : List A2} {i a b : Int} (h : GoodA ins l) (hf : Few ins l) (hn : l.length + 20 < 900000) (hi : Lit_ ins l i) (ha : Lit_ ins l a) (hb : Lit_ ins l b) : Ev (fun k => proofmarkref13_Mux.f k ins l i a b) (ins, muxL ins l i a b, muxX ins l i a b) := by
  obtain ⟨g1, ⟨t1, e1, n1⟩, x1⟩ := and_good h hi ha
  have f1 := few_and (n := 9) (a := i) (b := a) hf (by omega)
  have hi1 : Lit_ ins (andL l i a) (turn i) := by rw [e1]; exact hi.turn.app
  have hb1 : Lit_ ins (andL l i a) b := by rw [e1]; exact hb.app
  obtain ⟨g2, ⟨t2, e2, n2⟩, x2⟩ := and_good g1 hi1 hb1
  have f2 := few_and (n := 9) (a := turn i) (b := b) f1.1 (by omega)
  have x1' : Lit_ ins (andL (andL l i a) (turn i) b) (andX ins l i a) := by rw [e2]; exact x1.app
  have h1 := hi.bd hf
  unfold proofmarkref13_Mux.f
  refine Ev.bind (f := fun k bt => _) (and_ev' hf hi ha) ?_
  simp only [turn_f h1.1 h1.2, Option.bind_some]
  refine Ev.bind (f := fun k bt => _) (and_ev' f1.1 hi1 hb1) ?_
  have q1 := f1.2
  have q2 := f2.2
  refine Ev.bind (f := fun k bt => _) (or_ev (l := andL (andL l i a) (turn i) b) g2 f2.1 (by omega) x1' x2) ?_
  exact Ev.now _
theorem xor_ev {ins : Int} {l : List A2} {a b : Int} (h : GoodA ins l) (hf : Few ins l) (hn : l.length + 20 < 900000) (ha : Lit_ ins l a) (hb : Lit_ ins l b) : Ev (fun k => proofmarkref13_Xor.f k ins l a b) (ins, xorL ins l a b, xorX ins l a b) := by
  have h2 := hb.bd hf
  unfold proofmarkref13_Xor.f
  simp only [turn_f h2.1 h2.2, Option.bind_some]
  refine Ev.bind (f := fun k bt => _) (mux_ev h hf hn ha hb.turn hb) ?_
  exact Ev.now _
theorem literal_f {ins : Int} {l : List A2} {n : Int} (hf : Few ins l) (h0 : 0 ≤ n) (h1 : n ≤ 65535) : proofmarklaw13_literal.f ins l n = some (n % (2 * (ins + l.length + 1))) ∧ Lit_ ins l (n % (2 * (ins + l.length + 1))) := by
  have a1 := hf.1
  have a2 := hf.2.1
  have a3 := hf.2.2
  have hm : 0 < 2 * (ins + (l.length : Int) + 1) := by omega
  constructor
  · unfold proofmarklaw13_literal.f
    rw [w64 (n := ins + (l.length : Int)) (by omega) (by omega), w64 (n := ins + (l.length : Int) + 1) (by omega) (by omega), w64 (n := 2 * (ins + (l.length : Int) + 1)) (by omega) (by omega), w64 (n := n) (by omega) (by omega), if_neg (by omega), tmodn h0]
  · exact ⟨Int.emod_nonneg _ (by omega), by have := Int.emod_lt_of_pos n hm; omega⟩
def OpOk (x : S28) : Prop := (0 ≤ x.f0 ∧ x.f0 ≤ 255) ∧ (0 ≤ x.f1 ∧ x.f1 ≤ 65535) ∧ (0 ≤ x.f2 ∧ x.f2 ≤ 65535) ∧ (0 ≤ x.f3 ∧ x.f3 ≤ 65535)
theorem made_loop (ops : List S28) (hops : ∀ x ∈ ops, OpOk x) (hlen : ops.length ≤ 120) (ins : Int) : ∀ (d i : Nat) (l : List A2) (lits : List Int), ops.length - i = d → i ≤ ops.length → GoodA ins l → l.length ≤ 3 * i → lits.length = i →
    ∃ l' lits', Ev (fun k => proofmarklaw13_Made.l0 k ops lits (i : Int) ins l) (ins, l', lits') ∧ GoodA ins l' ∧ l'.length ≤ 3 * ops.length := by
  intro d
  induction d with
  | zero =>
    intro i l lits hd hi hg hl hlit
    refine ⟨l, lits, Ev.step (fun k => by simp only [proofmarklaw13_Made.l0]; rw [if_neg (by omega)]) (Ev.now _), hg, by omega⟩
  | succ d ih =>
    intro i l lits hd hi hg hl hlit
    have hlt : i < ops.length := by omega
    have hx : rd_T28 ops (i : Int) = ops[i] := by
      unfold rd_T28
      rw [Int.toNat_natCast, List.getD_eq_getElem?_getD, List.getElem?_eq_getElem hlt]
      rfl
    have hxo := hops _ (List.getElem_mem hlt)
    generalize ops[i] = x at hx hxo
    obtain ⟨h0, h1, h2, h3⟩ := hxo
    have hf : Few ins l := ⟨hg.ins0, by have := hg.ins1; omega, by omega⟩
    obtain ⟨e1, l1⟩ := literal_f hf h1.1 h1.2
    obtain ⟨e2, l2⟩ := literal_f hf h2.1 h2.2
    obtain ⟨e3, l3⟩ := literal_f hf h3.1 h3.2
    have next : ∀ (l' : List A2) (y : Int), GoodA ins l' → l'.length ≤ l.length + 3 → ∃ l2 lits', Ev (fun k => if lits.length < 17592186044416 then proofmarklaw13_Made.l0 k ops (lits ++ [y]) (wrap64 ((i : Int) + 1)) ins l' else none) (ins, l2, lits') ∧ GoodA ins l2 ∧ l2.length ≤ 3 * ops.length := by
      intro l' y hg' hl'
      obtain ⟨l2, lits', hev, hg2, hl2⟩ := ih (i + 1) l' (lits ++ [y]) (by omega) (by omega) hg' (by omega) (by simp [hlit])
      exact ⟨l2, lits', Ev.ite_pos (by omega) (by rw [succ64 (by omega)]; exact hev), hg2, hl2⟩
    have body : ∃ l2 lits', Ev (fun k => if Int.tmod x.f0 4 = 0 then ((proofmarkref13_And.f k ins l (x.f1 % (2 * (ins + l.length + 1))) (x.f2 % (2 * (ins + l.length + 1)))).bind fun bt => if lits.length < 17592186044416 then proofmarklaw13_Made.l0 k ops (lits ++ [bt.2.2]) (wrap64 ((i : Int) + 1)) bt.1 bt.2.1 else none)
        else if Int.tmod x.f0 4 = 1 then ((proofmarkref13_Or.f k ins l (x.f1 % (2 * (ins + l.length + 1))) (x.f2 % (2 * (ins + l.length + 1)))).bind fun bt => if lits.length < 17592186044416 then proofmarklaw13_Made.l0 k ops (lits ++ [bt.2.2]) (wrap64 ((i : Int) + 1)) bt.1 bt.2.1 else none)
        else if Int.tmod x.f0 4 = 2 then ((proofmarkref13_Xor.f k ins l (x.f1 % (2 * (ins + l.length + 1))) (x.f2 % (2 * (ins + l.length + 1)))).bind fun bt => if lits.length < 17592186044416 then proofmarklaw13_Made.l0 k ops (lits ++ [bt.2.2]) (wrap64 ((i : Int) + 1)) bt.1 bt.2.1 else none)
        else if Int.tmod x.f0 4 = 3 then ((proofmarkref13_Mux.f k ins l (x.f1 % (2 * (ins + l.length + 1))) (x.f2 % (2 * (ins + l.length + 1))) (x.f3 % (2 * (ins + l.length + 1)))).bind fun bt => if lits.length < 17592186044416 then proofmarklaw13_Made.l0 k ops (lits ++ [bt.2.2]) (wrap64 ((i : Int) + 1)) bt.1 bt.2.1 else none)
        else if lits.length < 17592186044416 then proofmarklaw13_Made.l0 k ops (lits ++ [0]) (wrap64 ((i : Int) + 1)) ins l else none) (ins, l2, lits') ∧ GoodA ins l2 ∧ l2.length ≤ 3 * ops.length := by
      by_cases c0 : Int.tmod x.f0 4 = 0
      · simp only [if_pos c0]
        obtain ⟨g, ⟨t, e, n⟩, _⟩ := and_good hg l1 l2
        obtain ⟨l2', lits', hev, r⟩ := next _ (andX ins l (x.f1 % (2 * (ins + l.length + 1))) (x.f2 % (2 * (ins + l.length + 1)))) g (by rw [e]; simp; omega)
        exact ⟨l2', lits', Ev.bind (f := fun k bt => _) (and_ev' hf l1 l2) hev, r⟩
      simp only [if_neg c0]
      by_cases c1 : Int.tmod x.f0 4 = 1
      · simp only [if_pos c1]
        obtain ⟨g, ⟨t, e, n⟩, _⟩ := or_good hg l1 l2
        obtain ⟨l2', lits', hev, r⟩ := next _ (orX ins l (x.f1 % (2 * (ins + l.length + 1))) (x.f2 % (2 * (ins + l.length + 1)))) g (by rw [e]; simp; omega)
        exact ⟨l2', lits', Ev.bind (f := fun k bt => _) (or_ev hg hf (by omega) l1 l2) hev, r⟩
      simp only [if_neg c1]
      by_cases c2 : Int.tmod x.f0 4 = 2
      · simp only [if_pos c2]
        obtain ⟨g, ⟨t, e, n⟩, _⟩ := xor_good hg l1 l2
        obtain ⟨l2', lits', hev, r⟩ := next _ (xorX ins l (x.f1 % (2 * (ins + l.length + 1))) (x.f2 % (2 * (ins + l.length + 1)))) g (by rw [e]; simp; omega)
        exact ⟨l2', lits', Ev.bind (f := fun k bt => _) (xor_ev hg hf (by omega) l1 l2) hev, r⟩
      simp only [if_neg c2]
      by_cases c3 : Int.tmod x.f0 4 = 3
      · simp only [if_pos c3]
        obtain ⟨g, ⟨t, e, n⟩, _⟩ := mux_good hg l1 l2 l3
        obtain ⟨l2', lits', hev, r⟩ := next _ (muxX ins l (x.f1 % (2 * (ins + l.length + 1))) (x.f2 % (2 * (ins + l.length + 1))) (x.f3 % (2 * (ins + l.length + 1)))) g (by rw [e]; simp; omega)
        exact ⟨l2', lits', Ev.bind (f := fun k bt => _) (mux_ev hg hf (by omega) l1 l2 l3) hev, r⟩
      simp only [if_neg c3]
      exact next l 0 hg (by omega)
    obtain ⟨l2', lits', hev, r⟩ := body
    refine ⟨l2', lits', Ev.step (fun k => ?_) hev, r⟩
    simp only [proofmarklaw13_Made.l0]
    rw [if_pos (by omega), if_pos (by omega), hx, e1, e2, e3]
    simp only [Option.bind_some]
theorem made_ev (x0 : Int) (ops : List S28) (h0 : 0 ≤ x0) (h1 : x0 ≤ 255) (hops : ∀ x ∈ ops, OpOk x) (hlen : ops.length ≤ 120) :
    ∃ ins l lits, Ev (fun k => proofmarklaw13_Made.f k x0 ops) (ins, l, lits) ∧ GoodA ins l ∧ l.length ≤ 360 := by
  have hm : 0 ≤ x0 % 9 ∧ x0 % 9 ≤ 8 := by omega
  obtain ⟨l, lits, hev, hg, hl⟩ := made_loop ops hops hlen (x0 % 9) ops.length 0 [] [] (by omega) (by omega) ⟨hm.1, hm.2, fun i x h => by simp at h, fun i j x h => by simp at h⟩ (by simp) rfl
  refine ⟨x0 % 9, l, lits, ?_, hg, by omega⟩
  unfold proofmarklaw13_Made.f proofmarkref13_New.f
  simp only [Option.bind_some]
  rw [w64 (n := x0) (by omega) (by omega), tmodn h0]
  exact hev
theorem great_f (ops : List S28) : proofmarklaw13_Great.f ops = some (decide ((ops.length : Int) > 120)) := rfl
end Go.Proofs.Ytlnjefcfbncegaa.PAig
namespace Go.Proofs.Ytlnjefcfbncegaa.PVal
open Go.RowKit Go.Proofs.YtlnjefcfbncegaaW.PrintWords Go.Proofs.YtlnjefcfbncegaaW.PrintMore Go.Proofs.Ytlnjefcfbncegaa.PBits Go.Proofs.Ytlnjefcfbncegaa.PAig Go.Proofs.Ytlnjefcfbncegaa.Xb
def lv (v : List Bool) (a : Int) : Bool := (v.getD (a / 2).toNat false) != (a % 2 == 1)
theorem lit_f {v : List Bool} {a : Int} (h0 : 0 ≤ a) (h1 : a < 2 * v.length) (h2 : v.length < 1000000000) : aig_Lit.f v a = some (lv v a) := by
  have z0 : 0 ≤ a / 2 := by omega
  have z1 : a / 2 < (v.length : Int) := by omega
  unfold aig_Lit.f lv
  rw [if_pos z0, if_pos z1, and_one a h0 (by omega)]
  rfl
structure Val (ins : Int) (l : List A2) (w : List Bool) (n : Nat) : Prop where
  len : (w.length : Int) = 1 + ins + n
  zero : w.getD 0 false = false
  ands : ∀ (i : Nat) (x : A2), i < n → l[i]? = some x → w.getD (1 + ins + i).toNat false = (lv w x.f0 && lv w x.f1)
end Go.Proofs.Ytlnjefcfbncegaa.PVal
namespace Go.Proofs.Ytlnjefcfbncegaa.PAig13
open Go.RowKit Go.Proofs.YtlnjefcfbncegaaW.PrintWords Go.Proofs.YtlnjefcfbncegaaW.PrintMore Go.Proofs.Ytlnjefcfbncegaa.PBits Go.Proofs.Ytlnjefcfbncegaa.PAig Go.Proofs.Ytlnjefcfbncegaa.PVal Go.Proofs.Ytlnjefcfbncegaa.Xb
theorem mn_lo (a b : Int) : mn a b = lo a b := by
  unfold mn lo
  first
    | rfl
    | (split <;> split <;> omega)
theorem mx_hi (a b : Int) : mx a b = hi a b := by
  unfold mx hi
  first
    | rfl
    | (split <;> split <;> omega)
theorem index_ev (a b : Int) (l : List A2) (hl : l.length < 1000000) : ∀ (d i : Nat), l.length - i = d → i ≤ l.length →
    Ev (fun k => slices_Index_2_int_2_int.l0 k l (l.length : Int) (i : Int) a b) (idx a b (l.drop i) i) := by
  intro d
  induction d with
  | zero =>
    intro i hd hi
    have z : ¬ ((i : Int) < (l.length : Int)) := by omega
    refine Ev.step (fun k => by simp only [slices_Index_2_int_2_int.l0]; rw [if_neg z]) ?_
    rw [List.drop_eq_nil_of_le (by omega)]
    exact Ev.now _
  | succ d ih =>
    intro i hd hi
    have hlt : i < l.length := by omega
    have z : (i : Int) < (l.length : Int) := by omega
    have z0 : (0 : Int) ≤ (i : Int) := by omega
    have hx : rd_T50 l (i : Int) = l[i] := by
      unfold rd_T50
      rw [Int.toNat_natCast, List.getD_eq_getElem?_getD, List.getElem?_eq_getElem hlt]
      rfl
    have hs := succ64 (i := i) (by omega)
    have hn := ih (i + 1) (by omega) (by omega)
    rw [List.drop_eq_getElem_cons hlt]
    unfold idx
    have e1 : (a == l[i].f0) = (l[i].f0 == a) := by rw [Bool.eq_iff_iff, beq_iff_eq, beq_iff_eq]; exact eq_comm
    have e2 : (b == l[i].f1) = (l[i].f1 == b) := by rw [Bool.eq_iff_iff, beq_iff_eq, beq_iff_eq]; exact eq_comm
    refine Ev.step (fun k => by simp only [slices_Index_2_int_2_int.l0]; rw [if_pos z, if_pos z0, if_pos z, hx, hs, e1, e2]) ?_
    by_cases h : l[i].f0 = a ∧ l[i].f1 = b
    · rw [if_pos h]
      exact Ev.ite_pos (by rw [h.1, h.2, beq_self_eq_true, beq_self_eq_true]; rfl) (Ev.now _)
    · rw [if_neg h]
      exact Ev.ite_neg (fun e => h (by rwa [Bool.and_eq_true, beq_iff_eq, beq_iff_eq] at e)) hn
theorem plain_f {x y : Int} (h0 : 0 ≤ x) (h1 : x < 4611686018427387904) (hle : x ≤ y) : aig_plain.f x y =
    some (if x = 0 ∨ (x / 2 = y / 2 ∧ x ≠ y) then (0, true) else if x = 1 ∨ x = y then (y, true) else (0, false)) := by
  unfold aig_plain.f
  rw [xor_one x h0 (by omega)]
  by_cases c0 : x = 0
  · rw [if_pos c0, if_pos (Or.inl c0)]
  rw [if_neg c0]
  by_cases c1 : turn x = y
  · have : x / 2 = y / 2 ∧ x ≠ y := by subst c1; exact ⟨(turn_div x).symm, (turn_ne x).symm⟩
    rw [if_pos c1, if_pos (Or.inr this)]
  have : ¬ (x = 0 ∨ (x / 2 = y / 2 ∧ x ≠ y)) := by
    rintro (h | ⟨h, h'⟩)
    · exact c0 h
    · refine c1 ?_
      unfold turn
      split <;> omega
  rw [if_neg c1, if_neg this]
  by_cases c2 : x = 1
  · rw [if_pos c2, if_pos (Or.inl c2)]
  rw [if_neg c2]
  by_cases c3 : x = y
  · rw [if_pos c3, if_pos (Or.inr c3)]
  · rw [if_neg c3, if_neg (fun h => h.elim c2 c3)]
theorem aand_ev {ins : Int} {l : List A2} {a b : Int} (hf : Few ins l) (ha : Lit_ ins l a) (hb : Lit_ ins l b) : Ev (fun k => aig_And.f k ins l a b) (ins, andL l a b, andX ins l a b) := by
  have hlo := (lo_lit ha hb).bd hf
  have hhi := (hi_lit ha hb).bd hf
  have hle := lo_le_hi a b
  have f1 := hf.1
  have f2 := hf.2.1
  have f3 := hf.2.2
  unfold aig_And.f aig_of.f
  simp only [Option.bind_some]
  rw [mn_lo, mx_hi]
  unfold andL andX
  generalize lo a b = x at hlo hle ⊢
  generalize hi a b = y at hhi hle ⊢
  rw [plain_f hlo.1 (by omega) hle]
  simp only [Option.bind_some]
  by_cases c1 : x = 0 ∨ (x / 2 = y / 2 ∧ x ≠ y)
  · simp only [if_pos c1]
    exact Ev.now _
  simp only [if_neg c1]
  by_cases c2 : x = 1 ∨ x = y
  · simp only [if_pos c2]
    exact Ev.now _
  simp only [if_neg c2]
  refine Ev.ite_neg (by decide) ?_
  have hx := index_ev x y l (by omega) l.length 0 (by omega) (by omega)
  rw [List.drop_zero, show ((0 : Nat) : Int) = (0 : Int) from rfl] at hx
  refine Ev.bind (f := fun k t => _) (show Ev (fun k => slices_Index_2_int_2_int.f k l x y) _ from hx) ?_
  have hs := idx_spec x y l 0 (by omega)
  by_cases hneg : idx x y l 0 < 0
  · simp only [if_pos hneg]
    have z1 : ([] : List A2).length + l.length < 8796093022208 := by rw [List.length_nil]; omega
    have e1 : slices_Clone_2_int_2_int.f l = some l := by unfold slices_Clone_2_int_2_int.f; rw [Option.bind_some, if_pos z1, List.nil_append]
    refine Ev.bindc (f := fun k t => _) e1 ?_
    refine Ev.bindc (f := fun k t => _) rfl ?_
    refine Ev.ite_pos (by simp; omega) (Ev.const ?_)
    rw [w64 (n := ins + 1) (by omega) (by omega), w64 (n := ins + 1 + (l.length : Int)) (by omega) (by omega), w64 (by omega) (by omega), Int.mul_comm]
  · simp only [if_neg hneg]
    have hb2 : idx x y l 0 < 1000000 := by
      rcases hs with ⟨h1, _⟩ | ⟨j, h1, h2⟩
      · omega
      · have := (List.getElem?_eq_some_iff.1 h2).1
        omega
    refine Ev.const ?_
    rw [w64 (n := ins + 1) (by omega) (by omega), w64 (n := ins + 1 + idx x y l 0) (by omega) (by omega), w64 (by omega) (by omega), Int.mul_comm]
theorem aor_ev {ins : Int} {l : List A2} {a b : Int} (h : GoodA ins l) (hf : Few ins l) (hn : l.length + 10 < 900000) (ha : Lit_ ins l a) (hb : Lit_ ins l b) : Ev (fun k => aig_Or.f k ins l a b) (ins, orL l a b, orX ins l a b) := by
  have h1 := ha.bd hf
  have h2 := hb.bd hf
  unfold aig_Or.f
  rw [xor_one a h1.1 (by omega), xor_one b h2.1 (by omega)]
  refine Ev.bind (f := fun k bt => _) (aand_ev hf ha.turn hb.turn) ?_
  have hx := (and_good h ha.turn hb.turn).2.2
  have h3 := hx.bd (few_and (n := 9) hf (by omega)).1
  refine Ev.const ?_
  rw [xor_one _ h3.1 (by omega)]
  rfl
theorem amux_ev {ins : Int} {l : List A2} {i a b : Int} (h : GoodA ins l) (hf : Few ins l) (hn : l.length + 20 < 900000) (hi : Lit_ ins l i) (ha : Lit_ ins l a) (hb : Lit_ ins l b) : Ev (fun k => aig_Mux.f k ins l i a b) (ins, muxL ins l i a b, muxX ins l i a b) := by
  obtain ⟨g1, ⟨t1, e1, n1⟩, x1⟩ := and_good h hi ha
  have f1 := few_and (n := 9) (a := i) (b := a) hf (by omega)
  have hi1 : Lit_ ins (andL l i a) (turn i) := by rw [e1]; exact hi.turn.app
  have hb1 : Lit_ ins (andL l i a) b := by rw [e1]; exact hb.app
  obtain ⟨g2, ⟨t2, e2, n2⟩, x2⟩ := and_good g1 hi1 hb1
  have f2 := few_and (n := 9) (a := turn i) (b := b) f1.1 (by omega)
  have x1' : Lit_ ins (andL (andL l i a) (turn i) b) (andX ins l i a) := by rw [e2]; exact x1.app
  have h1 := hi.bd hf
  unfold aig_Mux.f
  rw [xor_one i h1.1 (by omega)]
  refine Ev.bind (f := fun k bt => _) (aand_ev hf hi ha) ?_
  refine Ev.bind (f := fun k bt => _) (aand_ev f1.1 hi1 hb1) ?_
  have q1 := f1.2
  have q2 := f2.2
  refine Ev.bind (f := fun k bt => _) (aor_ev (l := andL (andL l i a) (turn i) b) g2 f2.1 (by omega) x1' x2) ?_
  exact Ev.now _
theorem axor_ev {ins : Int} {l : List A2} {a b : Int} (h : GoodA ins l) (hf : Few ins l) (hn : l.length + 20 < 900000) (ha : Lit_ ins l a) (hb : Lit_ ins l b) : Ev (fun k => aig_Xor.f k ins l a b) (ins, xorL ins l a b, xorX ins l a b) := by
  have h2 := hb.bd hf
  unfold aig_Xor.f
  rw [xor_one b h2.1 (by omega)]
  refine Ev.bind (f := fun k bt => _) (amux_ev h hf hn ha hb.turn hb) ?_
  exact Ev.now _
theorem wf64 {x : Int} (h0 : 0 ≤ x) (h1 : x < 1000000000) : (Lit.int .i64 x).wf = true := by
  have h1 : IntKind.i64.min = -9223372036854775808 := by decide
  have h2 : IntKind.i64.max = 9223372036854775807 := by decide
  simp [Lit.wf]
  omega
theorem right_ev {ins : Int} {l : List A2} (h : GoodA ins l) (hl : l.length ≤ 1000) : Ev (fun k => aig_Right.f k ins l) true := by
  have i0 := h.ins0
  have i1 := h.ins1
  have hfit : aig_Right.fits l = true := by
    unfold aig_Right.fits
    rw [Bool.and_eq_true, decide_eq_true_iff, List.all_eq_true]
    refine ⟨by omega, fun x hx => ?_⟩
    obtain ⟨i, hi, rfl⟩ := List.mem_iff_getElem.1 hx
    obtain ⟨a0, a1, a2, _⟩ := h.in_ i _ (List.getElem?_eq_getElem hi)
    rw [wf64 (by omega) (by omega), wf64 (by omega) (by omega)]
    rfl
  have loop : ∀ d (i : Nat) (u v : Int), l.length - i = d → i ≤ l.length → Ev (fun k => aig_Right.l0 k l (l.length : Int) (i : Int) ins l u v) true := by
    intro d
    induction d with
    | zero =>
      intro i u v hd hi
      have z : ¬ ((i : Int) < (l.length : Int)) := by omega
      exact Ev.step (fun k => by simp only [aig_Right.l0]; rw [if_neg z]) (Ev.now _)
    | succ d ih =>
      intro i u v hd hi
      have hlt : i < l.length := by omega
      have z : (i : Int) < (l.length : Int) := by omega
      have z0 : (0 : Int) ≤ (i : Int) := by omega
      have hg : l[i]? = some l[i] := List.getElem?_eq_getElem hlt
      have hx : rd_T50 l (i : Int) = l[i] := by
        unfold rd_T50
        rw [Int.toNat_natCast, List.getD_eq_getElem?_getD, hg]
        rfl
      obtain ⟨a0, a1, a2, a3⟩ := h.in_ i _ hg
      have hn := ih (i + 1) l[i].f0 l[i].f1 (by omega) (by omega)
      have hs := succ64 (i := i) (by omega)
      have hinn : aig_Right.inn l (i : Int) = false := by
        rw [← Bool.not_eq_true]
        intro e
        unfold aig_Right.inn at e
        obtain ⟨y, hy, he⟩ := List.any_eq_true.1 e
        rw [hx, Bool.and_eq_true, beq_iff_eq, beq_iff_eq, Int.toNat_natCast] at *
        obtain ⟨j, hj, rfl⟩ := List.mem_iff_getElem.1 hy
        rw [List.length_take] at hj
        have hj2 : j < l.length := by omega
        rw [List.getElem_take] at he
        have ee : l[j] = l[i] := by
          have := he.1
          have := he.2
          cases hu : l[j]
          cases hv : l[i]
          simp_all
        have := h.once j i l[i] (by rw [List.getElem?_eq_getElem hj2, ee]) hg
        omega
      have em : mn l[i].f0 l[i].f1 = l[i].f0 := by unfold mn; split <;> omega
      have ex : mx l[i].f0 l[i].f1 = l[i].f1 := by unfold mx; split <;> omega
      have ep := plain_f (x := l[i].f0) (y := l[i].f1) (by omega) (by omega) (by omega)
      rw [if_neg (by omega), if_neg (by omega)] at ep
      have ew : wrap64 (ins + (i : Int)) = ins + i := w64 (by omega) (by omega)
      have z1 : ¬ (l[i].f0 < 2) := by omega
      have z2 : ¬ (l[i].f1 / 2 > ins + (i : Int)) := by omega
      have z3 : ¬ ((!(l[i].f0 == l[i].f0) || !(l[i].f1 == l[i].f1)) = true) := by rw [beq_self_eq_true, beq_self_eq_true]; decide
      refine Ev.step (fun k => ?_) hn
      simp only [aig_Right.l0, aig_of.f]
      rw [if_pos z, if_pos z0, if_pos z, hx, em, ex, Option.bind_some, ep, Option.bind_some, if_neg (by decide), if_neg z3, if_neg z1, ew, if_neg z2, hinn, if_neg (by decide), hs]
  have z1 : ¬ ins < 0 := by omega
  have z2 : ¬ ins > 1048576 := by omega
  have ew : wrap64 (1048576 - ins) = 1048576 - ins := w64 (by omega) (by omega)
  have z3 : decide ((l.length : Int) > 1048576 - ins) = false := decide_eq_false (by omega)
  unfold aig_Right.f
  simp only [if_pos hfit, if_neg z1, if_neg z2, ew, z3]
  exact Ev.step (fun k => by simp only [aig_Right.j0]; rw [if_neg (by decide)]; rfl) (loop _ 0 0 0 rfl (by omega))
theorem bsame_ev (l : List Bool) (hl : l.length < 1000000) : Ev (fun k => proofmarkref08_Same.f k l l) true := by
  have loop : ∀ d (i : Nat), l.length - i = d → i ≤ l.length → Ev (fun k => proofmarkref08_Same.l0 k l l (i : Int)) true := by
    intro d
    induction d with
    | zero =>
      intro i hd hi
      have z : ¬ ((i : Int) < (l.length : Int)) := by omega
      exact Ev.step (fun k => by simp only [proofmarkref08_Same.l0]; rw [if_neg z]) (Ev.now _)
    | succ d ih =>
      intro i hd hi
      have z : (i : Int) < (l.length : Int) := by omega
      have z0 : (0 : Int) ≤ (i : Int) := by omega
      have hn := ih (i + 1) (by omega) (by omega)
      have hs := succ64 (i := i) (by omega)
      have z3 : ∀ x : Bool, ¬ ((x != x) = true) := by decide
      exact Ev.step (fun k => by simp only [proofmarkref08_Same.l0]; rw [if_pos z, if_pos z0, if_pos z, if_neg (z3 _), hs]) hn
  unfold proofmarkref08_Same.f
  simp only [if_true]
  exact loop _ 0 rfl (by omega)
end Go.Proofs.Ytlnjefcfbncegaa.PAig13
namespace Go.Proofs.Ytlnjefcfbncegaa.PAig13
open Go.RowKit Go.Proofs.YtlnjefcfbncegaaW.PrintWords Go.Proofs.YtlnjefcfbncegaaW.PrintMore Go.Proofs.Ytlnjefcfbncegaa.PBits Go.Proofs.Ytlnjefcfbncegaa.PAig Go.Proofs.Ytlnjefcfbncegaa.PVal Go.Proofs.Ytlnjefcfbncegaa.Xb
abbrev H13 : List A2 := [⟨2, 4⟩]
theorem good_nil : GoodA 2 [] := ⟨by omega, by omega, fun i x h => by simp at h, fun i j x h => by simp at h⟩
theorem good_one : GoodA 2 H13 := by
  have h := (and_good (a := 4) (b := 2) good_nil ⟨by omega, by simp⟩ ⟨by omega, by simp⟩).1
  exact h
theorem eval_head : Ev (fun k => aig_Eval.f k 2 H13 [true, true]) [false, true, true, true] := by
  have z : (2 : Int) = (([true, true] : List Bool).length : Int) ∧ ([true, true] : List Bool).length + H13.length < 1099511627776 := by decide
  unfold aig_Eval.f
  simp only [if_pos z]
  have e0 : aig_Lit.f [false, true, true] 2 = some true := by rw [lit_f (by omega) (by simp) (by simp)]; rfl
  have e1 : aig_Lit.f [false, true, true] 4 = some true := by rw [lit_f (by omega) (by simp) (by simp)]; rfl
  have s1 : wrap64 (0 + 1) = 1 := w64 (by omega) (by omega)
  have nxt : Ev (fun k => aig_Eval.l0 k [false, true, true, true] H13 1 1) [false, true, true, true] := Ev.step (fun k => by simp only [aig_Eval.l0]; rw [if_neg (by decide)]) (Ev.now _)
  refine Ev.step (fun k => ?_) nxt
  show aig_Eval.l0 (k + 1) [false, true, true] H13 1 0 = _
  simp only [aig_Eval.l0]
  rw [show (rd_T50 H13 0) = ⟨2, 4⟩ from rfl, e0, e1, if_pos (by decide), if_pos (by decide), if_pos (by decide)]
  simp only [Option.bind_some, if_true, s1]
  rw [if_pos (by decide)]
  rfl
theorem head13 : Ev (fun k => proofmarklaw13_head.f k) true := by
  have few0 : Few 2 ([] : List A2) := ⟨by omega, by omega, by simp⟩
  have few1 : Few 2 H13 := ⟨by omega, by omega, by simp⟩
  have L0 : ∀ x : Int, 0 ≤ x → x < 6 → Lit_ 2 ([] : List A2) x := fun x h0 h1 => ⟨h0, by simp; omega⟩
  have L1 : ∀ x : Int, 0 ≤ x → x < 6 → Lit_ 2 H13 x := fun x h0 h1 => ⟨h0, by simp; omega⟩
  have v1 : Ev (fun k => aig_And.f k 2 [] 4 2) (2, H13, 6) := aand_ev few0 (L0 4 (by omega) (by omega)) (L0 2 (by omega) (by omega))
  have v2 : Ev (fun k => aig_And.f k 2 H13 2 3) (2, H13, 0) := aand_ev few1 (L1 2 (by omega) (by omega)) (L1 3 (by omega) (by omega))
  have v3 : Ev (fun k => aig_And.f k 2 H13 2 4) (2, H13, 6) := aand_ev few1 (L1 2 (by omega) (by omega)) (L1 4 (by omega) (by omega))
  have v4 : Ev (fun k => aig_Xor.f k 2 H13 2 4) (2, xorL 2 H13 2 4, xorX 2 H13 2 4) := axor_ev good_one few1 (by simp) (L1 2 (by omega) (by omega)) (L1 4 (by omega) (by omega))
  have r0 := right_ev good_nil (by simp)
  have r1 := right_ev good_one (by simp)
  have r2 : Ev (fun k => aig_Right.f k (-1) []) false := by
    have hf : aig_Right.fits ([] : List A2) = true := rfl
    unfold aig_Right.f
    simp only [if_pos hf]
    refine Ev.ite_pos (by decide) ?_
    exact Ev.step (fun k => by simp only [aig_Right.j0]; rw [if_pos trivial]) (Ev.now _)
  have sm := bsame_ev [false, true, true, true] (by simp)
  have l7 : aig_Lit.f [false, true, true, true] 7 = some false := by rw [lit_f (by omega) (by simp) (by simp)]; rfl
  have l1 : aig_Lit.f [false, true, true, true] 1 = some true := by rw [lit_f (by omega) (by simp) (by simp)]; rfl
  unfold proofmarklaw13_head.f aig_New.f
  refine Ev.bindc (f := fun k t => _) rfl ?_
  refine Ev.bind (f := fun k t => _) v1 ?_
  refine Ev.bind (f := fun k t => _) v2 ?_
  refine Ev.bind (f := fun k t => _) v3 ?_
  refine Ev.bind (f := fun k t => _) v4 ?_
  refine Ev.bind (f := fun k t => _) eval_head ?_
  refine Ev.bind (f := fun k t => _) r0 ?_
  refine Ev.ite_pos rfl ?_
  refine Ev.bind (f := fun k t => _) r1 ?_
  refine Ev.ite_pos rfl ?_
  refine Ev.bind (f := fun k t => _) r2 ?_
  refine Ev.ite_neg (by decide) ?_
  refine Ev.ite_pos (by decide) ?_
  refine Ev.ite_pos (by decide) ?_
  refine Ev.ite_pos (by decide) ?_
  refine Ev.ite_pos rfl ?_
  refine Ev.ite_pos rfl ?_
  refine Ev.ite_pos rfl ?_
  refine Ev.ite_pos (by decide) ?_
  refine Ev.ite_pos (by decide) ?_
  refine Ev.bind (f := fun k t => _) sm ?_
  refine Ev.ite_pos rfl ?_
  refine Ev.bindc (f := fun k t => _) l7 ?_
  refine Ev.ite_neg (by decide) ?_
  refine Ev.bindc (f := fun k t => _) l1 ?_
  exact Ev.now _
end Go.Proofs.Ytlnjefcfbncegaa.PAig13
namespace Go.Proofs.Ytlnjefcfbncegaa.PSem13
open Go.RowKit Go.Proofs.YtlnjefcfbncegaaW.PrintWords Go.Proofs.YtlnjefcfbncegaaW.PrintMore Go.Proofs.Ytlnjefcfbncegaa.PBits Go.Proofs.Ytlnjefcfbncegaa.PAig Go.Proofs.Ytlnjefcfbncegaa.PVal Go.Proofs.Ytlnjefcfbncegaa.PAig13 Go.Proofs.Ytlnjefcfbncegaa.Xb
def Pre (l m : List A2) : Prop := ∃ t, m = l ++ t
theorem Pre.refl (l : List A2) : Pre l l := ⟨[], by simp⟩
theorem Pre.trans {l m n : List A2} (h : Pre l m) (k : Pre m n) : Pre l n := by
  obtain ⟨t, rfl⟩ := h
  obtain ⟨u, rfl⟩ := k
  exact ⟨t ++ u, by simp⟩
structure Mk (ins : Int) (l m : List A2) (x : Int) (n : Nat) : Prop where
  good : GoodA ins m
  pre : Pre l m
  len : m.length ≤ l.length + n
  lit : Lit_ ins m x
end Go.Proofs.Ytlnjefcfbncegaa.PSem13
