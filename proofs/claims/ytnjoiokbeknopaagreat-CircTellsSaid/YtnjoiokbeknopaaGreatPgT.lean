/- Circuits: right or not, and what the document makes of them. -/
import Derived.Test.YtnjoiokbeknopaaGreatPnE
import Derived.Test.YtnjoiokbeknopaaGreatPnM
namespace Go.Proofs.YtnjoiokbeknopaaGreat.Am
set_option linter.unusedVariables false
set_option linter.unusedSimpArgs false
def I64 (x : Int) : Prop := -9223372036854775808 ≤ x ∧ x ≤ 9223372036854775807
theorem met_iff {g : List Kii} {x : Kii} : ∀ j, Mii_b_get (met g j) x false = true ↔ ∃ i : Nat, i < j ∧ Kii_at g (i : Int) = x
  | 0 => by simp [met, Mii_b_get, mget]
  | j + 1 => by
    rw [met, get_put]
    split
    · rename_i h
      exact ⟨fun _ => ⟨j, by omega, h.symm⟩, fun _ => rfl⟩
    · rename_i h
      rw [met_iff j]
      constructor
      · rintro ⟨i, h1, h2⟩
        exact ⟨i, by omega, h2⟩
      · rintro ⟨i, h1, h2⟩
        by_cases c : i = j
        · subst c; exact absurd h2.symm h
        · exact ⟨i, by omega, h2⟩
/-- An and stands as it must. -/
def EntP (ins : Int) (g : List Kii) (j : Nat) : Prop := 2 ≤ (Kii_at g (j : Int)).1 ∧ (Kii_at g (j : Int)).1 < (Kii_at g (j : Int)).2 ∧ (Kii_at g (j : Int)).2 / 2 ≤ ins + j ∧ (Kii_at g (j : Int)).1 / 2 ≠ (Kii_at g (j : Int)).2 / 2 ∧ ∀ i : Nat, i < j → Kii_at g (i : Int) ≠ Kii_at g (j : Int)
def AigP (ins : Int) (g : List Kii) : Prop := 0 ≤ ins ∧ ins ≤ 1048576 ∧ ins + g.length ≤ 1048576 ∧ ∀ j : Nat, j < g.length → EntP ins g j
section
variable {n : Nat} {ins : Int} {g : List Kii}
theorem plain_ex {a b : Int} : ∃ v f, aig_plain n a b = some (v, f, ()) := by
  unfold aig_plain aig_rules aig_rules_3 aig_rules_1 aig_rules_4 aig_rules_5 aig_rules_2
  simp only [bindS, cond_dec]
  rw [ask_of (by omega), ask_of (by omega), bindS]
  simp only [cond_dec]
  by_cases h1 : a = 0
  · rw [if_pos h1]; exact ⟨_, _, rfl⟩
  rw [if_neg h1, ask_of (by omega), ask_of (by omega), ask_of (by omega), bindS]
  simp only [cond_dec]
  by_cases h2 : bits .xor .i64 a 1 = b
  · rw [if_pos h2]; exact ⟨_, _, rfl⟩
  rw [if_neg h2, ask_of (by omega), ask_of (by omega)]
  by_cases h3 : a = 1
  · rw [if_pos h3, bindS, ask_of (by omega)]; exact ⟨_, _, rfl⟩
  rw [if_neg h3, ask_of (by omega), ask_of (by omega), bindS]
  simp only [cond_dec]
  by_cases h4 : a = b
  · rw [if_pos h4, ask_of (by omega)]; exact ⟨_, _, rfl⟩
  rw [if_neg h4]; exact ⟨_, _, rfl⟩
theorem plain_same {a : Int} : ∃ v, aig_plain n a a = some (v, true, ()) := by
  unfold aig_plain aig_rules aig_rules_3 aig_rules_1 aig_rules_4 aig_rules_5 aig_rules_2
  simp only [bindS, cond_dec]
  rw [ask_of (by omega), ask_of (by omega), bindS]
  simp only [cond_dec]
  by_cases h1 : a = 0
  · rw [if_pos h1]; exact ⟨_, rfl⟩
  rw [if_neg h1, ask_of (by omega), ask_of (by omega), ask_of (by omega), bindS]
  simp only [cond_dec]
  by_cases h2 : bits .xor .i64 a 1 = a
  · rw [if_pos h2]; exact ⟨_, rfl⟩
  rw [if_neg h2, ask_of (by omega), ask_of (by omega)]
  by_cases h3 : a = 1
  · rw [if_pos h3, bindS, ask_of (by omega)]; exact ⟨_, rfl⟩
  rw [if_neg h3, ask_of (by omega), ask_of (by omega), bindS]
  simp only [cond_dec]
  rw [if_pos trivial, ask_of (by omega)]; exact ⟨_, rfl⟩
theorem plain_g {p q : Int} (hp : 0 ≤ p) (hp1 : p < 9223372036854775807) : aig_plain n p q = some (if p = 0 then 0 else if turn p = q then 0 else if p = 1 ∨ p = q then q else 0, if p = 0 then true else if turn p = q then true else if p = 1 ∨ p = q then true else false, ()) := by
  unfold aig_plain aig_rules aig_rules_1 aig_rules_2 aig_rules_3 aig_rules_4 aig_rules_5
  simp only [bindS, cond_dec, cond_if, ask_if, decide_eq_true_eq, xor_one p hp (by omega)]
  by_cases h0 : p = 0
  · simp [h0]
  · by_cases h1 : turn p = q
    · simp [h0, h1]
    · by_cases h2 : p = 1
      · simp [h0, h1, h2]
        subst h2
        simp [h1]
      · by_cases h3 : p = q
        · simp [h0, h1, h2, h3]
          subst h3
          simp [h0, h1, h2]
        · simp [h0, h1, h2, h3]
/-- A graph is right: the program's word. -/
theorem aig_iff (hi : I64 ins) (hg : g.length ≤ 1000) (hv : ∀ j : Nat, j < g.length → I64 (Kii_at g (j : Int)).1 ∧ I64 (Kii_at g (j : Int)).2) (hn : 30000 < n) : ∃ b : Bool, aig_Right n ins g = some (b, ()) ∧ (b = true ↔ AigP ins g) := by
  unfold I64 at hi hv
  unfold aig_Right
  simp only [cond_dec]
  by_cases h1 : ins < 0
  · exact ⟨false, by rw [if_pos h1], by simp; exact fun q => by have := q.1; omega⟩
  rw [if_neg h1]
  by_cases h2 : 1048576 < ins
  · exact ⟨false, by rw [if_pos h2], by simp; exact fun q => by have := q.2.1; omega⟩
  rw [if_neg h2, w64 (by omega) (by omega)]
  by_cases h3 : 1048576 - ins < (g.length : Int)
  · exact ⟨false, by rw [if_pos h3], by simp; exact fun q => by have := q.2.2.1; omega⟩
  rw [if_neg h3]
  have l := iter_all (F := aig_Right_l1b n ins g) (fun j => ((j : Int), met g j, ())) (EntP ins g) (fun _ => (false, ())) () (len := g.length) (m := n)
    (fun self j hj _ hk => by
      obtain ⟨a1, a2, a3, a4, a5⟩ := hk
      have hm : Mii_b_get (met g j) (Kii_at g (j : Int)) false = false := met_get (g := g) (x := Kii_at g (j : Int)) j a5
      have hvj := hv j hj
      rw [met]
      generalize met g j = M at *
      obtain ⟨a, b, hx⟩ : ∃ a b, Kii_at g (j : Int) = (a, b) := ⟨_, _, rfl⟩
      rw [hx] at a1 a2 a3 a4 hm hvj ⊢
      simp only at a1 a2 a3 a4 hvj
      have nt : turn a ≠ b := by unfold turn; split <;> omega
      unfold aig_Right_l1b
      simp only [cond_dec, hx]
      rw [if_pos (by omega), ask_of (by omega), ask_of (by omega), ask_of (by omega), of_f, bindS, show min a b = a by omega, show max a b = b by omega]
      simp only
      rw [plain_g (by omega) (by omega), bindS]
      simp only [if_neg (show ¬ a = 0 by omega), if_neg nt, if_neg (show ¬ (a = 1 ∨ a = b) by omega), cond_false]
      have sh : shrI .i64 b 1 = b / 2 := shr_p2 (by omega)
      simp only [beq_self_eq_true, Bool.and_self, Bool.not_true, cond_false, hm, sh]
      rw [ask_of (by omega), if_neg (by omega), ask_of (by omega), ask_of (by omega), w64 (n := ins + (j : Int)) (by omega) (by omega), if_neg (by omega), ask_of trivial, succ64 (by omega)])
    (fun self j hj _ hk => by
      have hvj := hv j hj
      have hm := met_iff (g := g) (x := Kii_at g (j : Int)) j
      have hk' : ¬ (2 ≤ (Kii_at g (j : Int)).1 ∧ (Kii_at g (j : Int)).1 < (Kii_at g (j : Int)).2 ∧ (Kii_at g (j : Int)).2 / 2 ≤ ins + j ∧ (Kii_at g (j : Int)).1 / 2 ≠ (Kii_at g (j : Int)).2 / 2 ∧ ¬ Mii_b_get (met g j) (Kii_at g (j : Int)) false = true) := fun q => hk ⟨q.1, q.2.1, q.2.2.1, q.2.2.2.1, fun i hi e => q.2.2.2.2 (hm.2 ⟨i, hi, e⟩)⟩
      clear hm hk
      generalize met g j = M at *
      obtain ⟨a, b, hx⟩ : ∃ a b, Kii_at g (j : Int) = (a, b) := ⟨_, _, rfl⟩
      rw [hx] at hk' hvj
      simp only at hk' hvj
      have sh : shrI .i64 b 1 = b / 2 := shr_p2 (by omega)
      unfold aig_Right_l1b
      simp only [cond_dec, hx]
      rw [if_pos (by omega), ask_of (by omega), ask_of (by omega), ask_of (by omega), of_f, bindS]
      simp only
      obtain ⟨v, f, e⟩ := plain_ex (n := n) (a := min a b) (b := max a b)
      by_cases hab : a ≤ b
      · rw [show min a b = a by omega, show max a b = b by omega] at e ⊢
        by_cases ha : a < 2
        · rw [e, bindS]
          cases f with
          | true => rfl
          | false =>
            simp only [cond_false, beq_self_eq_true, Bool.and_self, Bool.not_true]
            rw [ask_of (by omega), if_pos ha]
        · by_cases nb : a = b
          · subst nb
            obtain ⟨v2, e2⟩ := plain_same (n := n) (a := a)
            rw [e2, bindS]
            rfl
          rw [plain_g (by omega) (by omega), bindS]
          by_cases nt : turn a = b
          · simp only [if_neg (show ¬ a = 0 by omega), if_pos nt, cond_true]
          simp only [if_neg (show ¬ a = 0 by omega), if_neg nt, if_neg (show ¬ (a = 1 ∨ a = b) by omega), cond_false, beq_self_eq_true, Bool.and_self, Bool.not_true, sh]
          rw [ask_of (by omega), if_neg (by omega), ask_of (by omega), ask_of (by omega), w64 (n := ins + (j : Int)) (by omega) (by omega)]
          by_cases hc : ins + (j : Int) < b / 2
          · rw [if_pos hc]
          rw [if_neg hc, ask_of trivial]
          have hd : a / 2 ≠ b / 2 := by unfold turn at nt; split at nt <;> omega
          cases hm : Mii_b_get M (a, b) false with
          | true => rfl
          | false => exact absurd ⟨by omega, by omega, by omega, hd, by rw [hm]; simp⟩ hk'
      · rw [e, bindS]
        cases f with
        | true => rfl
        | false =>
          have : ((min a b == a) && (max a b == b)) = false := by
            rw [show min a b = b by omega]
            rw [beq_eq_false_iff_ne.2 (show b ≠ a by omega), Bool.false_and]
          simp only [cond_false, this, Bool.not_false, cond_true])
    (fun _ self => by
      unfold aig_Right_l1b
      simp only [cond_dec]
      rw [if_neg (by omega)]) (by omega)
  unfold aig_Right_l1
  rcases l with ⟨h, e⟩ | ⟨j, hj, -, hk, e⟩
  · rw [show iter (aig_Right_l1b n ins g) n (0, [], ()) = _ from e]
    exact ⟨true, rfl, by simp; exact ⟨by omega, by omega, by omega, h⟩⟩
  · rw [show iter (aig_Right_l1b n ins g) n (0, [], ()) = _ from e]
    exact ⟨false, rfl, by simp; exact fun q => hk (q.2.2.2 j hj)⟩
theorem find_ex {p q : Int} {j : Nat} (hj : j ≤ g.length) (hl : g.length ≤ 1000) (hn : 30000 < n) : ∃ x : Int, ref13_find n ins g p q (j : Int) = some (x, ()) ∧ (0 ≤ x ↔ ∃ i : Nat, i < j ∧ Kii_at g (i : Int) = (p, q)) := by
  have l := iter_all (F := ref13_find_l1b n g p q (j : Int)) (fun k => ((k : Int), ())) (fun k => Kii_at g (k : Int) ≠ (p, q)) (fun k => ((k : Int), ())) () (len := j) (m := n)
    (fun self k hk _ ok => by
      unfold ref13_find_l1b
      simp only [cond_dec]
      rw [if_pos (by omega), ask_of (by omega), ask_of (by omega), succ64 (by omega)]
      by_cases h1 : (Kii_at g (k : Int)).1 = p
      · rw [if_pos h1, ask_of (by omega), ask_of (by omega), if_neg fun h2 => ok (by rw [← h1, ← h2])]
      · rw [if_neg h1])
    (fun self k hk _ ok => by
      have h := Classical.not_not.1 ok
      unfold ref13_find_l1b
      simp only [cond_dec]
      rw [if_pos (by omega), ask_of (by omega), ask_of (by omega), if_pos (by rw [h]), ask_of (by omega), ask_of (by omega), if_pos (by rw [h])])
    (fun _ self => by
      unfold ref13_find_l1b
      simp only [cond_dec]
      rw [if_neg (by omega)]) (by omega)
  unfold ref13_find ref13_find_l1
  rcases l with ⟨h, e⟩ | ⟨k, hk, -, ok, e⟩
  · rw [show iter (ref13_find_l1b n g p q (j : Int)) n (0, ()) = _ from e]
    refine ⟨-1, rfl, ⟨fun q => by omega, ?_⟩⟩
    rintro ⟨i, hi, hx⟩
    exact absurd hx (h i hi)
  · rw [show iter (ref13_find_l1b n g p q (j : Int)) n (0, ()) = _ from e]
    exact ⟨(k : Int), rfl, ⟨fun _ => ⟨k, hk, Classical.not_not.1 ok⟩, fun _ => by omega⟩⟩
/-- The document's word. -/
theorem raig_iff (hi : I64 ins) (hg : g.length ≤ 1000) (hv : ∀ j : Nat, j < g.length → I64 (Kii_at g (j : Int)).1 ∧ I64 (Kii_at g (j : Int)).2) (hn : 30000 < n) : ∃ b : Bool, ref13_Right n ins g = some (b, ()) ∧ (b = true ↔ AigP ins g) := by
  unfold I64 at hi hv
  unfold ref13_Right
  simp only [cond_dec]
  by_cases h1 : ins < 0
  · exact ⟨false, by rw [if_pos h1], by simp; exact fun q => by have := q.1; omega⟩
  rw [if_neg h1]
  by_cases h2 : 1048576 < ins
  · exact ⟨false, by rw [if_pos h2], by simp; exact fun q => by have := q.2.1; omega⟩
  rw [if_neg h2, if_neg (by omega), w64 (by omega) (by omega)]
  by_cases h3 : 1048576 < ins + (g.length : Int)
  · exact ⟨false, by rw [if_pos h3], by simp; exact fun q => by have := q.2.2.1; omega⟩
  rw [if_neg h3]
  have l := iter_all (F := ref13_Right_l1b n ins g) (fun j => ((j : Int), ())) (EntP ins g) (fun _ => (false, ())) () (len := g.length) (m := n)
    (fun self j hj _ hk => by
      obtain ⟨a1, a2, a3, a4, a5⟩ := hk
      have hvj := hv j hj
      obtain ⟨x, e, hx⟩ := find_ex (n := n) (ins := ins) (g := g) (p := (Kii_at g (j : Int)).1) (q := (Kii_at g (j : Int)).2) (j := j) (by omega) hg hn
      have hx' : ¬ 0 ≤ x := fun q => by
        obtain ⟨i, hi, h⟩ := hx.1 q
        exact a5 i hi h
      unfold ref13_Right_l1b
      simp only [cond_dec]
      rw [if_pos (by omega), ask_of (by omega), ask_of (by omega), ask_of (by omega), ask_of (by omega), if_neg (by omega), if_neg (by omega), ask_of (by omega), tdiv2 (show 0 ≤ (Kii_at g (j : Int)).2 by omega), tdiv2 (show 0 ≤ (Kii_at g (j : Int)).1 by omega), w64 (n := ins + (j : Int)) (by omega) (by omega), w64 (n := (Kii_at g (j : Int)).2 / 2) (by omega) (by omega), w64 (n := (Kii_at g (j : Int)).1 / 2) (by omega) (by omega), if_neg (by omega), ask_of (by omega), ask_of (by omega), if_neg a4, e, bindS, if_neg hx', succ64 (by omega)])
    (fun self j hj _ hk => by
      have hvj := hv j hj
      obtain ⟨x, e, hx⟩ := find_ex (n := n) (ins := ins) (g := g) (p := (Kii_at g (j : Int)).1) (q := (Kii_at g (j : Int)).2) (j := j) (by omega) hg hn
      unfold ref13_Right_l1b
      simp only [cond_dec]
      rw [if_pos (by omega), ask_of (by omega), ask_of (by omega), ask_of (by omega), ask_of (by omega)]
      by_cases h1 : (Kii_at g (j : Int)).1 < 2
      · rw [if_pos h1]
      rw [if_neg h1]
      by_cases h2 : (Kii_at g (j : Int)).2 ≤ (Kii_at g (j : Int)).1
      · rw [if_pos h2]
      rw [if_neg h2, ask_of (by omega), tdiv2 (show 0 ≤ (Kii_at g (j : Int)).2 by omega), tdiv2 (show 0 ≤ (Kii_at g (j : Int)).1 by omega), w64 (n := ins + (j : Int)) (by omega) (by omega), w64 (n := (Kii_at g (j : Int)).2 / 2) (by omega) (by omega), w64 (n := (Kii_at g (j : Int)).1 / 2) (by omega) (by omega)]
      by_cases h3 : ins + (j : Int) < (Kii_at g (j : Int)).2 / 2
      · rw [if_pos h3]
      rw [if_neg h3, ask_of (by omega), ask_of (by omega)]
      by_cases h4 : (Kii_at g (j : Int)).1 / 2 = (Kii_at g (j : Int)).2 / 2
      · rw [if_pos h4]
      rw [if_neg h4, e, bindS]
      by_cases h5 : 0 ≤ x
      · rw [if_pos h5]
      exact absurd ⟨by omega, by omega, by omega, h4, fun i hi q => h5 (hx.2 ⟨i, hi, q⟩)⟩ hk)
    (fun _ self => by
      unfold ref13_Right_l1b
      simp only [cond_dec]
      rw [if_neg (by omega)]) (by omega)
  unfold ref13_Right_l1
  rcases l with ⟨h, e⟩ | ⟨j, hj, -, hk, e⟩
  · rw [show iter (ref13_Right_l1b n ins g) n (0, ()) = _ from e]
    exact ⟨true, rfl, by simp; exact ⟨by omega, by omega, by omega, h⟩⟩
  · rw [show iter (ref13_Right_l1b n ins g) n (0, ()) = _ from e]
    exact ⟨false, rfl, by simp; exact fun q => hk (q.2.2.2 j hj)⟩
end
def LitP (ins : Int) (g : List Kii) (x : Int) : Prop := 0 ≤ x ∧ x / 2 ≤ ins + g.length
instance {ins : Int} {g : List Kii} {x : Int} : Decidable (LitP ins g x) := inferInstanceAs (Decidable (_ ∧ _))
def InP (L : List Kiii) (j : Nat) : Prop := (Kiii_at L (j : Int)).1 = (j : Int) + 1 ∧ 0 ≤ (Kiii_at L (j : Int)).2.1 ∧ 0 ≤ (Kiii_at L (j : Int)).2.2 ∧ ∀ k : Nat, j = k + 1 → lex (Kiii_at L (k : Int)).2.1 (Kiii_at L (k : Int)).2.2 (Kiii_at L (j : Int)).2.1 (Kiii_at L (j : Int)).2.2
def LaP (ins : Int) (g : List Kii) (nI : Nat) (L : List Kiibii) (j : Nat) : Prop := (Kiibii_at L (j : Int)).1 = (nI : Int) + (j : Int) + 1 ∧ LitP ins g (Kiibii_at L (j : Int)).2.1 ∧ 0 ≤ (Kiibii_at L (j : Int)).2.2.2.1 ∧ 0 ≤ (Kiibii_at L (j : Int)).2.2.2.2 ∧ ∀ k : Nat, j = k + 1 → lex (Kiibii_at L (k : Int)).2.2.2.1 (Kiibii_at L (k : Int)).2.2.2.2 (Kiibii_at L (j : Int)).2.2.2.1 (Kiibii_at L (j : Int)).2.2.2.2
def OuP (ins : Int) (g : List Kii) (L : List Kiii) (j : Nat) : Prop := 8 ≤ (Kiii_at L (j : Int)).1 ∧ (Kiii_at L (j : Int)).1 ≤ 10 ∧ 0 ≤ (Kiii_at L (j : Int)).2.2 ∧ LitP ins g (Kiii_at L (j : Int)).2.1
def CirP (ins : Int) (g : List Kii) (iL : List Kiii) (lL : List Kiibii) (oL : List Kiii) : Prop := AigP ins g ∧ lL.length ≤ 256 ∧ (iL.length : Int) + lL.length = ins ∧ (∀ j : Nat, j < iL.length → InP iL j) ∧ (∀ j : Nat, j < lL.length → LaP ins g iL.length lL j) ∧ ∀ j : Nat, j < oL.length → OuP ins g oL j
def prI (iL : List Kiii) : Nat → Int × Int × Unit
  | 0 => (-1, 0, ())
  | k + 1 => ((Kiii_at iL (k : Int)).2.1, (Kiii_at iL (k : Int)).2.2, ())
def prL (lL : List Kiibii) : Nat → Int × Int × Unit
  | 0 => (-1, 0, ())
  | k + 1 => ((Kiibii_at lL (k : Int)).2.2.2.1, (Kiibii_at lL (k : Int)).2.2.2.2, ())
section
variable {n : Nat} {ins : Int} {G : List Kii} {iL oL : List Kiii} {lL : List Kiibii}
theorem there_ex (a b : Int) : circ_place_there n a b = some (decide (0 ≤ a ∧ 0 ≤ b), ()) := by
  unfold circ_place_there
  simp only [cond_dec]
  by_cases h : 0 ≤ a
  · rw [if_pos h]; simp [h]
  · rw [if_neg h, decide_eq_false (fun q => h q.1)]
theorem behind_ex (a b c d : Int) : circ_place_behind n a b c d = some (decide (c < a ∨ c = a ∧ d < b), ()) := by
  unfold circ_place_behind
  simp only [cond_dec]
  by_cases h : c < a
  · rw [if_pos h, decide_eq_true (.inl h)]
  · rw [if_neg h]
    by_cases h2 : a = c
    · rw [if_pos h2]
      congr 2
      simp only [decide_eq_decide]
      exact ⟨fun q => .inr ⟨h2.symm, q⟩, fun q => (q.resolve_left h).2⟩
    · rw [if_neg h2, decide_eq_false (fun q => h2 (q.resolve_left h).1.symm)]
theorem rises_ex (a b c d : Int) : ref15_rises n a b c d = some (decide (a < c ∨ a = c ∧ b < d), ()) := by
  unfold ref15_rises
  simp only [cond_dec]
  by_cases h : a < c
  · rw [if_pos h, decide_eq_true (.inl h)]
  · rw [if_neg h]
    by_cases h2 : a = c
    · rw [if_pos h2]
      congr 2
      simp only [decide_eq_decide]
      exact ⟨fun q => .inr ⟨h2, q⟩, fun q => (q.resolve_left h).2⟩
    · rw [if_neg h2, decide_eq_false (fun q => h2 (q.resolve_left h).1)]
theorem odd_ex {x : Int} {l : List Kiibii} {i o : List Kiii} (ha : AigP ins G) : circ_Right_1 n x [(ins, G, i, l, o)] 0 = some (decide (¬ LitP ins G x), ()) := by
  obtain ⟨h0, h1, h2, -⟩ := ha
  unfold circ_Right_1
  simp only [cond_dec]
  by_cases c : x < 0
  · rw [if_pos c, decide_eq_true (show ¬ LitP ins G x from fun q => by have := q.1; omega)]
  · have sh : shrI .i64 x 1 = x / 2 := shr_p2 (by omega)
    rw [if_neg c, ask_of (by omega), sh, show (KiLPiiELPiiiELPiibiiELPiiiE_at [(ins, G, i, l, o)] 0) = (ins, G, i, l, o) from rfl]
    simp only
    rw [w64 (by omega) (by omega)]
    congr 2
    simp only [decide_eq_decide]
    unfold LitP
    omega
theorem lit_ex {x : Int} (ha : AigP ins G) (hx : I64 x) : ref15_literal n ins G x = some (decide (LitP ins G x), ()) := by
  obtain ⟨h0, h1, h2, -⟩ := ha
  unfold I64 at hx
  unfold ref15_literal
  simp only [cond_dec]
  by_cases c : 0 ≤ x
  · rw [if_pos c, ask_of (by omega), tdiv2 c, w64 (n := x / 2) (by omega) (by omega), w64 (by omega) (by omega)]
    congr 2
    simp only [decide_eq_decide]
    unfold LitP
    omega
  · rw [if_neg c, decide_eq_false (show ¬ LitP ins G x from fun q => c q.1)]
/-- Whether a loop that looks says so. -/
theorem scan {σ : Type} {γ : Type} {F : (σ → Option ((Bool × Unit) ⊕ γ)) → σ → Option ((Bool × Unit) ⊕ γ)} (st : Nat → σ) (ok : Nat → Prop) (yes : γ) {len : Nat}
    (h1 : ∀ self j, j < len → ok j → F self (st j) = self (st (j + 1))) (h2 : ∀ self j, j < len → ¬ ok j → F self (st j) = some (.inl (false, ()))) (h3 : ∀ self, F self (st len) = some (.inr yes)) {m : Nat} (hm : len < m) :
    ((∀ i, i < len → ok i) ∧ iter F m (st 0) = some (.inr yes)) ∨ (¬ (∀ i, i < len → ok i) ∧ iter F m (st 0) = some (.inl (false, ()))) := by
  rcases iter_all (F := F) st ok (fun _ => (false, ())) yes (fun self j hj _ hk => h1 self j hj hk) (fun self j hj _ hk => h2 self j hj hk) (fun _ self => h3 self) hm with ⟨h, e⟩ | ⟨j, hj, -, hk, e⟩
  · exact .inl ⟨h, e⟩
  · exact .inr ⟨fun q => hk (q j hj), e⟩
theorem tails {A : Prop} {X1 X2 X3 : Prop} {γ1 γ2 γ3 : Type} {l1 : Option ((Bool × Unit) ⊕ γ1)} {l2 : Option ((Bool × Unit) ⊕ γ2)} {l3 : Option ((Bool × Unit) ⊕ γ3)} {y1 : γ1} {y2 : γ2} {y3 : γ3} (e1 : X1 ∧ l1 = some (.inr y1) ∨ ¬ X1 ∧ l1 = some (.inl (false, ()))) (e2 : X2 ∧ l2 = some (.inr y2) ∨ ¬ X2 ∧ l2 = some (.inl (false, ()))) (e3 : X3 ∧ l3 = some (.inr y3) ∨ ¬ X3 ∧ l3 = some (.inl (false, ()))) (a : A) : ∃ b : Bool, (l1.bind (Sum.elim (fun d12 => some (d12.1, ())) (fun d13 => l2.bind (Sum.elim (fun d20 => some (d20.1, ())) (fun d21 => l3.bind (Sum.elim (fun d25 => some (d25.1, ())) (fun d26 => some (true, ())))))))) = some (b, ()) ∧ (b = true ↔ A ∧ X1 ∧ X2 ∧ X3) := by
  rcases e1 with ⟨h1, e1⟩ | ⟨h1, e1⟩
  · rcases e2 with ⟨h2, e2⟩ | ⟨h2, e2⟩
    · rcases e3 with ⟨h3, e3⟩ | ⟨h3, e3⟩
      · exact ⟨true, by rw [e1, e2, e3]; rfl, by simp [a, h1, h2, h3]⟩
      · exact ⟨false, by rw [e1, e2, e3]; rfl, by simp [h3]⟩
    · exact ⟨false, by rw [e1, e2]; rfl, by simp [h2]⟩
  · exact ⟨false, by rw [e1]; rfl, by simp [h1]⟩
/-- Raw circuits of numbers. -/
structure RawC (ins : Int) (G : List Kii) (iL : List Kiii) (lL : List Kiibii) (oL : List Kiii) : Prop where
  i : I64 ins
  g : G.length ≤ 200
  gl : ∀ j : Nat, j < G.length → I64 (Kii_at G (j : Int)).1 ∧ I64 (Kii_at G (j : Int)).2
  il : iL.length ≤ 100
  ll : lL.length ≤ 300
  ol : oL.length ≤ 100
  lx : ∀ j : Nat, j < lL.length → I64 (Kiibii_at lL (j : Int)).2.1
  ox : ∀ j : Nat, j < oL.length → I64 (Kiii_at oL (j : Int)).2.1
theorem circ_iff (h : RawC ins G iL lL oL) (hn : 30000 < n) : ∃ b : Bool, circ_Right n ins G iL lL oL = some (b, ()) ∧ (b = true ↔ CirP ins G iL lL oL) := by
  have hg := h.g
  have hil := h.il
  have hll := h.ll
  have hol := h.ol
  obtain ⟨b0, e0, hb0⟩ := aig_iff (n := n) h.i (by omega) h.gl hn
  unfold circ_Right
  rw [e0, bindS]
  cases b0 with
  | false => exact ⟨false, rfl, by simp; exact fun q => by simpa using hb0.2 q.1⟩
  | true =>
  have ha := hb0.1 rfl
  obtain ⟨a0, a1, a2, a3⟩ := id ha
  simp only [Bool.not_true, cond_false, cond_dec]
  by_cases h2 : (256 : Int) < (lL.length : Int)
  · exact ⟨false, by rw [if_pos h2], by simp; exact fun q => by have := q.2.1; omega⟩
  rw [if_neg h2, w64 (by omega) (by omega)]
  by_cases h3 : (iL.length : Int) + (lL.length : Int) ≠ ins
  · exact ⟨false, by rw [if_pos h3], by simp; exact fun q => h3 q.2.2.1⟩
  rw [if_neg h3]
  have l1 := scan (F := circ_Right_l1b n iL) (fun j => ((j : Int), prI iL j)) (InP iL) (prI iL iL.length) (len := iL.length) (m := n)
    (fun self j hj hk => by
      obtain ⟨q1, q2, q3, q4⟩ := hk
      unfold circ_Right_l1b
      simp only [cond_dec]
      rw [if_pos (by omega), ask_of (by omega), ask_of (by omega), ask_of (by omega), ask_of (by omega), succ64 (by omega), if_neg (by omega), there_ex, bindS, decide_eq_true ⟨q2, q3⟩]
      simp only [Bool.not_true, cond_false]
      cases j with
      | zero =>
        simp only [prI]
        rw [behind_ex, decide_eq_true (.inl (by omega)), bindS]
        rfl
      | succ k =>
        have hp := q4 k rfl
        unfold lex at hp
        simp only [prI]
        rw [behind_ex, decide_eq_true hp, bindS]
        rfl)
    (fun self j hj hk => by
      unfold circ_Right_l1b
      simp only [cond_dec]
      rw [if_pos (by omega), ask_of (by omega), ask_of (by omega), ask_of (by omega), ask_of (by omega), succ64 (by omega)]
      by_cases c1 : (Kiii_at iL (j : Int)).1 ≠ ((j + 1 : Nat) : Int)
      · rw [if_pos c1]
      rw [if_neg c1, there_ex, bindS]
      by_cases c2 : 0 ≤ (Kiii_at iL (j : Int)).2.1 ∧ 0 ≤ (Kiii_at iL (j : Int)).2.2
      · rw [decide_eq_true c2]
        simp only [Bool.not_true, cond_false]
        rw [behind_ex, bindS]
        have hno : ¬ ((prI iL j).1 < (Kiii_at iL (j : Int)).2.1 ∨ (prI iL j).1 = (Kiii_at iL (j : Int)).2.1 ∧ (prI iL j).2.1 < (Kiii_at iL (j : Int)).2.2) := fun q => hk ⟨by omega, c2.1, c2.2, fun k e => by subst e; exact q⟩
        rw [decide_eq_false hno]
        rfl
      · rw [decide_eq_false c2]
        rfl)
    (fun self => by
      unfold circ_Right_l1b
      simp only [cond_dec]
      rw [if_neg (by omega)]) (by omega)
  have l2 := scan (F := circ_Right_l2b n ins G iL lL oL) (fun j => ((j : Int), prL lL j)) (LaP ins G iL.length lL) () (len := lL.length) (m := n)
    (fun self j hj hk => by
      obtain ⟨q1, q0, q2, q3, q4⟩ := hk
      unfold circ_Right_l2b
      simp only [cond_dec]
      rw [if_pos (by omega), ask_of (by omega), succ64 (by omega), w64 (n := (iL.length : Int) + (j : Int)) (by omega) (by omega), w64 (by omega) (by omega), if_neg (by omega), odd_ex ha, bindS, decide_eq_false (not_not_intro q0)]
      simp only [cond_false]
      rw [there_ex, bindS, decide_eq_true ⟨q2, q3⟩]
      simp only [Bool.not_true, cond_false]
      cases j with
      | zero =>
        simp only [prL]
        rw [behind_ex, decide_eq_true (.inl (by omega)), bindS]
        rfl
      | succ k =>
        have hp := q4 k rfl
        unfold lex at hp
        simp only [prL]
        rw [behind_ex, decide_eq_true hp, bindS]
        rfl)
    (fun self j hj hk => by
      unfold circ_Right_l2b
      simp only [cond_dec]
      rw [if_pos (by omega), ask_of (by omega), succ64 (by omega), w64 (n := (iL.length : Int) + (j : Int)) (by omega) (by omega), w64 (by omega) (by omega)]
      by_cases c1 : (Kiibii_at lL (j : Int)).1 ≠ (iL.length : Int) + (j : Int) + 1
      · rw [if_pos c1]
      rw [if_neg c1, odd_ex ha, bindS]
      by_cases c0 : LitP ins G (Kiibii_at lL (j : Int)).2.1
      · rw [decide_eq_false (not_not_intro c0)]
        simp only [cond_false]
        rw [there_ex, bindS]
        by_cases c2 : 0 ≤ (Kiibii_at lL (j : Int)).2.2.2.1 ∧ 0 ≤ (Kiibii_at lL (j : Int)).2.2.2.2
        · rw [decide_eq_true c2]
          simp only [Bool.not_true, cond_false]
          rw [behind_ex, bindS]
          have hno : ¬ ((prL lL j).1 < (Kiibii_at lL (j : Int)).2.2.2.1 ∨ (prL lL j).1 = (Kiibii_at lL (j : Int)).2.2.2.1 ∧ (prL lL j).2.1 < (Kiibii_at lL (j : Int)).2.2.2.2) := fun q => hk ⟨by omega, c0, c2.1, c2.2, fun k e => by subst e; exact q⟩
          rw [decide_eq_false hno]
          rfl
        · rw [decide_eq_false c2]
          rfl
      · rw [decide_eq_true c0]
        rfl)
    (fun self => by
      unfold circ_Right_l2b
      simp only [cond_dec]
      rw [if_neg (by omega)]) (by omega)
  have l3 := scan (F := circ_Right_l3b n ins G iL lL oL) (fun j => ((j : Int), ())) (OuP ins G oL) () (len := oL.length) (m := n)
    (fun self j hj hk => by
      obtain ⟨q1, q2, q3, q4⟩ := hk
      unfold circ_Right_l3b
      simp only [cond_dec]
      rw [if_pos (by omega), ask_of (by omega), if_neg (by omega), if_neg (by omega), if_neg (by omega), odd_ex ha, bindS, decide_eq_false (not_not_intro q4), succ64 (by omega)]
      rfl)
    (fun self j hj hk => by
      unfold circ_Right_l3b
      simp only [cond_dec]
      rw [if_pos (by omega), ask_of (by omega)]
      by_cases c1 : (Kiii_at oL (j : Int)).1 < 8
      · rw [if_pos c1]
      by_cases c2 : 10 < (Kiii_at oL (j : Int)).1
      · rw [if_neg c1, if_pos c2]
      by_cases c3 : (Kiii_at oL (j : Int)).2.2 < 0
      · rw [if_neg c1, if_neg c2, if_pos c3]
      rw [if_neg c1, if_neg c2, if_neg c3, odd_ex ha, bindS, decide_eq_true (show ¬ LitP ins G (Kiii_at oL (j : Int)).2.1 from fun q => hk ⟨by omega, by omega, by omega, q⟩)]
      rfl)
    (fun self => by
      unfold circ_Right_l3b
      simp only [cond_dec]
      rw [if_neg (by omega)]) (by omega)
  obtain ⟨b, e, hb⟩ := tails (A := AigP ins G ∧ lL.length ≤ 256 ∧ (iL.length : Int) + lL.length = ins) l1 l2 l3 ⟨ha, by omega, Classical.not_not.1 h3⟩
  refine ⟨b, e, hb.trans ?_⟩
  unfold CirP
  exact ⟨fun ⟨⟨x1, x2, x3⟩, x4, x5, x6⟩ => ⟨x1, x2, x3, x4, x5, x6⟩, fun ⟨x1, x2, x3, x4, x5, x6⟩ => ⟨⟨x1, x2, x3⟩, x4, x5, x6⟩⟩
theorem rcirc_iff (h : RawC ins G iL lL oL) (hn : 30000 < n) : ∃ b : Bool, ref15_Right n ins G iL lL oL = some (b, ()) ∧ (b = true ↔ CirP ins G iL lL oL) := by
  have hg := h.g
  have hil := h.il
  have hll := h.ll
  have hol := h.ol
  obtain ⟨b0, e0, hb0⟩ := raig_iff (n := n) h.i (by omega) h.gl hn
  unfold ref15_Right
  rw [e0, bindS]
  cases b0 with
  | false => exact ⟨false, rfl, by simp; exact fun q => by simpa using hb0.2 q.1⟩
  | true =>
  have ha := hb0.1 rfl
  obtain ⟨a0, a1, a2, a3⟩ := id ha
  simp only [Bool.not_true, cond_false, cond_dec]
  by_cases h2 : (256 : Int) < (lL.length : Int)
  · exact ⟨false, by rw [if_pos h2], by simp; exact fun q => by have := q.2.1; omega⟩
  rw [if_neg h2, w64 (by omega) (by omega)]
  by_cases h3 : (iL.length : Int) + (lL.length : Int) ≠ ins
  · exact ⟨false, by rw [if_pos h3], by simp; exact fun q => h3 q.2.2.1⟩
  rw [if_neg h3]
  have l1 := scan (F := ref15_Right_l1b n iL) (fun j => ((j : Int), ())) (InP iL) () (len := iL.length) (m := n)
    (fun self j hj hk => by
      obtain ⟨q1, q2, q3, q4⟩ := hk
      unfold ref15_Right_l1b
      simp only [cond_dec]
      rw [if_pos (by omega), ask_of (by omega), ask_of (by omega), succ64 (by omega), if_neg (by omega), ask_of (by omega), if_neg (by omega), ask_of (by omega), if_neg (by omega)]
      cases j with
      | zero => rw [if_neg (by omega)]
      | succ k =>
        have hp := q4 k rfl
        unfold lex at hp
        have e : IntKind.wrap .i64 (((k + 1 : Nat) : Int) - 1) = (k : Int) := by rw [w64 (by omega) (by omega)]; omega
        rw [if_pos (by omega), e, ask_of (by omega), ask_of (by omega), ask_of (by omega), ask_of (by omega), ask_of (by omega), ask_of (by omega), rises_ex, decide_eq_true hp, bindS]
        rfl)
    (fun self j hj hk => by
      unfold ref15_Right_l1b
      simp only [cond_dec]
      rw [if_pos (by omega), ask_of (by omega), ask_of (by omega), succ64 (by omega)]
      by_cases c1 : (Kiii_at iL (j : Int)).1 ≠ ((j + 1 : Nat) : Int)
      · rw [if_pos c1]
      rw [if_neg c1, ask_of (by omega)]
      by_cases c2 : (Kiii_at iL (j : Int)).2.1 < 0
      · rw [if_pos c2]
      rw [if_neg c2, ask_of (by omega)]
      by_cases c3 : (Kiii_at iL (j : Int)).2.2 < 0
      · rw [if_pos c3]
      rw [if_neg c3]
      cases j with
      | zero => exact absurd ⟨by omega, by omega, by omega, fun k e => by omega⟩ hk
      | succ k =>
        have e : IntKind.wrap .i64 (((k + 1 : Nat) : Int) - 1) = (k : Int) := by rw [w64 (by omega) (by omega)]; omega
        have hno : ¬ lex (Kiii_at iL (k : Int)).2.1 (Kiii_at iL (k : Int)).2.2 (Kiii_at iL ((k + 1 : Nat) : Int)).2.1 (Kiii_at iL ((k + 1 : Nat) : Int)).2.2 := fun q => hk ⟨by omega, by omega, by omega, fun m e => by
          have : m = k := by omega
          subst this; exact q⟩
        unfold lex at hno
        rw [if_pos (by omega), e, ask_of (by omega), ask_of (by omega), ask_of (by omega), ask_of (by omega), ask_of (by omega), ask_of (by omega), rises_ex, decide_eq_false hno, bindS]
        rfl)
    (fun self => by
      unfold ref15_Right_l1b
      simp only [cond_dec]
      rw [if_neg (by omega)]) (by omega)
  have l2 := scan (F := ref15_Right_l2b n ins G iL lL) (fun j => ((j : Int), ())) (LaP ins G iL.length lL) () (len := lL.length) (m := n)
    (fun self j hj hk => by
      obtain ⟨q1, q0, q2, q3, q4⟩ := hk
      unfold ref15_Right_l2b
      simp only [cond_dec]
      rw [if_pos (by omega), ask_of (by omega), succ64 (by omega), w64 (n := (iL.length : Int) + (j : Int)) (by omega) (by omega), w64 (by omega) (by omega), if_neg (by omega), if_neg (by omega), if_neg (by omega), lit_ex ha (h.lx j hj), bindS, decide_eq_true q0]
      simp only [Bool.not_true, cond_false]
      cases j with
      | zero => rw [if_neg (by omega)]
      | succ k =>
        have hp := q4 k rfl
        unfold lex at hp
        have e : IntKind.wrap .i64 (((k + 1 : Nat) : Int) - 1) = (k : Int) := by rw [w64 (by omega) (by omega)]; omega
        rw [if_pos (by omega), e, ask_of (by omega), ask_of (by omega), rises_ex, decide_eq_true hp, bindS]
        rfl)
    (fun self j hj hk => by
      unfold ref15_Right_l2b
      simp only [cond_dec]
      rw [if_pos (by omega), ask_of (by omega), succ64 (by omega), w64 (n := (iL.length : Int) + (j : Int)) (by omega) (by omega), w64 (by omega) (by omega)]
      by_cases c1 : (Kiibii_at lL (j : Int)).1 ≠ (iL.length : Int) + (j : Int) + 1
      · rw [if_pos c1]
      by_cases c2 : (Kiibii_at lL (j : Int)).2.2.2.1 < 0
      · rw [if_neg c1, if_pos c2]
      by_cases c3 : (Kiibii_at lL (j : Int)).2.2.2.2 < 0
      · rw [if_neg c1, if_neg c2, if_pos c3]
      rw [if_neg c1, if_neg c2, if_neg c3, lit_ex ha (h.lx j hj), bindS]
      by_cases c0 : LitP ins G (Kiibii_at lL (j : Int)).2.1
      · rw [decide_eq_true c0]
        simp only [Bool.not_true, cond_false]
        cases j with
        | zero => exact absurd ⟨by omega, c0, by omega, by omega, fun k e => by omega⟩ hk
        | succ k =>
          have e : IntKind.wrap .i64 (((k + 1 : Nat) : Int) - 1) = (k : Int) := by rw [w64 (by omega) (by omega)]; omega
          have hno : ¬ lex (Kiibii_at lL (k : Int)).2.2.2.1 (Kiibii_at lL (k : Int)).2.2.2.2 (Kiibii_at lL ((k + 1 : Nat) : Int)).2.2.2.1 (Kiibii_at lL ((k + 1 : Nat) : Int)).2.2.2.2 := fun q => hk ⟨by omega, c0, by omega, by omega, fun m e => by
            have : m = k := by omega
            subst this; exact q⟩
          unfold lex at hno
          rw [if_pos (by omega), e, ask_of (by omega), ask_of (by omega), rises_ex, decide_eq_false hno, bindS]
          rfl
      · rw [decide_eq_false c0]
        rfl)
    (fun self => by
      unfold ref15_Right_l2b
      simp only [cond_dec]
      rw [if_neg (by omega)]) (by omega)
  have l3 := scan (F := ref15_Right_l3b n ins G oL) (fun j => ((j : Int), ())) (OuP ins G oL) () (len := oL.length) (m := n)
    (fun self j hj hk => by
      obtain ⟨q1, q2, q3, q4⟩ := hk
      unfold ref15_Right_l3b
      simp only [cond_dec]
      rw [if_pos (by omega), ask_of (by omega), if_neg (by omega), if_neg (by omega), if_neg (by omega), lit_ex ha (h.ox j hj), bindS, decide_eq_true q4, succ64 (by omega)]
      rfl)
    (fun self j hj hk => by
      unfold ref15_Right_l3b
      simp only [cond_dec]
      rw [if_pos (by omega), ask_of (by omega)]
      by_cases c1 : (Kiii_at oL (j : Int)).1 < 8
      · rw [if_pos c1]
      by_cases c2 : 10 < (Kiii_at oL (j : Int)).1
      · rw [if_neg c1, if_pos c2]
      by_cases c3 : (Kiii_at oL (j : Int)).2.2 < 0
      · rw [if_neg c1, if_neg c2, if_pos c3]
      rw [if_neg c1, if_neg c2, if_neg c3, lit_ex ha (h.ox j hj), bindS, decide_eq_false (fun q => hk ⟨by omega, by omega, by omega, q⟩)]
      rfl)
    (fun self => by
      unfold ref15_Right_l3b
      simp only [cond_dec]
      rw [if_neg (by omega)]) (by omega)
  obtain ⟨b, e, hb⟩ := tails (A := AigP ins G ∧ lL.length ≤ 256 ∧ (iL.length : Int) + lL.length = ins) l1 l2 l3 ⟨ha, by omega, Classical.not_not.1 h3⟩
  refine ⟨b, e, hb.trans ?_⟩
  unfold CirP
  exact ⟨fun ⟨⟨x1, x2, x3⟩, x4, x5, x6⟩ => ⟨x1, x2, x3, x4, x5, x6⟩, fun ⟨x1, x2, x3, x4, x5, x6⟩ => ⟨⟨x1, x2, x3⟩, x4, x5, x6⟩⟩
end
section
variable {n : Nat} {ins : Int} {g : List Kii}
theorem rlit13_f {V : List Bool} {x : Int} (h0 : 0 ≤ x) (h1 : x / 2 < (V.length : Int)) (h2 : x < 1000000) : ref13_Lit n V x = some (lv V x, ()) := by
  unfold ref13_Lit
  rw [ask_of (by omega), tdiv2 h0, tmodn h0, w64 (n := x / 2) (by omega) (by omega), ask_of (by omega), ask_of (by omega)]
  rfl
theorem reval13_f {inp : List Bool} (r : RG ins g) (hi : (inp.length : Int) = ins) (hn : 30000 < n) : ∃ W, ref13_Eval_o n ins g inp = some ((false :: inp) ++ W, ()) ∧ W.length = g.length ∧ Mod ins g ((false :: inp) ++ W) := by
  have i0 := r.i0
  have i1 := r.i1
  have hg := r.len
  have hV0 : (false :: inp).length = inp.length + 1 := rfl
  obtain ⟨R, e, W, hR, hW, hM⟩ := iter_ex (F := ref13_Eval_o_l1b n g) (len := g.length) (m := n) (d := (0, false :: inp, ()))
    (fun j d => ∃ W, d = ((j : Int), (false :: inp) ++ W, ()) ∧ W.length = j ∧ ∀ i : Nat, i < j → Kb_at ((false :: inp) ++ W) (ins + 1 + (i : Int)) = (lv ((false :: inp) ++ W) (Kii_at g (i : Int)).1 && lv ((false :: inp) ++ W) (Kii_at g (i : Int)).2))
    (fun R => ∃ W, R = ((false :: inp) ++ W, ()) ∧ W.length = g.length ∧ Mod ins g ((false :: inp) ++ W))
    (fun self j d hj ⟨W, hd, hW, hM⟩ => by
      subst hd
      obtain ⟨a1, a2, a3, a4⟩ := r.a j hj
      have hlen : ((false :: inp) ++ W).length = inp.length + 1 + j := by simp [hW]; omega
      generalize hV : (false :: inp) ++ W = V at hM hlen ⊢
      have ext : ∀ b, b = (lv V (Kii_at g (j : Int)).1 && lv V (Kii_at g (j : Int)).2) → ∃ W', ((((j + 1 : Nat) : Int), V ++ [b], ()) : Int × List Bool × Unit) = (((j + 1 : Nat) : Int), (false :: inp) ++ W', ()) ∧ W'.length = j + 1 ∧ ∀ i : Nat, i < j + 1 → Kb_at ((false :: inp) ++ W') (ins + 1 + (i : Int)) = (lv ((false :: inp) ++ W') (Kii_at g (i : Int)).1 && lv ((false :: inp) ++ W') (Kii_at g (i : Int)).2) := fun b hb => by
        refine ⟨W ++ [b], by rw [← hV, List.append_assoc], by simp [hW], fun i hi => ?_⟩
        rw [← List.append_assoc, hV]
        obtain ⟨b1, b2, b3, b4⟩ := r.a i (by omega)
        rw [lv_app (x := (Kii_at g (i : Int)).1) (by omega) (by omega), lv_app (x := (Kii_at g (i : Int)).2) (by omega) (by omega)]
        by_cases c : i = j
        · subst c
          have : Kb_at (V ++ [b]) (V.length : Int) = b := at_app2 (t := .bool)
          rw [show ins + 1 + (i : Int) = (V.length : Int) by omega, this, hb]
        · rw [b_app1 (by omega) (by omega), hM i (by omega)]
      unfold ref13_Eval_o_l1b
      simp only [cond_dec, cond_if, decide_eq_true_eq]
      rw [if_pos (by omega), ask_of (by omega), ask_of (by omega), rlit13_f (by omega) (by omega) (by omega), bindS]
      cases hx : lv V (Kii_at g (j : Int)).1 with
      | true =>
        simp only [↓reduceIte]
        rw [ask_of (by omega), ask_of (by omega), rlit13_f (by omega) (by omega) (by omega), bindS, ask_of (by simp; omega), succ64 (by omega)]
        obtain ⟨W', e1, e2, e3⟩ := ext _ rfl
        rw [hx, Bool.true_and] at e1
        exact ⟨_, rfl, W', e1, e2, e3⟩
      | false =>
        simp only [Bool.false_eq_true, ↓reduceIte]
        rw [ask_of (by simp; omega), succ64 (by omega)]
        obtain ⟨W', e1, e2, e3⟩ := ext _ rfl
        rw [hx, Bool.false_and] at e1
        exact ⟨_, rfl, W', e1, e2, e3⟩)
    (fun self d ⟨W, hd, hW, hM⟩ => by
      subst hd
      unfold ref13_Eval_o_l1b
      simp only [cond_dec]
      rw [if_neg (by omega)]
      exact ⟨_, rfl, W, rfl, hW, rfl, hM⟩) (by omega) ⟨[], by simp, rfl, fun i hi => absurd hi (Nat.not_lt_zero _)⟩
  subst hR
  unfold ref13_Eval_o
  rw [ask_of (by simp; omega), show [false] ++ inp = false :: inp from rfl, show ref13_Eval_o_l1 n g (0, false :: inp, ()) = _ from e, bindS]
  exact ⟨W, rfl, hW, hM⟩
/-- A graph and what it is given tell all. -/
theorem mod_ext {V W : List Bool} (r : RG ins g) (hV : (V.length : Int) = 1 + ins + g.length) (hW : W.length = V.length) (h0 : ∀ j : Nat, (j : Int) < 1 + ins → Kb_at V (j : Int) = Kb_at W (j : Int)) (mV : Mod ins g V) (mW : Mod ins g W) : V = W := by
  have i0 := r.i0
  refine ext_at (t := b_) hW.symm fun j hj => ?_
  show Kb_at V (j : Int) = Kb_at W (j : Int)
  induction j using Nat.strongRecOn with
  | ind j ih =>
  by_cases c : (j : Int) < 1 + ins
  · exact h0 j c
  · obtain ⟨k, hk⟩ : ∃ k : Nat, (j : Int) = ins + 1 + (k : Int) := ⟨(j - (ins + 1)).toNat, by omega⟩
    have hkl : k < g.length := by omega
    obtain ⟨a1, a2, a3, a4⟩ := r.a k hkl
    have one : ∀ x : Int, 0 ≤ x → x / 2 ≤ ins + k → lv V x = lv W x := fun x x0 x1 => by
      unfold lv
      obtain ⟨m, hm⟩ := Int.eq_ofNat_of_zero_le (show 0 ≤ x / 2 by omega)
      rw [hm, ih m (by omega) (by omega)]
    rw [hk, mV.a k hkl, mW.a k hkl, one _ (by omega) (by omega), one _ (by omega) (by omega)]
theorem rstep15_f {iL oL : List Kiii} {lL : List Kiibii} {lats inps : List Bool} (h : CircR ins g iL lL oL) (h1 : lats.length = lL.length) (h2 : inps.length = iL.length) (hn : 30000 < n) : ∃ X : List Bool × List Bool, circ_Step n ins g iL lL oL lats inps = some (X.1, X.2, ()) ∧ ref15_Step n ins g iL lL oL lats inps = some (X.1, X.2, ()) ∧ X.1.length = lL.length ∧ X.2.length = oL.length := by
  have hr := h.r
  have i0 := hr.i0
  have i1 := hr.i1
  have hg := hr.len
  have hs := h.sum
  have h256 := h.l256
  have ho := h.o1000
  have hlen : ((inps ++ lats).length : Int) = ins := by simp; omega
  obtain ⟨W, e, hW, hM⟩ := step15_w (n := n) h h1 h2 hn
  obtain ⟨W2, e2, hW2, hM2⟩ := reval13_f (n := n) (inp := inps ++ lats) hr hlen hn
  have same : (false :: (inps ++ lats)) ++ W2 = (false :: (inps ++ lats)) ++ W := by
    refine mod_ext hr (by simp at hlen ⊢; omega) (by simp [hW, hW2]) (fun j hj => ?_) hM2 hM
    have hb : ∀ U : List Bool, Kb_at ((false :: (inps ++ lats)) ++ U) (j : Int) = Kb_at (false :: (inps ++ lats)) (j : Int) := fun U => at_app1 (t := b_) (by simp at hlen ⊢; omega)
    rw [hb, hb]
  rw [same] at e2
  refine ⟨((List.range lL.length).map (fun j : Nat => lv ((false :: (inps ++ lats)) ++ W) (Kiibii_at lL (j : Int)).2.1), (List.range oL.length).map (fun j : Nat => lv ((false :: (inps ++ lats)) ++ W) (Kiii_at oL (j : Int)).2.1)), e, ?_, by simp, by simp⟩
  have hV : ((false :: (inps ++ lats)) ++ W).length = 1 + ins.toNat + g.length := by simp at hlen ⊢; omega
  unfold ref15_Step
  rw [ask_of (by simp; omega), ask_of (by simp; omega), List.nil_append, e2, bindS]
  generalize (false :: (inps ++ lats)) ++ W = V at hV ⊢
  have l1 := iter_up (F := ref15_Step_l1b n (V, ()) lL) (fun j => ((j : Int), (List.range j).map (fun j : Nat => lv V (Kiibii_at lL (j : Int)).2.1), ())) ((List.range lL.length).map (fun j : Nat => lv V (Kiibii_at lL (j : Int)).2.1), ()) (len := lL.length) (m := n)
    (fun self j hj => by
      obtain ⟨q1, q2, q3, q4, q5⟩ := h.l j hj
      unfold ref15_Step_l1b
      simp only [cond_dec]
      rw [if_pos (by omega), ask_of (by omega), rlit13_f q4 (by omega) (by omega), bindS]
      simp only
      rw [ask_of (by simp; omega), succ64 (by omega), List.range_succ, List.map_append]
      rfl)
    (fun self => by
      unfold ref15_Step_l1b
      simp only [cond_dec]
      rw [if_neg (by omega)]) (by omega)
  have l2 := iter_up (F := ref15_Step_l2b n (V, ()) oL) (fun j => ((j : Int), (List.range j).map (fun j : Nat => lv V (Kiii_at oL (j : Int)).2.1), ())) ((List.range oL.length).map (fun j : Nat => lv V (Kiii_at oL (j : Int)).2.1), ()) (len := oL.length) (m := n)
    (fun self j hj => by
      obtain ⟨q1, q2, q3, q4, q5⟩ := h.o j hj
      unfold ref15_Step_l2b
      simp only [cond_dec]
      rw [if_pos (by omega), ask_of (by omega), rlit13_f q4 (by omega) (by omega), bindS]
      simp only
      rw [ask_of (by simp; omega), succ64 (by omega), List.range_succ, List.map_append]
      rfl)
    (fun self => by
      unfold ref15_Step_l2b
      simp only [cond_dec]
      rw [if_neg (by omega)]) (by omega)
  rw [show ref15_Step_l1 n (V, ()) lL (0, [], ()) = _ from l1, bindS, show ref15_Step_l2 n (V, ()) oL (0, [], ()) = _ from l2, bindS]
theorem rfirst15_f {iL oL : List Kiii} {lL : List Kiibii} (h : lL.length ≤ 256) (hn : 30000 < n) : ref15_First n ins g iL lL oL = some ((List.range lL.length).map (fun j : Nat => (Kiibii_at lL (j : Int)).2.2.1), ()) := by
  have l1 := iter_up (F := ref15_First_l1b n lL) (fun j => ((j : Int), (List.range j).map (fun j : Nat => (Kiibii_at lL (j : Int)).2.2.1), ())) ((List.range lL.length).map (fun j : Nat => (Kiibii_at lL (j : Int)).2.2.1), ()) (len := lL.length) (m := n)
    (fun self j hj => by
      unfold ref15_First_l1b
      simp only [cond_dec]
      rw [if_pos (by omega), ask_of (by omega), ask_of (by simp; omega), succ64 (by omega), List.range_succ, List.map_append]
      rfl)
    (fun self => by
      unfold ref15_First_l1b
      simp only [cond_dec]
      rw [if_neg (by omega)]) (by omega)
  unfold ref15_First
  rw [show ref15_First_l1 n lL (0, [], ()) = _ from l1]
  rfl
end
section
variable {n : Nat} {N : List Nd} {I : List Pn} {C : List Cl} {P : List Pw} {Q : List Pn} {ins : Int} {G : List Kii} {oL : List Kiii} {lL : List Kiibii}
theorem inso15_f {x : List Int} (r : RightP N I C P Q) (hx : x.length = I.length) (hn : 30000 < n) : circ_Ins_o n ins G (pinL N I I.length) lL oL x = some (insL (pinL N I I.length) x, ()) := ins15_f (ins := ins) (G := G) (lL := lL) (oL := oL) r hx hn
theorem rins15_f {x : List Int} (r : RightP N I C P Q) (hx : x.length = I.length) (hn : 30000 < n) : ref15_Ins_o n ins G (pinL N I I.length) lL oL x = some (insL (pinL N I I.length) x, ()) := by
  have hi := r.i
  have hT := pinL_len2 r
  have l1 := iter_up (F := ref15_Ins_o_l1b n (pinL N I I.length) x) (fun j => ((j : Int), (List.range j).map (insV15 (pinL N I I.length) x), ())) (insL (pinL N I I.length) x, ()) (len := (pinL N I I.length).length) (m := n)
    (fun self t ht => by
      obtain ⟨j, k, h1, h2, rfl⟩ := pinL_of (N := N) (I := I) (m := I.length) ht
      obtain ⟨e, -⟩ := pinL_at (N := N) (I := I) h1 h2
      have h16 := wN_16 r h1
      have eb : decide ((bits .and .i64 (shrI .i64 (Ki_at x (j : Int)) (k : Int)) 1) = 1) = insV15 (pinL N I I.length) x ((pinL N I j).length + k) := by
        unfold insV15
        rw [e]
        rfl
      unfold ref15_Ins_o_l1b
      simp only [cond_dec, e, eb]
      rw [if_pos (by omega), ask_of (by omega), ask_of (by omega), if_pos (by omega), ask_of (by omega), ask_of (by omega), ask_of (by omega), ask_of (by omega), ask_of (by simp; omega), succ64 (by omega), List.range_succ, List.map_append]
      rfl)
    (fun self => by
      unfold ref15_Ins_o_l1b
      simp only [cond_dec]
      rw [if_neg (by omega)]
      rfl) (by omega)
  unfold ref15_Ins_o
  rw [show ref15_Ins_o_l1 n (pinL N I I.length) x (0, [], ()) = _ from l1]
  rfl
/-- A row of any length, of bits. -/
def rowP (N : List Nd) (I : List Pn) (X : List Bool) (p t : Nat) : List Int := (List.range p).map fun i => if i < I.length then segV N I X t i else 0
theorem rowP_skip {X : List Bool} {p j k : Nat} (hk : k < wN N (Ksi_at I (j : Int)).2) (hx : Kb_at X (((pinL N I j).length + k : Nat) : Int) = false ∨ p ≤ j) : rowP N I X p ((pinL N I j).length + k + 1) = rowP N I X p ((pinL N I j).length + k) := by
  unfold rowP
  refine List.map_congr_left fun i hi => ?_
  have hip := List.mem_range.1 hi
  split
  · by_cases c : i = j
    · subst c
      have hx := hx.resolve_right (by omega)
      rw [Nat.add_assoc, segV_now (by omega), segV_now (by omega), segN_succ, hx]
      simp
    · exact segV_other hk c
  · rfl
theorem rowP_at {X : List Bool} {p t j : Nat} (hj : j < I.length) (hp : j < p) : Ki_at (rowP N I X p t) (j : Int) = segV N I X t j := by
  rw [show Ki_at (rowP N I X p t) (j : Int) = _ from at_range (t := i_) hp, if_pos hj]
theorem rowP_set {X : List Bool} {p j k : Nat} (hj : j < I.length) (hp : j < p) (hk : k < wN N (Ksi_at I (j : Int)).2) : (rowP N I X p ((pinL N I j).length + k)).set j (segV N I X ((pinL N I j).length + k + 1) j) = rowP N I X p ((pinL N I j).length + k + 1) := by
  have h := set_range (m := p) (j := j) (f := fun i => if i < I.length then segV N I X ((pinL N I j).length + k) i else 0) (g := fun i => if i < I.length then segV N I X ((pinL N I j).length + k + 1) i else 0) fun i hi hij => by
    split
    · exact (segV_other hk hij).symm
    · rfl
  simp only [if_pos hj] at h
  exact h
theorem segV_step {X : List Bool} {j k : Nat} (hk : k < wN N (Ksi_at I (j : Int)).2) (h16 : wN N (Ksi_at I (j : Int)).2 ≤ 16) (hx : Kb_at X (((pinL N I j).length + k : Nat) : Int) = true) : segV N I X ((pinL N I j).length + k + 1) j = segV N I X ((pinL N I j).length + k) j + P2 (k : Int) ∧ 0 ≤ segV N I X ((pinL N I j).length + k) j ∧ segV N I X ((pinL N I j).length + k) j < P2 (k : Int) ∧ P2 (k : Int) ≤ 65536 := by
  have hlt := segN_lt X (pinL N I j).length k
  have h62 := p2_16 (k := (k : Int)) (by omega)
  rw [Nat.add_assoc, segV_now (by omega), segV_now (by omega), segN_succ, hx]
  rw [p2_nat] at h62 ⊢
  refine ⟨by simp, by omega, by omega, by omega⟩
theorem or_p2 {x : Int} {k : Nat} (h0 : 0 ≤ x) (h1 : x < P2 (k : Int)) (h2 : P2 (k : Int) ≤ 65536) : bits .or .i64 x (P2 (k : Int)) = x + P2 (k : Int) := by
  obtain ⟨a, rfl⟩ := Int.eq_ofNat_of_zero_le h0
  rw [p2_nat] at h1 h2 ⊢
  rw [or_nat _ _ (by omega) (by omega), Nat.or_comm]
  have := Nat.two_pow_add_eq_or_of_lt (i := k) (b := a) (by omega) 1
  rw [Nat.mul_one] at this
  rw [← this]
  omega
theorem shl_1 {k : Nat} (h : P2 (k : Int) ≤ 65536) (hk : k ≤ 16) : shlI .i64 1 (k : Int) = P2 (k : Int) := by
  rw [shl_p2 (by omega) (by omega) (by omega), Int.one_mul]
theorem rowP_0 {X : List Bool} {p : Nat} : rowP N I X p 0 = List.replicate p 0 := by
  unfold rowP
  refine List.ext_getElem (by simp) fun i h1 h2 => ?_
  simp [segV, segN, nb]
theorem rowp15_f {X : List Bool} {p : Nat} (r : RightP N I C P Q) (hX : X.length = (pinL N I I.length).length) (hp : p ≤ 1000) (hn : 30000 < n) : circ_Row n ins G (pinL N I I.length) lL oL (p : Int) X = some (rowP N I X p (pinL N I I.length).length, ()) := by
  have hi := r.i
  have hT := pinL_len2 r
  have l2 := iter_up (F := circ_Row_l2b n (pinL N I I.length) (p : Int) X) (fun t => ((t : Int), rowP N I X p t, ())) (rowP N I X p (pinL N I I.length).length, ()) (len := (pinL N I I.length).length) (m := n)
    (fun self t ht => by
      obtain ⟨j, k, h1, h2, rfl⟩ := pinL_of (N := N) (I := I) (m := I.length) ht
      obtain ⟨e, -⟩ := pinL_at (N := N) (I := I) h1 h2
      have h16 := wN_16 r h1
      have hlen : (rowP N I X p ((pinL N I j).length + k)).length = p := by simp [rowP]
      have ej : circ_Row_j1 n ((((pinL N I j).length + k : Nat) : Int), rowP N I X p ((pinL N I j).length + k), ()) (pinL N I I.length) (p : Int) X = some (Kb_at X (((pinL N I j).length + k : Nat) : Int) && decide (j < p), ()) := by
        unfold circ_Row_j1
        simp only [cond_dec, e]
        rw [ask_of (by omega)]
        cases Kb_at X (((pinL N I j).length + k : Nat) : Int) with
        | false => rfl
        | true =>
          simp only [cond_true]
          rw [ask_of (by omega)]
          by_cases c : j < p
          · rw [if_pos (by omega), ask_of (by omega), decide_eq_true (by omega), decide_eq_true c]; rfl
          · rw [if_neg (by omega), decide_eq_false c]; rfl
      unfold circ_Row_l2b
      simp only [cond_dec]
      rw [if_pos (by omega), ask_of (by omega), ej, bindS]
      simp only
      cases hb : (Kb_at X (((pinL N I j).length + k : Nat) : Int) && decide (j < p)) with
      | false =>
        simp only [cond_false]
        rw [succ64 (by omega), rowP_skip h2 (by
          rcases Bool.and_eq_false_iff.1 hb with q | q
          · exact .inl q
          · exact .inr (by have := of_decide_eq_false q; omega))]
      | true =>
        obtain ⟨hx, hjp⟩ := Bool.and_eq_true_iff.1 hb
        have hjp := of_decide_eq_true hjp
        obtain ⟨s1, s2, s3, s4⟩ := segV_step (N := N) (I := I) h2 h16 hx
        simp only [cond_true, e, Int.toNat_natCast]
        rw [ask_of (by omega), ask_of (by omega), ask_of (by omega), ask_of (by omega), ask_of (by omega), succ64 (by omega), rowP_at h1 hjp, shl_1 s4 (by omega), or_p2 s2 s3 s4, ← s1, rowP_set h1 hjp h2])
    (fun self => by
      unfold circ_Row_l2b
      simp only [cond_dec]
      rw [if_neg (by omega)]) (by omega)
  rw [rowP_0] at l2
  unfold circ_Row
  rw [ask_of (by omega), Int.toNat_natCast, show circ_Row_l2 n (pinL N I I.length) (p : Int) X (0, List.replicate p 0, ()) = _ from l2]
  rfl
theorem rrowp15_f {X : List Bool} {p : Nat} (r : RightP N I C P Q) (hX : X.length = (pinL N I I.length).length) (hp : p ≤ 1000) (hn : 30000 < n) : ref15_Row n ins G (pinL N I I.length) lL oL (p : Int) X = some (rowP N I X p (pinL N I I.length).length, ()) := by
  have hi := r.i
  have hT := pinL_len2 r
  have l2 := iter_up (F := ref15_Row_l2b n (pinL N I I.length) (p : Int) X) (fun t => ((t : Int), rowP N I X p t, ())) (rowP N I X p (pinL N I I.length).length, ()) (len := (pinL N I I.length).length) (m := n)
    (fun self t ht => by
      obtain ⟨j, k, h1, h2, rfl⟩ := pinL_of (N := N) (I := I) (m := I.length) ht
      obtain ⟨e, -⟩ := pinL_at (N := N) (I := I) h1 h2
      have h16 := wN_16 r h1
      have hlen : (rowP N I X p ((pinL N I j).length + k)).length = p := by simp [rowP]
      have ej : ref15_Row_j1 n ((((pinL N I j).length + k : Nat) : Int), rowP N I X p ((pinL N I j).length + k), ()) (pinL N I I.length) (p : Int) X = some (Kb_at X (((pinL N I j).length + k : Nat) : Int) && decide (j < p), ()) := by
        unfold ref15_Row_j1
        simp only [cond_dec, e]
        by_cases c : j < p
        · rw [if_pos (by omega), if_pos (by omega), ask_of (by omega), decide_eq_true c, Bool.and_true]
        · rw [if_neg (by omega), decide_eq_false c, Bool.and_false]
      unfold ref15_Row_l2b
      simp only [cond_dec]
      rw [if_pos (by omega), ask_of (by omega), ask_of (by omega), ask_of (by omega), ask_of (by omega), ej, bindS]
      simp only
      cases hb : (Kb_at X (((pinL N I j).length + k : Nat) : Int) && decide (j < p)) with
      | false =>
        simp only [cond_false]
        rw [succ64 (by omega), rowP_skip h2 (by
          rcases Bool.and_eq_false_iff.1 hb with q | q
          · exact .inl q
          · exact .inr (by have := of_decide_eq_false q; omega))]
      | true =>
        obtain ⟨hx, hjp⟩ := Bool.and_eq_true_iff.1 hb
        have hjp := of_decide_eq_true hjp
        obtain ⟨s1, s2, s3, s4⟩ := segV_step (N := N) (I := I) h2 h16 hx
        simp only [cond_true, e, Int.toNat_natCast]
        rw [ask_of (by omega), ask_of (by omega), ask_of (by omega), succ64 (by omega), rowP_at h1 hjp, shl_1 s4 (by omega), w64 (n := segV N I X ((pinL N I j).length + k) j + P2 (k : Int)) (by omega) (by omega), ← s1, rowP_set h1 hjp h2])
    (fun self => by
      unfold ref15_Row_l2b
      simp only [cond_dec]
      rw [if_neg (by omega)]) (by omega)
  rw [rowP_0] at l2
  unfold ref15_Row
  rw [ask_of (by omega), Int.toNat_natCast, show ref15_Row_l2 n (pinL N I I.length) (p : Int) X (0, List.replicate p 0, ()) = _ from l2]
  rfl
end
end Go.Proofs.YtnjoiokbeknopaaGreat.Am
