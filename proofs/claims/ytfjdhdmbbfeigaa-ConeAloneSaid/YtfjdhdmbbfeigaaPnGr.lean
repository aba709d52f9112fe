/- Graphs of ands: what is made in a right one. -/
import Derived.Test.YtfjdhdmbbfeigaaPl
import Derived.Test.YtfjdhdmbbfeigaaF
namespace Go.Proofs.Ytfjdhdmbbfeigaa.Am
set_option linter.unusedVariables false
set_option linter.unusedSimpArgs false
/-- A right graph. -/
structure RG (ins : Int) (g : List Kii) : Prop where
  i0 : 0 ≤ ins
  i1 : ins ≤ 5000
  len : g.length ≤ 20000
  a : ∀ j : Nat, j < g.length → 2 ≤ (Kii_at g (j : Int)).1 ∧ (Kii_at g (j : Int)).1 < (Kii_at g (j : Int)).2 ∧ (Kii_at g (j : Int)).2 / 2 ≤ ins + j ∧ (Kii_at g (j : Int)).1 / 2 ≠ (Kii_at g (j : Int)).2 / 2
  nd : ∀ i j : Nat, i < j → j < g.length → Kii_at g (i : Int) ≠ Kii_at g (j : Int)
def LitG (ins : Int) (g : List Kii) (x : Int) : Prop := 0 ≤ x ∧ x < 2 * (ins + g.length + 1)
theorem at_app1 {t : Ty} {l m : List t.D} {j : Nat} (h : j < l.length) : at_ t (l ++ m) (j : Int) = at_ t l (j : Int) := by
  unfold at_
  simp [List.getD_eq_getElem?_getD, List.getElem?_append, h]
theorem at_app2 {t : Ty} {l : List t.D} {x : t.D} : at_ t (l ++ [x]) (l.length : Int) = x := by
  unfold at_
  simp [List.getD_eq_getElem?_getD]
theorem addG {ins : Int} {g : List Kii} {p q : Int} (r : RG ins g) (hl : g.length < 20000) (h1 : 2 ≤ p) (h2 : p < q) (h3 : q / 2 ≤ ins + g.length) (h4 : p / 2 ≠ q / 2) (h5 : ∀ j : Nat, j < g.length → Kii_at g (j : Int) ≠ (p, q)) : RG ins (g ++ [(p, q)]) := by
  have old : ∀ j : Nat, j < g.length → Kii_at (g ++ [(p, q)]) (j : Int) = Kii_at g (j : Int) := fun j hj => at_app1 (t := Kii_) hj
  have new : Kii_at (g ++ [(p, q)]) (g.length : Int) = (p, q) := at_app2 (t := Kii_)
  refine ⟨r.i0, r.i1, by simp; omega, fun j hj => ?_, fun i j hij hj => ?_⟩
  · simp only [List.length_append, List.length_singleton] at hj
    by_cases c : j < g.length
    · rw [old j c]; exact r.a j c
    · have : j = g.length := by omega
      subst this
      rw [new]
      exact ⟨h1, h2, h3, h4⟩
  · simp only [List.length_append, List.length_singleton] at hj
    rw [old i (by omega)]
    by_cases c : j < g.length
    · rw [old j c]; exact r.nd i j hij c
    · have : j = g.length := by omega
      subst this
      rw [new]
      exact h5 i (by omega)
/-- What a literal is, of what all variables are. -/
def lv (V : List Bool) (x : Int) : Bool := Kb_at V (x / 2) != decide (x % 2 = 1)
/-- Variables as a graph says. -/
structure Mod (ins : Int) (g : List Kii) (V : List Bool) : Prop where
  z : Kb_at V 0 = false
  a : ∀ j : Nat, j < g.length → Kb_at V (ins + 1 + (j : Int)) = (lv V (Kii_at g (j : Int)).1 && lv V (Kii_at g (j : Int)).2)
theorem Mod.pre {ins : Int} {g t : List Kii} {V : List Bool} (h : Mod ins (g ++ t) V) : Mod ins g V := ⟨h.z, fun j hj => by
  have := h.a j (by simp; omega)
  rwa [show Kii_at (g ++ t) (j : Int) = Kii_at g (j : Int) from at_app1 (t := Kii_) hj] at this⟩
theorem lv_0 {ins : Int} {g : List Kii} {V : List Bool} (h : Mod ins g V) : lv V 0 = false := by
  unfold lv
  rw [show (0 : Int) / 2 = 0 by rfl, h.z]; rfl
theorem lv_1 {ins : Int} {g : List Kii} {V : List Bool} (h : Mod ins g V) : lv V 1 = true := by
  unfold lv
  rw [show (1 : Int) / 2 = 0 by rfl, h.z]; rfl
theorem lv_turn (V : List Bool) (x : Int) : lv V (turn x) = !lv V x := by
  unfold lv
  rw [turn_div, turn_mod]
  by_cases c : x % 2 = 1
  · rw [decide_eq_true c, decide_eq_false (by omega)]; cases Kb_at V (x / 2) <;> rfl
  · rw [decide_eq_false c, decide_eq_true (by omega)]; cases Kb_at V (x / 2) <;> rfl
/-- What is made: so many ands more, and a literal that means as told. -/
def StepG (k : Nat) (ins : Int) (g : List Kii) (r : Option (Int × List Kii × Int × Unit)) (φ : List Bool → Bool) : Prop := ∃ t x, r = some (ins, g ++ t, x, ()) ∧ t.length ≤ k ∧ RG ins (g ++ t) ∧ LitG ins (g ++ t) x ∧ ∀ V, Mod ins (g ++ t) V → lv V x = φ V
theorem wrap_small {x : Int} (h0 : -1000000 ≤ x) (h1 : x ≤ 1000000) : IntKind.wrap .i64 x = x := w64 (by omega) (by omega)
theorem turn_lit {ins : Int} {g : List Kii} {x : Int} (r : RG ins g) (h : LitG ins g x) : bits .xor .i64 x 1 = turn x ∧ LitG ins g (turn x) := by
  have h0 := h.1
  have h1 := h.2
  have i1 := r.i1
  have l := r.len
  exact ⟨xor_one x h0 (by omega), turn_nonneg h0, turn_lt h1⟩
section
variable {n : Nat} {ins : Int} {g : List Kii} {a b : Int}
theorem of_f (x y : Int) : aig_of n x y = some (min x y, max x y, ()) := by
  unfold aig_of
  rw [ask_of trivial, ask_of trivial]
  congr 2
  · split <;> omega
  · congr 1; split <;> omega
theorem plain_f {p q : Int} (hp : 0 ≤ p) (hp1 : p < 1000000) : aig_plain n p q = some (if p = 0 then 0 else if turn p = q then 0 else if p = 1 ∨ p = q then q else 0, if p = 0 then true else if turn p = q then true else if p = 1 ∨ p = q then true else false, ()) := by
  unfold aig_plain aig_rules aig_rules_1 aig_rules_2 aig_rules_3 aig_rules_4 aig_rules_5
  simp only [bindS, cond_dec, cond_if, ask_if, decide_eq_true_eq, xor_one p hp (by omega)]
  by_cases h0 : p = 0
  · simp [h0]
  · by_cases h1 : turn p = q
    · simp [h0, h1]
    · by_cases h2 : p = 1
      · simp [h0, h1, h2]
        subst h2
        simp [h1]
      · by_cases h3 : p = q
        · simp [h0, h1, h2, h3]
          subst h3
          simp [h0, h1, h2]
        · simp [h0, h1, h2, h3]
theorem index_f {p q : Int} (hl : g.length ≤ 20000) (hn : 30000 < n) : (∃ j : Nat, j < g.length ∧ Kii_at g (j : Int) = (p, q) ∧ slices_Index_2_int_2_int n g p q = some ((j : Int), ())) ∨ ((∀ j : Nat, j < g.length → Kii_at g (j : Int) ≠ (p, q)) ∧ slices_Index_2_int_2_int n g p q = some (-1, ())) := by
  have e : ∀ j : Nat, ((p == (Kii_at g (j : Int)).1) && (q == (Kii_at g (j : Int)).2)) = true ↔ Kii_at g (j : Int) = (p, q) := fun j => by
    simp only [Bool.and_eq_true, beq_iff_eq]
    constructor
    · rintro ⟨h1, h2⟩; rw [h1, h2]
    · intro h; rw [h]; exact ⟨rfl, rfl⟩
  have l := iter_all (F := slices_Index_2_int_2_int_l1b n g p q) (fun j => ((j : Int), ())) (fun j => Kii_at g (j : Int) ≠ (p, q)) (fun j => ((j : Int), ())) () (len := g.length) (m := n)
    (fun self j hj hall hk => by
      unfold slices_Index_2_int_2_int_l1b
      simp only [cond_dec, cond_if, decide_eq_true_eq]
      rw [if_pos (show (j : Int) < (g.length : Int) by omega), ask_of (show 0 ≤ (j : Int) ∧ (j : Int) < (g.length : Int) by omega), if_neg (fun h => hk ((e j).1 h)), succ64 (by omega)])
    (fun self j hj hall hk => by
      unfold slices_Index_2_int_2_int_l1b
      simp only [cond_dec, cond_if, decide_eq_true_eq]
      rw [if_pos (show (j : Int) < (g.length : Int) by omega), ask_of (show 0 ≤ (j : Int) ∧ (j : Int) < (g.length : Int) by omega), if_pos ((e j).2 (Classical.not_not.1 hk))])
    (fun _ self => by
      unfold slices_Index_2_int_2_int_l1b
      simp only [cond_dec]
      rw [if_neg (by omega)]) (by omega)
  unfold slices_Index_2_int_2_int slices_Index_2_int_2_int_l1
  rcases l with ⟨h, l⟩ | ⟨j, hj, -, hk, l⟩
  · right
    rw [show iter (slices_Index_2_int_2_int_l1b n g p q) n (0, ()) = _ from l]
    exact ⟨h, rfl⟩
  · left
    rw [show iter (slices_Index_2_int_2_int_l1b n g p q) n (0, ()) = _ from l]
    exact ⟨j, hj, Classical.not_not.1 hk, rfl⟩
/-- Numbers of an and that is not plain. -/
theorem pair_ok {p q : Int} (r : RG ins g) (hp : 0 ≤ p) (hpq : p ≤ q) (hq : LitG ins g q) (h0 : p ≠ 0) (h1 : p ≠ 1) (h2 : p ≠ q) (h3 : turn p ≠ q) : 2 ≤ p ∧ p < q ∧ q / 2 ≤ ins + g.length ∧ p / 2 ≠ q / 2 := by
  have := hq.2
  refine ⟨by omega, by omega, by omega, fun e => h3 ?_⟩
  unfold turn
  split <;> omega
theorem min_max (V : List Bool) (a b : Int) : (lv V a && lv V b) = (lv V (min a b) && lv V (max a b)) := by
  by_cases c : a ≤ b
  · rw [show min a b = a by omega, show max a b = b by omega]
  · rw [show min a b = b by omega, show max a b = a by omega, Bool.and_comm]
theorem lv_var {V : List Bool} {k : Int} : lv V (2 * k) = Kb_at V k := by
  unfold lv
  rw [show 2 * k / 2 = k by omega, decide_eq_false (by omega)]
  cases Kb_at V k <;> rfl
/-- An and that stands there, or comes behind. -/
theorem old_and {j : Nat} {p q : Int} (hj : j < g.length) (he : Kii_at g (j : Int) = (p, q)) {V : List Bool} (h : Mod ins g V) : lv V (2 * (ins + 1 + j)) = (lv V p && lv V q) := by
  have := h.a j hj
  rw [he] at this
  rw [lv_var]
  exact this
theorem new_and {p q : Int} {V : List Bool} (h : Mod ins (g ++ [(p, q)]) V) : lv V (2 * (ins + 1 + g.length)) = (lv V p && lv V q) :=
  old_and (j := g.length) (g := g ++ [(p, q)]) (by simp) (at_app2 (t := Kii_)) h
theorem and_same {k : Nat} {x : Int} {φ : List Bool → Bool} (r : RG ins g) (hx : LitG ins g x) (h : ∀ V, Mod ins g V → lv V x = φ V) : StepG k ins g (some (ins, g, x, ())) φ := ⟨[], x, by simp, by simp, by simpa using r, by simpa using hx, by simpa using h⟩
theorem and_f (r : RG ins g) (hl : g.length < 20000) (ha : LitG ins g a) (hb : LitG ins g b) (hn : 30000 < n) : StepG 1 ins g (aig_And n ins g a b) (fun V => lv V a && lv V b) := by
  have i0 := r.i0
  have i1 := r.i1
  have a0 := ha.1
  have a1 := ha.2
  have b0 := hb.1
  have b1 := hb.2
  have hq : LitG ins g (max a b) := ⟨by omega, by omega⟩
  have hp0 : 0 ≤ min a b := by omega
  have hpq : min a b ≤ max a b := by omega
  have hmm : ∀ V, (lv V a && lv V b) = (lv V (min a b) && lv V (max a b)) := fun V => min_max V a b
  unfold aig_And
  rw [of_f, bindS]
  simp only [hmm]
  generalize min a b = p at *
  generalize max a b = q at *
  have q1 := hq.2
  rw [plain_f hp0 (by omega), bindS]
  have zero : LitG ins g 0 := ⟨by omega, by omega⟩
  by_cases h0 : p = 0
  · simp only [h0, if_true, cond_true]; exact and_same r zero fun V hV => by simp [lv_0 hV]
  by_cases h3 : turn p = q
  · simp only [if_neg h0, if_pos h3, cond_true]; exact and_same r zero fun V hV => by rw [lv_0 hV, ← h3, lv_turn]; cases lv V p <;> rfl
  by_cases h12 : p = 1 ∨ p = q
  · simp only [if_neg h0, if_neg h3, if_pos h12, cond_true]; exact and_same r hq fun V hV => by
      rcases h12 with h | h
      · rw [h, lv_1 hV]; simp
      · rw [h]; simp
  simp only [if_neg h0, if_neg h3, if_neg h12, cond_false]
  obtain ⟨k1, k2, k3, k4⟩ := pair_ok r hp0 hpq hq h0 (fun e => h12 (.inl e)) (fun e => h12 (.inr e)) h3
  have shl : ∀ j : Nat, j ≤ g.length → shlI .i64 (IntKind.wrap .i64 (IntKind.wrap .i64 (ins + 1) + (j : Int))) 1 = 2 * (ins + 1 + j) := fun j hj => by
    rw [wrap_small (x := ins + 1) (by omega) (by omega), wrap_small (by omega) (by omega), shl_p2 (by omega) (by omega) (by rw [p2_one]; omega), p2_one]
    omega
  rcases index_f (n := n) (p := p) (q := q) r.len hn with ⟨j, hj, he, hx⟩ | ⟨hno, hx⟩
  · rw [hx, bindS]
    unfold aig_And_j1
    simp only [cond_dec]
    rw [if_neg (by omega), bindS, ask_of (by omega), shl j (by omega)]
    exact and_same r ⟨by omega, by omega⟩ fun V hV => old_and hj he hV
  · rw [hx, bindS]
    unfold aig_And_j1 slices_Clone_2_int_2_int_o
    simp only [cond_dec]
    rw [if_pos (by omega), ask_of (by simp; omega), bindS, ask_of (by simp; omega), bindS, ask_of (by omega), shl g.length (Nat.le_refl _)]
    exact ⟨_, _, rfl, by simp, addG r hl k1 k2 k3 k4 hno, by simp [LitG]; omega, fun V hV => new_and hV⟩
theorem find_f {p q : Int} (hl : g.length ≤ 20000) (hn : 30000 < n) : (∃ j : Nat, j < g.length ∧ Kii_at g (j : Int) = (p, q) ∧ ref13_find n ins g p q (g.length : Int) = some ((j : Int), ())) ∨ ((∀ j : Nat, j < g.length → Kii_at g (j : Int) ≠ (p, q)) ∧ ref13_find n ins g p q (g.length : Int) = some (-1, ())) := by
  have e : ∀ j : Nat, (Kii_at g (j : Int)).1 = p → (Kii_at g (j : Int)).2 = q → Kii_at g (j : Int) = (p, q) := fun j h1 h2 => by rw [← h1, ← h2]
  have l := iter_all (F := ref13_find_l1b n g p q (g.length : Int)) (fun j => ((j : Int), ())) (fun j => Kii_at g (j : Int) ≠ (p, q)) (fun j => ((j : Int), ())) () (len := g.length) (m := n)
    (fun self j hj hall hk => by
      unfold ref13_find_l1b
      simp only [cond_dec]
      rw [if_pos (by omega), ask_of (by omega), ask_of (by omega), succ64 (by omega)]
      by_cases h1 : (Kii_at g (j : Int)).1 = p
      · rw [if_pos h1, ask_of (by omega), ask_of (by omega), if_neg fun h2 => hk (e j h1 h2)]
      · rw [if_neg h1])
    (fun self j hj hall hk => by
      have hk := Classical.not_not.1 hk
      unfold ref13_find_l1b
      simp only [cond_dec, hk]
      rw [if_pos (by omega), ask_of (by omega), ask_of (by omega), if_pos trivial, ask_of (by omega), ask_of (by omega), if_pos trivial])
    (fun _ self => by
      unfold ref13_find_l1b
      simp only [cond_dec]
      rw [if_neg (by omega)]) (by omega)
  unfold ref13_find ref13_find_l1
  rcases l with ⟨h, l⟩ | ⟨j, hj, -, hk, l⟩
  · right
    rw [show iter (ref13_find_l1b n g p q (g.length : Int)) n (0, ()) = _ from l]
    exact ⟨h, rfl⟩
  · left
    rw [show iter (ref13_find_l1b n g p q (g.length : Int)) n (0, ()) = _ from l]
    exact ⟨j, hj, Classical.not_not.1 hk, rfl⟩
end
/-- Steps, one behind the other. -/
theorem LitG.more {ins : Int} {g t : List Kii} {x : Int} (h : LitG ins g x) : LitG ins (g ++ t) x := ⟨h.1, by have := h.2; simp; omega⟩
theorem StepG.bind {k : Nat} {ins : Int} {g : List Kii} {r : Option (Int × List Kii × Int × Unit)} {f : Int × List Kii × Int × Unit → Option (Int × List Kii × Int × Unit)} {m : Nat} {φ ψ : List Bool → Bool} (h : StepG k ins g r φ) (hf : ∀ t x, t.length ≤ k → RG ins (g ++ t) → LitG ins (g ++ t) x → (∀ V, Mod ins (g ++ t) V → lv V x = φ V) → StepG m ins (g ++ t) (f (ins, g ++ t, x, ())) ψ) : StepG (k + m) ins g (r.bind f) ψ := by
  obtain ⟨t, x, rfl, ht, hr, hx, hv⟩ := h
  obtain ⟨t2, y, e, ht2, hr2, hy, hv2⟩ := hf t x ht hr hx hv
  rw [List.append_assoc] at e hr2 hy hv2
  exact ⟨t ++ t2, y, e, by simp; omega, hr2, hy, hv2⟩
section
variable {n : Nat} {ins : Int} {g : List Kii} {a b c : Int}
end
end Go.Proofs.Ytfjdhdmbbfeigaa.Am
