/- Rows and states of a small net, numbered; keys of states. -/
import Derived.Test.YtieocmcjecpgpaaPrA
import Derived.Test.YtieocmcjecpgpaaPlSim3
namespace Go.Proofs.Ytieocmcjecpgpaa.Am
set_option linter.unusedVariables false
set_option linter.unusedSimpArgs false
/-- A row of numbers of so many bits each, by its number: the last ones change first. -/
def dgs (w : Nat → Nat) : Nat → Nat → List Int
  | 0, _ => []
  | j + 1, v => dgs w j (v / 2 ^ w j) ++ [((v % 2 ^ w j : Nat) : Int)]
def tot (w : Nat → Nat) : Nat → Nat
  | 0 => 1
  | j + 1 => tot w j * 2 ^ w j
section
variable {w : Nat → Nat}
theorem p2n_pos (k : Nat) : 0 < 2 ^ k := Nat.pow_pos (by omega)
theorem tot_pos : ∀ j, 0 < tot w j
  | 0 => by simp [tot]
  | j + 1 => Nat.mul_pos (tot_pos j) (p2n_pos _)
theorem dg_len : ∀ j v, (dgs w j v).length = j
  | 0, _ => rfl
  | j + 1, v => by rw [dgs, List.length_append, dg_len j]; rfl
theorem dg_zero : ∀ j, dgs w j 0 = List.replicate j 0
  | 0 => rfl
  | j + 1 => by rw [dgs, Nat.zero_div, dg_zero j, Nat.zero_mod, List.replicate_succ']; rfl
theorem dg_mul (j v x : Nat) (h : x < 2 ^ w j) : dgs w (j + 1) (v * 2 ^ w j + x) = dgs w j v ++ [((x : Nat) : Int)] := by
  have hp := p2n_pos (w j)
  rw [dgs, Nat.mul_comm v, Nat.mul_add_div hp, Nat.div_eq_of_lt h, Nat.add_zero, Nat.mul_add_mod, Nat.mod_eq_of_lt h]
theorem at_mid {t : Ty} {l r : List t.D} {x : t.D} {j : Nat} (h : l.length = j) : at_ t (l ++ x :: r) (j : Int) = x := by
  subst h
  unfold at_
  simp [List.getD_eq_getElem?_getD]
theorem set_mid {α : Type} {l r : List α} {x y : α} {j : Nat} (h : l.length = j) : (l ++ x :: r).set j y = l ++ y :: r := by
  subst h
  simp
theorem dg_at : ∀ (j v : Nat) {c : Nat}, c < j → ∃ x : Nat, Ki_at (dgs w j v) (c : Int) = (x : Int) ∧ x < 2 ^ w c
  | 0, v, c, h => by omega
  | j + 1, v, c, h => by
    rw [dgs]
    by_cases e : c = j
    · subst e
      exact ⟨v % 2 ^ w c, at_mid (t := i_) (dg_len c _), Nat.mod_lt _ (p2n_pos _)⟩
    · obtain ⟨x, h1, h2⟩ := dg_at j (v / 2 ^ w j) (c := c) (by omega)
      exact ⟨x, by rw [← h1]; exact at_appl (t := i_) (by rw [dg_len]; omega), h2⟩
theorem dg_surj : ∀ (j : Nat) (xs : List Int), xs.length = j → (∀ c : Nat, c < j → ∃ x : Nat, Ki_at xs (c : Int) = (x : Int) ∧ x < 2 ^ w c) → ∃ v, v < tot w j ∧ dgs w j v = xs
  | 0, xs, h, _ => ⟨0, by simp [tot], (List.eq_nil_of_length_eq_zero h).symm⟩
  | j + 1, xs, h, hx => by
    obtain ⟨l, x, rfl⟩ : ∃ l x, xs = l ++ [x] := ⟨xs.dropLast, xs.getLast (by intro c; subst c; simp at h), (List.dropLast_concat_getLast _).symm⟩
    simp only [List.length_append, List.length_cons, List.length_nil] at h
    obtain ⟨v, h1, h2⟩ := dg_surj j l (by omega) (fun c hc => by
      obtain ⟨y, h1, h2⟩ := hx c (by omega)
      exact ⟨y, by rw [← h1]; exact (at_appl (t := i_) (by omega)).symm, h2⟩)
    obtain ⟨y, h3, h4⟩ := hx j (by omega)
    have e : x = (y : Int) := by rw [← h3]; exact (at_mid (t := i_) (by omega)).symm
    refine ⟨v * 2 ^ w j + y, ?_, by rw [dg_mul j v y h4, h2, e]⟩
    have h5 : (v + 1) * 2 ^ w j ≤ tot w j * 2 ^ w j := Nat.mul_le_mul_right _ h1
    rw [Nat.add_mul, Nat.one_mul] at h5
    show _ < tot w j * 2 ^ w j
    omega
/-- The first unlike number of a row is less. -/
def rlt (a b : List Int) : Prop := ∃ c : Nat, c < a.length ∧ (∀ i : Nat, i < c → Ki_at a (i : Int) = Ki_at b (i : Int)) ∧ Ki_at a (c : Int) < Ki_at b (c : Int)
theorem dg_lt : ∀ (j v u : Nat), v < tot w j → u < tot w j → v < u → rlt (dgs w j v) (dgs w j u)
  | 0, v, u, h, h2, h3 => by simp [tot] at h h2; omega
  | j + 1, v, u, h, h2, h3 => by
    have hp := p2n_pos (w j)
    have hv : v / 2 ^ w j < tot w j := Nat.div_lt_of_lt_mul (by rw [Nat.mul_comm]; exact h)
    have hu : u / 2 ^ w j < tot w j := Nat.div_lt_of_lt_mul (by rw [Nat.mul_comm]; exact h2)
    have lv := dg_len (w := w) j (v / 2 ^ w j)
    have lu := dg_len (w := w) j (u / 2 ^ w j)
    rw [dgs, dgs]
    rcases Nat.lt_or_ge (v / 2 ^ w j) (u / 2 ^ w j) with c | c
    · obtain ⟨q, h4, h5, h6⟩ := dg_lt j _ _ hv hu c
      have ea : ∀ i : Nat, i < j → Ki_at (dgs w j (v / 2 ^ w j) ++ [((v % 2 ^ w j : Nat) : Int)]) (i : Int) = Ki_at (dgs w j (v / 2 ^ w j)) (i : Int) := fun i hi => at_appl (t := i_) (by omega)
      have eb : ∀ i : Nat, i < j → Ki_at (dgs w j (u / 2 ^ w j) ++ [((u % 2 ^ w j : Nat) : Int)]) (i : Int) = Ki_at (dgs w j (u / 2 ^ w j)) (i : Int) := fun i hi => at_appl (t := i_) (by omega)
      refine ⟨q, by simp; omega, fun i hi => ?_, ?_⟩
      · rw [ea i (by omega), eb i (by omega), h5 i hi]
      · rw [ea q (by omega), eb q (by omega)]; exact h6
    · have e : v / 2 ^ w j = u / 2 ^ w j := Nat.le_antisymm (Nat.div_le_div_right (by omega)) c
      have hm : v % 2 ^ w j < u % 2 ^ w j := by
        have h1 := Nat.div_add_mod v (2 ^ w j)
        have h2 := Nat.div_add_mod u (2 ^ w j)
        rw [e] at h1
        omega
      rw [e]
      refine ⟨j, by simp [lu], fun i hi => ?_, ?_⟩
      · rw [show Ki_at (dgs w j (u / 2 ^ w j) ++ [((v % 2 ^ w j : Nat) : Int)]) (i : Int) = Ki_at (dgs w j (u / 2 ^ w j)) (i : Int) from at_appl (t := i_) (by omega), show Ki_at (dgs w j (u / 2 ^ w j) ++ [((u % 2 ^ w j : Nat) : Int)]) (i : Int) = Ki_at (dgs w j (u / 2 ^ w j)) (i : Int) from at_appl (t := i_) (by omega)]
      · rw [show Ki_at (dgs w j (u / 2 ^ w j) ++ [((v % 2 ^ w j : Nat) : Int)]) (j : Int) = _ from at_mid (t := i_) lu, show Ki_at (dgs w j (u / 2 ^ w j) ++ [((u % 2 ^ w j : Nat) : Int)]) (j : Int) = _ from at_mid (t := i_) lu]
        omega
theorem dg_inj {j v u : Nat} (h : v < tot w j) (h2 : u < tot w j) (e : dgs w j v = dgs w j u) : v = u := by
  rcases Nat.lt_trichotomy v u with c | c | c
  · obtain ⟨q, -, -, h⟩ := dg_lt j v u h h2 c
    rw [e] at h; omega
  · exact c
  · obtain ⟨q, -, -, h⟩ := dg_lt j u v h2 h c
    rw [e] at h; omega
end
/-- Unlike numbers below a bound, by a map. -/
theorem few_of {σ : Type} {M : Nat} {l : List σ} {f : σ → Nat} (hn : ∀ (a b : Nat) x y, l[a]? = some x → l[b]? = some y → f x = f y → a = b) (hb : ∀ x ∈ l, f x < M) : l.length ≤ M := by
  have nd : (l.map f).Nodup := by
    rw [List.nodup_iff_pairwise_ne, List.pairwise_iff_getElem]
    intro i j hi hj hij e
    simp only [List.length_map] at hi hj
    rw [List.getElem_map, List.getElem_map] at e
    have := hn i j _ _ (List.getElem?_eq_getElem hi) (List.getElem?_eq_getElem hj) e
    omega
  have := few M (l.map f) nd fun x hx => by
    obtain ⟨y, hy, rfl⟩ := List.mem_map.1 hx
    exact hb y hy
  simpa using this
abbrev K12 := Kiiiiiiiiiiii
def keyO (s : List Int) : K12 := (kat s 0, kat s 1, kat s 2, kat s 3, kat s 4, kat s 5, kat s 6, kat s 7, kat s 8, kat s 9, kat s 10, kat s 11)
theorem kat_at {s : List Int} {j : Nat} (h : j < s.length) : kat s j = Ki_at s (j : Int) := by unfold kat; rw [if_pos h]; rfl
theorem keyO_inj {s u : List Int} (h1 : s.length = u.length) (h2 : s.length ≤ 12) (e : keyO s = keyO u) : s = u := by
  simp only [keyO, Prod.mk.injEq] at e
  have key : ∀ j : Nat, j < 12 → kat s j = kat u j := by
    intro j hj
    have : j = 0 ∨ j = 1 ∨ j = 2 ∨ j = 3 ∨ j = 4 ∨ j = 5 ∨ j = 6 ∨ j = 7 ∨ j = 8 ∨ j = 9 ∨ j = 10 ∨ j = 11 := by omega
    obtain ⟨e0, e1, e2, e3, e4, e5, e6, e7, e8, e9, e10, e11⟩ := e
    rcases this with rfl | rfl | rfl | rfl | rfl | rfl | rfl | rfl | rfl | rfl | rfl | rfl <;> assumption
  refine List.ext_getElem h1 fun j hj hj' => ?_
  have := key j (by omega)
  rw [kat_at hj, kat_at hj', show Ki_at s (j : Int) = s[j] from at_nat (t := i_) hj, show Ki_at u (j : Int) = u[j] from at_nat (t := i_) hj'] at this
  exact this
theorem eqD12 (x y : K12) : eqD Kiiiiiiiiiiii_ x y = true ↔ x = y := by
  rw [repN_eq (k := .i64) (m := 12) rfl]
  obtain ⟨x0, x1, x2, x3, x4, x5, x6, x7, x8, x9, x10, x11⟩ := x
  obtain ⟨y0, y1, y2, y3, y4, y5, y6, y7, y8, y9, y10, y11⟩ := y
  rw [decide_eq_true_iff]
  show [x0, x1, x2, x3, x4, x5, x6, x7, x8, x9, x10, x11] = [y0, y1, y2, y3, y4, y5, y6, y7, y8, y9, y10, y11] ↔ _
  simp only [List.cons.injEq, and_true, Prod.mk.injEq]
theorem eqD12n {x y : K12} (h : x ≠ y) : eqD Kiiiiiiiiiiii_ x y = false := by
  cases e : eqD Kiiiiiiiiiiii_ x y with
  | true => exact absurd ((eqD12 x y).1 e) h
  | false => rfl
theorem get_same {l : List (K12 × Bool)} {k : K12} {v z : Bool} : Miiiiiiiiiiii_b_get (Miiiiiiiiiiii_b_put l k v) k z = v := by
  unfold Miiiiiiiiiiii_b_get Miiiiiiiiiiii_b_put
  have e := (eqD12 k k).2 rfl
  induction l with
  | nil =>
    show mget (kt := Kiiiiiiiiiiii_) (vt := b_) [(k, v)] k z = _
    simp only [mget]
    rw [show eqD Kiiiiiiiiiiii_ k k = true from e]
  | cons p r ih =>
    simp only [mput]
    cases c : eqD Kiiiiiiiiiiii_ k p.1 with
    | true =>
      simp only [mget]
      rw [show eqD Kiiiiiiiiiiii_ k k = true from e]
    | false =>
      simp only [mget]
      rw [c]
      exact ih
theorem get_other {l : List (K12 × Bool)} {k k' : K12} {v z : Bool} (h : k' ≠ k) : Miiiiiiiiiiii_b_get (Miiiiiiiiiiii_b_put l k v) k' z = Miiiiiiiiiiii_b_get l k' z := by
  unfold Miiiiiiiiiiii_b_get Miiiiiiiiiiii_b_put
  have e := eqD12n h
  induction l with
  | nil =>
    show mget (kt := Kiiiiiiiiiiii_) (vt := b_) [(k, v)] k' z = _
    simp only [mget]
    rw [show eqD Kiiiiiiiiiiii_ k' k = false from e]
  | cons p r ih =>
    simp only [mput]
    cases c : eqD Kiiiiiiiiiiii_ k p.1 with
    | true =>
      simp only [mget]
      have q : k = p.1 := (eqD12 k p.1).1 c
      rw [show eqD Kiiiiiiiiiiii_ k' k = false from e, show eqD Kiiiiiiiiiiii_ k' p.1 = false from q ▸ e]
    | false =>
      simp only [mget]
      cases d : eqD Kiiiiiiiiiiii_ k' p.1 with
      | true => rfl
      | false => exact ih
theorem get_nil {k : K12} : Miiiiiiiiiiii_b_get [] k false = false := rfl
end Go.Proofs.Ytieocmcjecpgpaa.Am
