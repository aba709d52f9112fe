/- A search, told plainly: states are found in order of their least traces. -/
import Derived.Test.YtieocmcjecpgpaaPl
namespace Go.Proofs.Ytieocmcjecpgpaa.Am
set_option linter.unusedVariables false
set_option linter.unusedSimpArgs false
set_option linter.unusedSectionVars false
/-- The first unlike number is less. -/
def llt : List Nat → List Nat → Prop
  | a :: x, b :: y => a < b ∨ a = b ∧ llt x y
  | _, _ => False
/-- Shorter, or as long and less. -/
def tlt (a b : List Nat) : Prop := a.length < b.length ∨ a.length = b.length ∧ llt a b
def tle (a b : List Nat) : Prop := a = b ∨ tlt a b
theorem llt_irr : ∀ a, ¬ llt a a
  | [], h => h
  | x :: a, h => by
    rcases h with h | h
    · omega
    · exact llt_irr a h.2
theorem llt_tr : ∀ {a b c}, llt a b → llt b c → llt a c
  | [], _, _, h, _ => h.elim
  | _ :: _, [], _, h, _ => h.elim
  | _ :: _, _ :: _, [], _, h => h.elim
  | x :: a, y :: b, z :: c, h, k => by
    rcases h with h | h <;> rcases k with k | k
    · exact .inl (by omega)
    · exact .inl (by omega)
    · exact .inl (by omega)
    · exact .inr ⟨by omega, llt_tr h.2 k.2⟩
theorem tlt_irr (a) : ¬ tlt a a := fun h => by
  rcases h with h | h
  · omega
  · exact llt_irr a h.2
theorem tlt_tr {a b c} (h : tlt a b) (k : tlt b c) : tlt a c := by
  rcases h with h | h <;> rcases k with k | k
  · exact .inl (by omega)
  · exact .inl (by omega)
  · exact .inl (by omega)
  · exact .inr ⟨by omega, llt_tr h.2 k.2⟩
theorem tle_tr {a b c} (h : tle a b) (k : tle b c) : tle a c := by
  rcases h with rfl | h
  · exact k
  · rcases k with rfl | k
    · exact .inr h
    · exact .inr (tlt_tr h k)
theorem llt_snoc {x y} : ∀ {a b : List Nat}, llt a b → llt (a ++ [x]) (b ++ [y])
  | [], _, h => h.elim
  | _ :: _, [], h => h.elim
  | u :: a, v :: b, h => by
    rcases h with h | h
    · exact .inl h
    · exact .inr ⟨h.1, llt_snoc h.2⟩
theorem tlt_snoc {a b : List Nat} {x y : Nat} (h : tlt a b) : tlt (a ++ [x]) (b ++ [y]) := by
  rcases h with h | h
  · exact .inl (by simp; exact h)
  · exact .inr ⟨by simp; exact h.1, llt_snoc h.2⟩
theorem llt_last {x y : Nat} (h : x < y) : ∀ a : List Nat, llt (a ++ [x]) (a ++ [y])
  | [] => .inl h
  | u :: a => .inr ⟨rfl, llt_last h a⟩
theorem tlt_last {a : List Nat} {x y : Nat} (h : x < y) : tlt (a ++ [x]) (a ++ [y]) := .inr ⟨by simp, llt_last h a⟩
theorem tlt_app (a : List Nat) (x : Nat) : tlt a (a ++ [x]) := .inl (by simp)
theorem tle_snoc {a b : List Nat} {x : Nat} (h : tle a b) : tle (a ++ [x]) (b ++ [x]) := by
  rcases h with rfl | h
  · exact .inl rfl
  · exact .inr (tlt_snoc h)
theorem tlt_tle {a b c} (h : tlt a b) (k : tle b c) : tlt a c := by
  rcases k with rfl | k
  · exact h
  · exact tlt_tr h k
theorem tle_len {a b} (h : tle a b) : a.length ≤ b.length := by
  rcases h with rfl | h | h
  · omega
  · omega
  · omega
/-- What is searched: how many rows, which are legal, which hit, and where they lead. -/
structure Sys (σ : Type) where
  m : Nat
  L : σ → Nat → Bool
  H : σ → Nat → Bool
  A : σ → Nat → σ
  s0 : σ
section
variable {σ : Type} [DecidableEq σ]
def mem1 (s : σ) (l : List (σ × List Nat)) : Bool := l.any fun e => decide (e.1 = s)
def add1 (s : σ) (t : List Nat) (l : List (σ × List Nat)) : List (σ × List Nat) := match mem1 s l with | true => l | false => l ++ [(s, t)]
def rowsX (S : Sys σ) (e : σ × List Nat) : Nat → Nat → List (σ × List Nat) → Option Nat × List (σ × List Nat)
  | 0, _, l => (none, l)
  | d + 1, k, l => match S.L e.1 k with
    | false => rowsX S e d (k + 1) l
    | true => match S.H e.1 k with
      | true => (some k, l)
      | false => rowsX S e d (k + 1) (add1 (S.A e.1 k) (e.2 ++ [k]) l)
def srch (S : Sys σ) : Nat → Nat → List (σ × List Nat) → Option (Option (Nat × Nat) × List (σ × List Nat))
  | 0, _, _ => none
  | f + 1, i, l => match l[i]? with
    | none => some (none, l)
    | some e => match rowsX S e S.m 0 l with
      | (some k, l') => some (some (i, k), l')
      | (none, l') => srch S f (i + 1) l'
theorem mem1_iff {s : σ} {l : List (σ × List Nat)} : mem1 s l = true ↔ ∃ (b : Nat) (e : σ × List Nat), l[b]? = some e ∧ e.1 = s := by
  unfold mem1
  rw [List.any_eq_true]
  constructor
  · rintro ⟨e, he, h⟩
    obtain ⟨b, hb⟩ := List.getElem?_of_mem he
    exact ⟨b, e, hb, of_decide_eq_true h⟩
  · rintro ⟨b, e, hb, h⟩
    exact ⟨e, List.mem_of_getElem? hb, decide_eq_true h⟩
/-- What holds ahead of a row of a state. -/
structure Inv (S : Sys σ) (i k : Nat) (l : List (σ × List Nat)) : Prop where
  z : l[0]? = some (S.s0, [])
  nd : ∀ (a b : Nat) ea eb, l[a]? = some ea → l[b]? = some eb → ea.1 = eb.1 → a = b
  up : ∀ (b : Nat) e, l[b]? = some e → (b = 0 ∧ e.2 = []) ∨ ∃ (a : Nat) (ea : σ × List Nat) (k' : Nat), a < b ∧ (a < i ∨ a = i ∧ k' < k) ∧ l[a]? = some ea ∧ k' < S.m ∧ S.L ea.1 k' = true ∧ e = (S.A ea.1 k', ea.2 ++ [k'])
  ord : ∀ (a b : Nat) ea eb, a < b → l[a]? = some ea → l[b]? = some eb → tlt ea.2 eb.2
  cl : ∀ (a : Nat) e k', (a < i ∨ a = i ∧ k' < k) → l[a]? = some e → k' < S.m → S.L e.1 k' = true → S.H e.1 k' = false ∧ ∃ (b : Nat) (eb : σ × List Nat), l[b]? = some eb ∧ eb.1 = S.A e.1 k' ∧ tle eb.2 (e.2 ++ [k'])
variable {S : Sys σ} {i k : Nat} {l : List (σ × List Nat)}
theorem getE_app {α : Type} {l r : List α} {a : Nat} {e : α} (h : l[a]? = some e) : (l ++ r)[a]? = some e := by
  rw [List.getElem?_append_left (List.getElem?_eq_some_iff.1 h).1]; exact h
theorem getE_snoc {α : Type} {l : List α} {a : Nat} {x e : α} (h : (l ++ [x])[a]? = some e) : l[a]? = some e ∨ a = l.length ∧ e = x := by
  by_cases c : a < l.length
  · rw [List.getElem?_append_left c] at h; exact .inl h
  · rw [List.getElem?_append_right (by omega)] at h
    cases q : a - l.length with
    | zero => rw [q] at h; simp at h; exact .inr ⟨by omega, h.symm⟩
    | succ n => rw [q] at h; simp at h
theorem Inv.low (h : Inv S i k l) {e : σ × List Nat} (he : l[i]? = some e) {b : Nat} {eb : σ × List Nat} (hb : l[b]? = some eb) : tlt eb.2 (e.2 ++ [k]) := by
  rcases h.up b eb hb with ⟨-, q⟩ | ⟨a, ea, k', h1, h2, h3, h4, h5, rfl⟩
  · rw [q]; exact .inl (by simp)
  · rcases h2 with h2 | ⟨rfl, h2⟩
    · exact tlt_snoc (h.ord a i ea e h2 h3 he)
    · rw [he] at h3
      cases h3
      exact tlt_last h2
theorem Inv.skip (h : Inv S i k l) {e : σ × List Nat} (he : l[i]? = some e) (hL : S.L e.1 k = false) : Inv S i (k + 1) l := by
  refine ⟨h.z, h.nd, fun b eb hb => ?_, h.ord, fun a ea k' ha hea hk hl => ?_⟩
  · rcases h.up b eb hb with q | ⟨a, ea, k', h1, h2, h3⟩
    · exact .inl q
    · exact .inr ⟨a, ea, k', h1, by omega, h3⟩
  · by_cases c : a < i ∨ a = i ∧ k' < k
    · exact h.cl a ea k' c hea hk hl
    · have : a = i ∧ k' = k := by omega
      obtain ⟨rfl, rfl⟩ := this
      rw [he] at hea
      cases hea
      rw [hL] at hl
      cases hl
theorem Inv.go (h : Inv S i k l) {e : σ × List Nat} (he : l[i]? = some e) (hk : k < S.m) (hL : S.L e.1 k = true) (hH : S.H e.1 k = false) : Inv S i (k + 1) (add1 (S.A e.1 k) (e.2 ++ [k]) l) := by
  unfold add1
  cases hm : mem1 (S.A e.1 k) l with
  | true =>
    obtain ⟨b, eb, hb, hs⟩ := mem1_iff.1 hm
    refine ⟨h.z, h.nd, fun b eb hb => ?_, h.ord, fun a ea k' ha hea hk' hl => ?_⟩
    · rcases h.up b eb hb with q | ⟨a, ea, k', h1, h2, h3⟩
      · exact .inl q
      · exact .inr ⟨a, ea, k', h1, by omega, h3⟩
    · by_cases c : a < i ∨ a = i ∧ k' < k
      · exact h.cl a ea k' c hea hk' hl
      · have : a = i ∧ k' = k := by omega
        obtain ⟨rfl, rfl⟩ := this
        rw [he] at hea
        cases hea
        exact ⟨hH, b, eb, hb, hs, .inr (h.low he hb)⟩
  | false =>
    have hn : ∀ (b : Nat) eb, l[b]? = some eb → eb.1 ≠ S.A e.1 k := fun b eb hb hs => by
      rw [mem1_iff.2 ⟨b, eb, hb, hs⟩] at hm; cases hm
    show Inv S i (k + 1) (l ++ [(S.A e.1 k, e.2 ++ [k])])
    have hi := (List.getElem?_eq_some_iff.1 he).1
    have new : (l ++ [(S.A e.1 k, e.2 ++ [k])])[l.length]? = some (S.A e.1 k, e.2 ++ [k]) := by simp
    refine ⟨getE_app h.z, fun a b ea eb ha hb hs => ?_, fun b eb hb => ?_, fun a b ea eb hab ha hb => ?_, fun a ea k' ha hea hk' hl => ?_⟩
    · rcases getE_snoc ha with ha | ⟨rfl, rfl⟩ <;> rcases getE_snoc hb with hb | ⟨rfl, rfl⟩
      · exact h.nd a b ea eb ha hb hs
      · exact absurd hs (hn a ea ha)
      · exact absurd hs.symm (hn b eb hb)
      · rfl
    · rcases getE_snoc hb with hb | ⟨rfl, rfl⟩
      · rcases h.up b eb hb with q | ⟨a, ea, k', h1, h2, h3, h4⟩
        · exact .inl q
        · exact .inr ⟨a, ea, k', h1, by omega, getE_app h3, h4⟩
      · exact .inr ⟨i, e, k, hi, by omega, getE_app he, hk, hL, rfl⟩
    · rcases getE_snoc ha with ha | ⟨rfl, rfl⟩ <;> rcases getE_snoc hb with hb | ⟨rfl, rfl⟩
      · exact h.ord a b ea eb hab ha hb
      · exact h.low he ha
      · have := (List.getElem?_eq_some_iff.1 hb).1; omega
      · omega
    · rcases getE_snoc hea with he2 | ⟨rfl, rfl⟩
      · by_cases c : a < i ∨ a = i ∧ k' < k
        · obtain ⟨q1, b, eb, q2, q3⟩ := h.cl a ea k' c he2 hk' hl
          exact ⟨q1, b, eb, getE_app q2, q3⟩
        · have : a = i ∧ k' = k := by omega
          obtain ⟨rfl, rfl⟩ := this
          rw [he] at he2
          cases he2
          exact ⟨hH, l.length, _, new, rfl, .inl rfl⟩
      · omega
theorem add1_pre {s : σ} {t : List Nat} : ∃ r, add1 s t l = l ++ r := by
  unfold add1
  split
  · exact ⟨[], by simp⟩
  · exact ⟨_, rfl⟩
theorem rowsX_inv {e : σ × List Nat} : ∀ (d : Nat) {k : Nat} {l : List (σ × List Nat)}, k + d = S.m → Inv S i k l → l[i]? = some e → ∃ r, ((rowsX S e d k l).2 = l ++ r) ∧ ((rowsX S e d k l).1 = none ∧ Inv S i S.m (rowsX S e d k l).2 ∨ ∃ k', (rowsX S e d k l).1 = some k' ∧ k' < S.m ∧ Inv S i k' (rowsX S e d k l).2 ∧ S.L e.1 k' = true ∧ S.H e.1 k' = true)
  | 0, k, l, hk, h, he => ⟨[], by simp [rowsX], .inl ⟨rfl, by rw [show S.m = k by omega]; exact h⟩⟩
  | d + 1, k, l, hk, h, he => by
    unfold rowsX
    cases hL : S.L e.1 k with
    | false => exact rowsX_inv d (by omega) (h.skip he hL) he
    | true =>
      cases hH : S.H e.1 k with
      | true => exact ⟨[], by simp, .inr ⟨k, rfl, by omega, h, hL, hH⟩⟩
      | false =>
        obtain ⟨r, hr⟩ := add1_pre (l := l) (s := S.A e.1 k) (t := e.2 ++ [k])
        obtain ⟨r2, h1, h2⟩ := rowsX_inv d (k := k + 1) (by omega) (h.go he (by omega) hL hH) (by rw [hr]; exact getE_app he)
        exact ⟨r ++ r2, h1.trans (by rw [hr, List.append_assoc]), h2⟩
theorem Inv.next (h : Inv S i S.m l) : Inv S (i + 1) 0 l :=
  ⟨h.z, h.nd, fun b e hb => by
    rcases h.up b e hb with q | ⟨a, ea, k', h1, h2, h3⟩
    · exact .inl q
    · exact .inr ⟨a, ea, k', h1, by omega, h3⟩, h.ord, fun a e k' ha he hk hl => h.cl a e k' (by omega) he hk hl⟩
theorem Inv.start : Inv S 0 0 [(S.s0, [])] := by
  have one : ∀ {a : Nat} {e : σ × List Nat}, [(S.s0, ([] : List Nat))][a]? = some e → a = 0 ∧ e = (S.s0, []) := fun {a e} h => by
    cases a with
    | zero => simp at h; exact ⟨rfl, h.symm⟩
    | succ a => simp at h
  refine ⟨rfl, fun a b ea eb ha hb _ => by rw [(one ha).1, (one hb).1], fun b e hb => .inl ⟨(one hb).1, by rw [(one hb).2]⟩, fun a b ea eb hab ha hb => ?_, fun a e k' ha => by omega⟩
  have := (one ha).1
  have := (one hb).1
  omega
/-- What a search ends with. -/
def Found (S : Sys σ) (r : Option (Nat × Nat) × List (σ × List Nat)) : Prop := match r with
  | (none, l) => Inv S l.length 0 l
  | (some (i, k), l) => Inv S i k l ∧ k < S.m ∧ ∃ e, l[i]? = some e ∧ S.L e.1 k = true ∧ S.H e.1 k = true
theorem srch_inv : ∀ (f : Nat) {i : Nat} {l : List (σ × List Nat)} {r}, Inv S i 0 l → i ≤ l.length → srch S f i l = some r → Found S r
  | 0, _, _, _, _, _, h => by cases h
  | f + 1, i, l, r, hi, hil, h => by
    unfold srch at h
    split at h
    · rename_i hn
      cases h
      have : l.length = i := by have := List.getElem?_eq_none_iff.1 hn; omega
      show Inv S l.length 0 l
      rw [this]; exact hi
    · rename_i e he
      obtain ⟨r2, h1, h2⟩ := rowsX_inv S.m (by omega) hi he
      split at h
      · rename_i k' l' hr
        rw [hr] at h1 h2
        cases h
        rcases h2 with ⟨q, -⟩ | ⟨k2, q, q2, q3, q4, q5⟩
        · cases q
        · cases q
          refine ⟨q3, q2, e, ?_, q4, q5⟩
          have h1 : l' = l ++ r2 := h1
          rw [h1]; exact getE_app he
      · rename_i l' hr
        rw [hr] at h1 h2
        rcases h2 with ⟨-, q⟩ | ⟨k2, q, -⟩
        · have hl := (List.getElem?_eq_some_iff.1 he).1
          have h1 : l' = l ++ r2 := h1
          exact srch_inv f q.next (by rw [h1]; simp; omega) h
        · cases q
theorem srch_ends {M : Nat} (hM : ∀ i k l, Inv S i k l → l.length ≤ M) : ∀ (f : Nat) {i : Nat} {l : List (σ × List Nat)}, Inv S i 0 l → M < f + i → i ≤ l.length → ∃ r, srch S f i l = some r
  | 0, i, l, hi, hf, hil => by have := hM _ _ _ hi; omega
  | f + 1, i, l, hi, hf, hil => by
    unfold srch
    split
    · exact ⟨_, rfl⟩
    · rename_i e he
      obtain ⟨r2, h1, h2⟩ := rowsX_inv S.m (by omega) hi he
      split
      · exact ⟨_, rfl⟩
      · rename_i l' hr
        rw [hr] at h1 h2
        rcases h2 with ⟨-, q⟩ | ⟨k2, q, -⟩
        · have hl := (List.getElem?_eq_some_iff.1 he).1
          have h1 : l' = l ++ r2 := h1
          exact srch_ends hM f q.next (by omega) (by rw [h1]; simp; omega)
        · cases q
/-- Where legal rows lead. -/
def run (S : Sys σ) : σ → List Nat → Option σ
  | s, [] => some s
  | s, k :: r => if k < S.m ∧ S.L s k = true then run S (S.A s k) r else none
theorem run_snoc : ∀ {t : List Nat} {s s' : σ} {k : Nat}, run S s (t ++ [k]) = some s' ↔ ∃ u, run S s t = some u ∧ k < S.m ∧ S.L u k = true ∧ s' = S.A u k
  | [], s, s', k => by
    simp only [List.nil_append, run]
    constructor
    · intro h
      split at h
      · rename_i c; cases h; exact ⟨s, rfl, c.1, c.2, rfl⟩
      · cases h
    · rintro ⟨u, h, h1, h2, rfl⟩
      cases h
      rw [if_pos ⟨h1, h2⟩]
  | a :: t, s, s', k => by
    simp only [List.cons_append, run]
    split
    · exact run_snoc
    · constructor
      · intro h; cases h
      · rintro ⟨u, h, -⟩; cases h
theorem Inv.path (h : Inv S i k l) : ∀ (b : Nat) e, l[b]? = some e → run S S.s0 e.2 = some e.1 := by
  intro b
  induction b using Nat.strongRecOn with
  | _ b ih =>
    intro e hb
    rcases h.up b e hb with ⟨rfl, q⟩ | ⟨a, ea, k', h1, -, h3, h4, h5, rfl⟩
    · rw [h.z] at hb
      cases hb
      rfl
    · exact run_snoc.2 ⟨ea.1, ih a h1 ea h3, h4, h5, rfl⟩
theorem Inv.len (h : Inv S i k l) : ∀ (b : Nat) e, l[b]? = some e → e.2.length ≤ b := by
  intro b
  induction b using Nat.strongRecOn with
  | _ b ih =>
    intro e hb
    rcases h.up b e hb with ⟨rfl, q⟩ | ⟨a, ea, k', h1, -, h3, h4, h5, rfl⟩
    · rw [q]; simp
    · have := ih a h1 ea h3
      simp only [List.length_append, List.length_cons, List.length_nil]
      omega
theorem Inv.rows (h : Inv S i k l) {b : Nat} {e : σ × List Nat} (hb : l[b]? = some e) : ∀ x ∈ e.2, x < S.m := by
  have key : ∀ (t : List Nat) (s s' : σ), run S s t = some s' → ∀ x ∈ t, x < S.m := by
    intro t
    induction t with
    | nil => intro s s' _ x hx; cases hx
    | cons a t ih =>
      intro s s' hr x hx
      unfold run at hr
      split at hr
      · rename_i c
        rcases List.mem_cons.1 hx with rfl | hx
        · exact c.1
        · exact ih _ _ hr x hx
      · cases hr
  exact key _ _ _ (h.path b e hb)
/-- A legal trace leads to a state that was found by a trace no greater; or it isn't ahead of where the search stands. -/
theorem Inv.reach (h : Inv S i k l) : ∀ (n : Nat) (t : List Nat) (s : σ), t.length = n → run S S.s0 t = some s → (∃ (b : Nat) (eb : σ × List Nat), l[b]? = some eb ∧ eb.1 = s ∧ tle eb.2 t) ∨ (l.length ≤ i → False) ∧ ∀ e, l[i]? = some e → tle (e.2 ++ [k]) t := by
  intro n
  induction n with
  | zero =>
    intro t s ht hr
    cases List.eq_nil_of_length_eq_zero ht
    cases hr
    exact .inl ⟨0, _, h.z, rfl, .inl rfl⟩
  | succ n ih =>
    intro t s ht hr
    obtain ⟨t0, k0, rfl⟩ : ∃ t0 k0, t = t0 ++ [k0] := ⟨t.dropLast, t.getLast (by intro c; subst c; simp at ht), (List.dropLast_concat_getLast _).symm⟩
    obtain ⟨u, hu, hk, hL, rfl⟩ := run_snoc.1 hr
    simp only [List.length_append, List.length_cons, List.length_nil] at ht
    rcases ih t0 u (by omega) hu with ⟨b, eb, hb, rfl, hle⟩ | ⟨q1, q2⟩
    · by_cases c : b < i ∨ b = i ∧ k0 < k
      · obtain ⟨-, b', eb', q1, q2, q3⟩ := h.cl b eb k0 c hb hk hL
        exact .inl ⟨b', eb', q1, q2, tle_tr q3 (tle_snoc hle)⟩
      · refine .inr ⟨fun q => ?_, fun e he => ?_⟩
        · have := (List.getElem?_eq_some_iff.1 hb).1; omega
        · by_cases d : b = i
          · subst d
            rw [he] at hb
            cases hb
            have hk0 : k ≤ k0 := by omega
            refine tle_tr ?_ (tle_snoc hle)
            rcases Nat.eq_or_lt_of_le hk0 with rfl | q
            · exact .inl rfl
            · exact .inr (tlt_last q)
          · exact .inr (tlt_tle (tlt_snoc (h.ord i b e eb (by omega) he hb)) (tle_snoc hle))
    · exact .inr ⟨q1, fun e he => .inr (by
        have := q2 e he
        rcases this with q | q
        · rw [q]; exact tlt_app _ _
        · exact tlt_tr q (tlt_app _ _))⟩
/-- A hit is not ahead of the one that is found. -/
theorem Found.hit {i k : Nat} (h : Found S (some (i, k), l)) {e : σ × List Nat} (he : l[i]? = some e) {t : List Nat} {s : σ} {k' : Nat} (hr : run S S.s0 t = some s) (hk : k' < S.m) (hL : S.L s k' = true) (hH : S.H s k' = true) : tle (e.2 ++ [k]) (t ++ [k']) := by
  obtain ⟨h, -, -⟩ := h
  rcases h.reach _ t s rfl hr with ⟨b, eb, hb, rfl, hle⟩ | ⟨-, q⟩
  · by_cases c : b < i ∨ b = i ∧ k' < k
    · have := (h.cl b eb k' c hb hk hL).1
      rw [hH] at this; cases this
    · refine tle_tr ?_ (tle_snoc hle)
      by_cases d : b = i
      · subst d
        rw [he] at hb
        cases hb
        have hk0 : k ≤ k' := by omega
        rcases Nat.eq_or_lt_of_le hk0 with rfl | q
        · exact .inl rfl
        · exact .inr (tlt_last q)
      · exact .inr (tlt_snoc (h.ord i b e eb (by omega) he hb))
  · rcases q e he with q | q
    · rw [q]; exact .inr (tlt_app _ _)
    · exact .inr (tlt_tr q (tlt_app _ _))
theorem Found.all (h : Found S (none, l)) {t : List Nat} {s : σ} (hr : run S S.s0 t = some s) : ∃ (b : Nat) (eb : σ × List Nat), l[b]? = some eb ∧ eb.1 = s ∧ tle eb.2 t := by
  have h : Inv S l.length 0 l := h
  rcases h.reach _ t s rfl hr with q | ⟨q, -⟩
  · exact q
  · exact absurd (Nat.le_refl _) q
theorem Found.no (h : Found S (none, l)) {t : List Nat} {s : σ} {k' : Nat} (hr : run S S.s0 t = some s) (hk : k' < S.m) (hL : S.L s k' = true) : S.H s k' = false := by
  obtain ⟨b, eb, hb, rfl, -⟩ := h.all hr
  have h : Inv S l.length 0 l := h
  exact (h.cl b eb k' (.inl (List.getElem?_eq_some_iff.1 hb).1) hb hk hL).1
end
end Go.Proofs.Ytieocmcjecpgpaa.Am
