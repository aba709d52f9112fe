/- Slimmed by this session: what nothing names is struck out. -/
import Derived.Test.YteblbknmikieoaaWWords
import Derived.Test.YteblbknmikieoaaWMore
import Derived.Deep.Slices
import Derived.OpenShut
import Derived.WideShapes
import Derived.Carry
namespace Go.Proofs.Yteblbknmikieoaa.Opens
open Go.RowKit Go.WideShapes Go.Proofs.YteblbknmikieoaaW.PrintWords
set_option linter.unusedVariables false
def Opens {α : Type} (P : Program) (T : TypeId) (d : Kd α) (B : α → Prop) : Prop :=
  ∀ (H : Type) (enc : TypeId × Value → H) (w : World) (base : Nat) (spare : Nat → Bool) (held : Bool) (fuel : Nat) (cs : List Value) (x : DataW H × List MemPlace),
    DataW.trod enc P w base spare held fuel T cs = some x → ∃ a : α, d.K w a cs ∧ B a
section
variable {P : Program} {T e : TypeId} {α : Type} {d : Kd α} {B : α → Prop}
theorem opens_int {k : IntKind} (hu : P.underlying T = some (.int k)) : Opens P T (Kd.int k) (fun a => (Lit.int k a).wf = true) := by
  intro H enc w base spare held fuel cs x h
  obtain ⟨n, rfl, rfl, hw⟩ := DataW.trod_int hu h
  exact ⟨n, rfl, hw⟩
theorem opens_string (hu : P.underlying T = some .string) : Opens P T Kd.string (fun s => s.size ≤ maxLen) := by
  intro H enc w base spare held fuel cs x h
  obtain ⟨n, rfl, rfl, hs⟩ := DataW.trod_string hu h
  exact ⟨n, rfl, hs⟩
theorem cells_get {w : World} {base : Nat} {a : Addr} {n : Nat} {cs : List Value} (h : w.cells? base a n = some cs) : ∀ i u, cs[i]? = some u → w.cell? (a.add i) = some u := by
  intro i u hu
  unfold World.cells? at h
  split at h
  · have hl := mapM_some_length h
    have hi : i < cs.length := (List.getElem?_eq_some_iff.1 hu).1
    have hr : (List.range n)[i]? = some i := by
      rw [List.getElem?_range]
      rw [List.length_range] at hl
      omega
    have := mapM_some_get h i i hr
    rw [this]
    exact hu
  · cases h
theorem list_of {p : Nat → α → Prop} : ∀ n, (∀ i, i < n → ∃ a, p i a) → ∃ xs : List α, xs.length = n ∧ ∀ i a, xs[i]? = some a → p i a
  | 0, _ => ⟨[], rfl, fun i a h => by simp at h⟩
  | n + 1, h => by
    obtain ⟨xs, hl, hx⟩ := list_of n (fun i hi => h i (by omega))
    obtain ⟨a, ha⟩ := h n (by omega)
    refine ⟨xs ++ [a], by simp [hl], fun i b hb => ?_⟩
    by_cases hi : i < xs.length
    · rw [List.getElem?_append_left hi] at hb
      exact hx i b hb
    · rw [List.getElem?_append_right (by omega)] at hb
      have h1 : i - xs.length = 0 := by
        have := (List.getElem?_eq_some_iff.1 hb).1
        simp at this
        omega
      rw [h1] at hb
      simp at hb
      have : i = n := by omega
      rw [this, ← hb]
      exact ha
theorem opens_slice (hu : P.underlying T = some (.slice e)) (hs : P.cellsOf e = d.sz) (ho : Opens P e d B) : Opens P T (Kd.slice e d) (fun xs => xs.length ≤ maxLen ∧ ∀ a ∈ xs, B a) := by
  intro H enc w base spare held fuel cs x h
  rcases Deep.open_slice hu h with ⟨rfl, rfl⟩ | ⟨a, len, cap, m, n, D, Pl, rfl, hb, hl, hm, hmm, rfl, hel⟩
  · exact ⟨[], ⟨none, 0, rfl, Nat.le_refl _, Kd.C_nil d w⟩, Nat.zero_le _, fun a ha => by cases ha⟩
  · have hlm : len ≤ m := by rw [hmm]; split <;> omega
    obtain ⟨xs, hxl, hxs⟩ := list_of (p := fun i (z : α) => ∃ cs', w.cells? base (a.add (i * d.sz)) d.sz = some cs' ∧ d.K w z cs' ∧ B z) len (fun i hi => by
      obtain ⟨cs', hc, ht⟩ := hel i (by omega)
      rw [hs] at hc
      obtain ⟨z, hz, hB⟩ := ho H enc w base spare held n cs' _ ht
      exact ⟨z, cs', hc, hz, hB⟩)
    subst hxl
    refine ⟨xs, ⟨some a, cap, rfl, hl, rfl, by unfold maxLen at hm; omega, fun _ => ⟨a, rfl, fun j p hj => ?_⟩⟩, by omega, fun z hz => ?_⟩
    · obtain ⟨cs', hc, hK, _⟩ := hxs j p hj
      refine ⟨cs', d.K_len hK, hK, fun i u hu2 => ?_⟩
      rw [← Deep.add_add]
      exact cells_get hc i u hu2
    · obtain ⟨j, hj, rfl⟩ := List.mem_iff_getElem.1 hz
      obtain ⟨_, _, _, hB⟩ := hxs j _ (List.getElem?_eq_getElem hj)
      exact hB
theorem arg_slice {H : Type} {enc : TypeId × Value → H} {W : World} {r : Reach} {b0 base : Nat} {spare : Nat → Bool} {held : Bool} {v : Value} {y : DataW H} {p : List MemPlace} (hu : P.underlying T = some (.slice e)) {B' : List α → Prop} (ho : Opens P T (Kd.slice e d) B') (hv : Value.okWide P W r b0 T v)
    (h : DataW.Trod enc P W base spare held T v y p) : ∃ (A : Option Addr) (c : Nat) (xs : List α), v = .slice A xs.length c ∧ d.C W A xs.length xs ∧ xs.length ≤ c ∧ B' xs := by
  obtain ⟨a, len, cap, rfl⟩ := okWide_slice hu hv
  obtain ⟨fuel, hf⟩ := h
  obtain ⟨xs, ⟨A, c, hcs, hle, hC⟩, hB⟩ := ho _ _ _ _ _ _ _ _ _ hf
  simp only [Value.cells, List.cons.injEq, and_true] at hcs
  exact ⟨A, c, xs, hcs, hC, hle, hB⟩
theorem arg_agg {H : Type} {enc : TypeId × Value → H} {W : World} {r : Reach} {b0 base : Nat} {spare : Nat → Bool} {held : Bool} {v : Value} {y : DataW H} {p : List MemPlace} {fs : Array Field} (hu : P.underlying T = some (.struct fs)) (ho : Opens P T d B) (hv : Value.okWide P W r b0 T v)
    (h : DataW.Trod enc P W base spare held T v y p) : ∃ (cs : List Value) (a : α), v = .agg cs.toArray ∧ d.K W a cs ∧ B a := by
  obtain ⟨cs, rfl, hsz⟩ := okWide_struct hu hv
  obtain ⟨fuel, hf⟩ := h
  obtain ⟨a, hK, hB⟩ := ho _ _ _ _ _ _ _ _ _ hf
  exact ⟨_, a, by simp [Value.cells], hK, hB⟩
end
end Go.Proofs.Yteblbknmikieoaa.Opens
