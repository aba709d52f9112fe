/- Beginnings of traces; a trace's number out of a raw one. -/
import Derived.Test.YtieocmcjecpgpaaPlSim2
namespace Go.Proofs.Ytieocmcjecpgpaa.Am
set_option linter.unusedVariables false
set_option linter.unusedSimpArgs false
theorem at_take {t : Ty} {l : List t.D} {k j : Nat} (h : j < k) : at_ t (l.take k) (j : Int) = at_ t l (j : Int) := by
  unfold at_
  simp [List.getD_eq_getElem?_getD, List.getElem?_take, h]
theorem at_appl {t : Ty} {l m : List t.D} {j : Nat} (h : j < l.length) : at_ t (l ++ m) (j : Int) = at_ t l (j : Int) := by
  unfold at_
  simp [List.getD_eq_getElem?_getD, List.getElem?_append, h]
theorem at_appr {t : Ty} {l m : List t.D} {j : Nat} (h : l.length ≤ j) : at_ t (l ++ m) (j : Int) = at_ t m ((j - l.length : Nat) : Int) := by
  unfold at_
  simp [List.getD_eq_getElem?_getD, List.getElem?_append, Nat.not_lt.2 h]
theorem take_range {α : Type} {f g : Nat → α} {k m : Nat} (h : k ≤ m) (e : ∀ i, i < k → f i = g i) : ((List.range m).map f).take k = (List.range k).map g := by
  rw [← List.map_take, List.take_range, Nat.min_eq_left h]
  exact List.map_congr_left fun i hi => e i (List.mem_range.1 hi)
theorem lit_mod {a : Int} {m : Nat} (h : 0 ≤ a ∧ a ≤ 65535) (hm : 0 < m) (hm2 : m ≤ 1000000) : ∃ j : Nat, j < m ∧ Int.tmod (IntKind.wrap .i64 a) (m : Int) = (j : Int) := by
  rw [w64 (by omega) (by omega), tmodn (by omega)]
  have h0 := Int.emod_nonneg a (show (m : Int) ≠ 0 by omega)
  have h1 := Int.emod_lt_of_pos a (show (0 : Int) < m by omega)
  exact ⟨(a % (m : Int)).toNat, by omega, by omega⟩
theorem lit_mod8 {a : Int} {m : Nat} (h : (Lit.int .u8 a).wf = true) (hm : 0 < m) (hm2 : m ≤ 1000000) : ∃ j : Nat, j < m ∧ Int.tmod (IntKind.wrap .i64 a) (m : Int) = (j : Int) := lit_mod (by have := lit_u8 h; omega) hm hm2
theorem fit_take {N I} {t : Tr} (ft : FitT N I t) (k : Nat) : FitT N I (t.take k) := by
  have h := ft.1
  refine ⟨by rw [List.length_take]; omega, fun j hj => ?_⟩
  rw [List.length_take] at hj
  rw [show KLi_at (t.take k) (j : Int) = KLi_at t (j : Int) from at_take (t := KLi_) (by omega)]
  exact ft.2 j (by omega)
end Go.Proofs.Ytieocmcjecpgpaa.Am
