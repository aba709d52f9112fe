/- SimParts, in plain Lean. -/
import Derived.Test.YtackhenokkolhaaPlSim2
import Derived.Test.YtackhenokkolhaaAmY
namespace Go.Proofs.Ytackhenokkolhaa.Am
set_option linter.unusedVariables false
set_option linter.unusedSimpArgs false
theorem at_take {t : Ty} {l : List t.D} {k j : Nat} (h : j < k) : at_ t (l.take k) (j : Int) = at_ t l (j : Int) := by
  unfold at_
  simp [List.getD_eq_getElem?_getD, List.getElem?_take, h]
theorem take_range {α : Type} {f g : Nat → α} {k m : Nat} (h : k ≤ m) (e : ∀ i, i < k → f i = g i) : ((List.range m).map f).take k = (List.range k).map g := by
  rw [← List.map_take, List.take_range, Nat.min_eq_left h]
  exact List.map_congr_left fun i hi => e i (List.mem_range.1 hi)
theorem lit_mod {a : Int} {k : IntKind} {m : Nat} (h : 0 ≤ a ∧ a ≤ 65535) (hm : 0 < m) (hm2 : m ≤ 1000000) : ∃ j : Nat, j < m ∧ Int.tmod (IntKind.wrap .i64 a) (m : Int) = (j : Int) := by
  rw [w64 (by omega) (by omega), tmodn (by omega)]
  have h0 := Int.emod_nonneg a (show (m : Int) ≠ 0 by omega)
  have h1 := Int.emod_lt_of_pos a (show (0 : Int) < m by omega)
  exact ⟨(a % (m : Int)).toNat, by omega, by omega⟩
theorem parts {N I C P Q} {l : Tr} {a : Int} (hl : U16r l) (ha : (Lit.int .u8 a).wf = true) : law11_SimParts big N I C P Q l a = some (true, ()) := by
  have hn : 1000 < big := by decide
  unfold law11_SimParts
  rw [head11, bindS]
  obtain ⟨g, hg, hs⟩ := great_f (n := big) (N := N) (I := I) (C := C) (P := P) (Q := Q)
  rw [hg, bindS]
  cases g with
  | true => rfl
  | false =>
  have s := hs rfl
  have s3 := s.c
  have s4 := s.p
  obtain ⟨b, hb, hr⟩ := right_f s hn
  simp only [cond_false, hb, bindS]
  cases b with
  | false => rfl
  | true =>
  have r := hr.1 rfl
  simp only [Bool.not_true, cond_false]
  rw [trace_f s r hn, bindS]
  have ft := trace_fit r hl
  have tl : (traceV N I l).length ≤ 64 := by rw [trace_len]; omega
  generalize traceV N I l = t at *
  simp only [succ64 (show t.length < 4611686018427387904 by omega)]
  rw [ask_of (by omega), states_f s r ft hn, bindS, run_f s r ft hn, bindS]
  simp only [cond_dec]
  rw [if_neg (by simp), if_neg (by simp)]
  obtain ⟨k, hk, e⟩ := lit_mod (k := .u8) (a := a) (m := t.length + 1) (by have := lit_u8 ha; omega) (by omega) (by omega)
  simp only [e, succ64 (show k < 4611686018427387904 by omega), Int.toNat_natCast, cond_true]
  have tk : (t.take k).length = k := by rw [List.length_take]; omega
  have fk : FitT N I (t.take k) := ⟨by omega, fun j hj => by
    rw [show KLi_at (t.take k) (j : Int) = KLi_at t (j : Int) from at_take (t := KLi_) (by omega)]
    exact ft.2 j (by omega)⟩
  obtain ⟨b1, hb1, hf1⟩ := simRight_f (t := t.take k) s r (by omega) hn
  have hb1' : b1 = true := hf1.2 ⟨by omega, fk.2⟩
  subst hb1'
  have cs : ∀ i, i ≤ k → sV N I C t i = sV N I C (t.take k) i := fun i hi => sV_congr i fun j hj => (at_take (t := KLi_) (by omega)).symm
  have cv : ∀ i, i < k → bitsV P (vV N I C t i) = bitsV P (vV N I C (t.take k) i) := fun i hi => by rw [vV_congr (u := t.take k) fun j hj => (at_take (t := KLi_) (by omega)).symm]
  rw [ask_of (by omega), hb1, bindS]
  simp only [cond_true]
  rw [ask_of (by omega), states_f s r fk hn, bindS, ask_of (by simp; omega)]
  simp only
  rw [take_range (g := sV N I C (t.take k)) (by omega) (fun i hi => cs i (by omega)), tk, sameRows_f (by simp; omega) (fun j hj => by
    rw [show KLi_at ((List.range (k + 1)).map (sV N I C (t.take k))) (j : Int) = sV N I C (t.take k) j from at_range (t := KLi_) (by simpa using hj), sV_len]
    omega) hn, bindS]
  simp only [cond_true]
  rw [ask_of (by omega), run_f s r fk hn, bindS, ask_of (by simp; omega)]
  simp only
  rw [take_range (g := fun i => bitsV P (vV N I C (t.take k) i)) (by omega) (fun i hi => cv i hi), tk, sameBits_f (by simp; omega) (fun j hj => by
    rw [show KLb_at ((List.range k).map (fun i => bitsV P (vV N I C (t.take k) i))) (j : Int) = bitsV P (vV N I C (t.take k) j) from at_range (t := KLb_) (by simpa using hj), bitsV_len]
    omega) hn, bindS]
end Go.Proofs.Ytackhenokkolhaa.Am
namespace Go.Proofs.Ytackhenokkolhaa.Pure
open Go.Proofs.Ytackhenokkolhaa.Am
theorem SimParts (d : law11_SimParts_s.I) (h : BAs law11_SimParts_s.ar d fun _ => True) : ∃ n, law11_SimParts n d.1 d.2.1 d.2.2.1 d.2.2.2.1 d.2.2.2.2.1 d.2.2.2.2.2.1 d.2.2.2.2.2.2.1 = some (true, ()) := by
  obtain ⟨-, -, -, -, -, h1, h2, -⟩ := h
  exact ⟨big, parts (fun x hx => (h1.2 x hx).2) h2⟩
end Go.Proofs.Ytackhenokkolhaa.Pure
