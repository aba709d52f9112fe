/- ReachTurned, in plain Lean. -/
import Derived.Test.YtieocmcjecpgpaaPrM
import Derived.Test.YtieocmcjecpgpaaPrH
import Derived.Test.YtieocmcjecpgpaaAmY
namespace Go.Proofs.Ytieocmcjecpgpaa.Am
set_option linter.unusedVariables false
set_option linter.unusedSimpArgs false
section
variable {N : List Nd} {I : List Pn} {C : List Cl} {P P' : List Pw} {Q : List Pn} {x : Nd} {n : Nat}
theorem sameV2_f {a b : Int} {t : Tr} (ht : t.length ≤ 1000) (hr : ∀ k : Nat, k < t.length → (KLi_at t (k : Int)).length ≤ 1000) (hn : 1000 < n) : ref12_Same n a b t [] a b t [] = some (true, ()) := by
  unfold ref12_Same
  simp only [cond_dec]
  rw [if_pos trivial, if_pos trivial, sameRows_f ht hr hn, bindS]
  simp only [cond_true]
  rw [sameRows_f (x := []) (by simp) (fun k hk => by simp at hk) hn, bindS]
theorem tellV2_ok (r : RightP N I C P Q) {p : Int} : (tellV N I C P p).2.2.1.length ≤ 1000 ∧ ∀ k : Nat, k < (tellV N I C P p).2.2.1.length → (KLi_at (tellV N I C P p).2.2.1 (k : Int)).length ≤ 1000 := by
  have hI := r.i
  unfold tellV
  cases badP P p with
  | true => exact ⟨by simp, fun k hk => by simp at hk⟩
  | false =>
    cases smB N with
    | false => exact ⟨by simp, fun k hk => by simp at hk⟩
    | true =>
      simp only
      generalize resN N I C P p = x
      obtain ⟨x1, l⟩ := x
      cases x1 with
      | none => exact ⟨by simp [tellR], fun k hk => by simp [tellR] at hk⟩
      | some ik =>
        obtain ⟨i, k⟩ := ik
        simp only [tellR]
        by_cases c : ((l[i]?).getD ([], [])).2.length < 64
        · rw [if_pos c]
          refine ⟨by simp; omega, fun j hj => ?_⟩
          rw [show KLi_at ((((l[i]?).getD ([], [])).2 ++ [k]).map (rowV N I)) (j : Int) = _ from at_nat (t := KLi_) hj, List.getElem_map, row_len]
          omega
        · rw [if_neg c]
          exact ⟨by simp, fun k hk => by simp at hk⟩
/-- A property, turned: its opposite's node, and the other kind. -/
def inv1 (a : Int) : Nd := (3, 1, a, 0, 0, 0, 0)
def tp (P : List Pw) (N : List Nd) (q : Nat) : List Pw := P.set q (18 - (Kisi_at P (q : Int)).1, ByteArray.empty, (N.length : Int))
theorem tp_at {q j : Nat} (hq : q < P.length) : Kisi_at (tp P N q) (j : Int) = if q = j then (18 - (Kisi_at P (q : Int)).1, ByteArray.empty, (N.length : Int)) else Kisi_at P (j : Int) := at_set (t := Kisi_) hq
theorem inv_node (r : RightP N I C P Q) {q : Nat} (hq : q < P.length) : NodeP (N ++ [inv1 (Kisi_at P (q : Int)).2.2]) N.length := by
  have e := xd_new (N := N) (x := inv1 (Kisi_at P (q : Int)).2.2)
  have h3 := (r.prop q hq).2.2
  refine ⟨by rw [e]; simp [inv1], by rw [e]; simp [inv1], by rw [e]; show 0 ≤ opk 3; decide, by rw [e]; exact fun h => absurd h (show ¬ opk 3 < 1 by decide), by rw [e]; exact fun _ => rfl, by rw [e]; exact fun _ => rfl, ?_⟩
  rw [e]
  refine .inr (.inr (.inl ⟨rfl, rfl, rfl, ?_⟩))
  rw [xid_old (Int.le_refl _)]
  exact h3
theorem turned_right (r : RightP N I C P Q) (hN : N.length ≤ 300) {q : Nat} (hq : q < P.length) (h9 : (Kisi_at P (q : Int)).1 ≠ 9) : RightP (N ++ [inv1 (Kisi_at P (q : Int)).2.2]) I C (tp P N q) Q := by
  have hl : (tp P N q).length = P.length := by simp [tp]
  refine right_app r hN (inv_node r hq) (by simp [inv1]) (by simp [inv1]) (by rw [hl]; exact r.p) fun j hj => ?_
  rw [hl] at hj
  rw [tp_at hq]
  have hp := r.prop q hq
  have k1 := hp.1
  have k2 := hp.2.1
  by_cases c : q = j
  · rw [if_pos c]
    refine ⟨by simp only; omega, by simp only; omega, ?_⟩
    rw [show (N ++ [inv1 (Kisi_at P (q : Int)).2.2]).length = N.length + 1 by simp]
    unfold wid
    rw [if_neg (by simp only; omega)]
    simp only [xd_new]
    rfl
  · rw [if_neg c]
    exact xrop (r.prop j hj)
theorem turned_tell (r : RightP N I C P Q) (hN : N.length ≤ 300) {q : Nat} (hq : q < P.length) (h9 : (Kisi_at P (q : Int)).1 ≠ 9) : tellV (N ++ [inv1 (Kisi_at P (q : Int)).2.2]) I C (tp P N q) (q : Int) = tellV N I C P (q : Int) := by
  have hl : (tp P N q).length = P.length := by simp [tp]
  have h21 : (inv1 (Kisi_at P (q : Int)).2.2).1 ≠ 21 := by simp [inv1]
  have h22 : (inv1 (Kisi_at P (q : Int)).2.2).1 ≠ 22 := by simp [inv1]
  have hp := r.prop q hq
  have k1 := hp.1
  have k2 := hp.2.1
  obtain ⟨r1, r2⟩ := rows_more (x := inv1 (Kisi_at P (q : Int)).2.2) r
  have eb : badP (tp P N q) (q : Int) = badP P (q : Int) := by
    unfold badP
    rw [if_neg (by omega), if_neg (by omega), if_neg (by omega), if_neg (by omega), tp_at hq, if_pos rfl, decide_eq_false h9, decide_eq_false (by simp only; omega)]
  have es := sw_more (N := N) h21 h22
  have er : resN (N ++ [inv1 (Kisi_at P (q : Int)).2.2]) I C (tp P N q) (q : Int) = resN N I C P (q : Int) := by
    unfold resN
    rw [srch_congr (S := sysN N I C P (q : Int)) (S' := sysN (N ++ [inv1 (Kisi_at P (q : Int)).2.2]) I C (tp P N q) (q : Int)) (Pd := FitC N C) r2.symm (fun s k hs hk => ?_) 5000 0 [(firstV C, [])] (fun x hx => by cases List.mem_singleton.1 hx; exact fit_first r)]
    have hf := fit_row r k (N := N) (I := I)
    have hv := nums_evalV r hf hs
    have hvl := evalV_len N I C s (rowV N I k)
    have he := eval_more (x := inv1 (Kisi_at P (q : Int)).2.2) (st := s) (ins := rowV N I k) r h21 h22
    have hbit := prop_bit r hv hq
    obtain ⟨n0, n1, -⟩ := prop_node r hq
    have hd : doV (N ++ [inv1 (Kisi_at P (q : Int)).2.2]) (evalV N I C s (rowV N I k) ++ [0]) (inv1 (Kisi_at P (q : Int)).2.2) = 1 - Ki_at (evalV N I C s (rowV N I k)) (Kisi_at P (q : Int)).2.2 := by
      unfold doV inv1
      simp only
      rw [i_app n0 (by omega)]
      rw [do_inv (by omega) (by omega) (by unfold Num_; rw [p2_one]; omega)]
      rw [p2_one]
      simp only
      omega
    generalize hV : evalV N I C s (rowV N I k) = v at *
    have eL : legalB (tp P N q) (v ++ [1 - Ki_at v (Kisi_at P (q : Int)).2.2]) = legalB P v := by
      have : LegalP (tp P N q) (v ++ [1 - Ki_at v (Kisi_at P (q : Int)).2.2]) ↔ LegalP P v := by
        unfold LegalP
        rw [hl]
        have one : ∀ j : Nat, j < P.length → (((Kisi_at (tp P N q) (j : Int)).1 = 9 → Ki_at (v ++ [1 - Ki_at v (Kisi_at P (q : Int)).2.2]) (Kisi_at (tp P N q) (j : Int)).2.2 ≠ 0) ↔ ((Kisi_at P (j : Int)).1 = 9 → Ki_at v (Kisi_at P (j : Int)).2.2 ≠ 0)) := fun j hj => by
          rw [tp_at hq]
          by_cases c : q = j
          · subst c
            rw [if_pos rfl]
            exact ⟨fun _ h => absurd h h9, fun _ h => by simp only at h; omega⟩
          · rw [if_neg c]
            obtain ⟨m0, m1, -⟩ := prop_node r hj
            rw [i_app m0 (by omega)]
        exact ⟨fun h j hj => (one j hj).1 (h j hj), fun h j hj => (one j hj).2 (h j hj)⟩
      cases h : legalB P v with
      | true => exact legalB_iff.2 (this.2 (legalB_iff.1 h))
      | false => exact legalB_no.2 fun q => legalB_no.1 h (this.1 q)
    have eH : hitB (tp P N q) q (v ++ [1 - Ki_at v (Kisi_at P (q : Int)).2.2]) = hitB P q v := by
      unfold hitB
      rw [tp_at hq, if_pos rfl]
      simp only
      rw [show Ki_at (v ++ [1 - Ki_at v (Kisi_at P (q : Int)).2.2]) (N.length : Int) = _ from at_mid (t := i_) hvl]
      have k3 : (Kisi_at P (q : Int)).1 = 8 ∨ (Kisi_at P (q : Int)).1 = 10 := by omega
      rcases hbit with b | b <;> rcases k3 with c | c <;> rw [b, c] <;> rfl
    refine ⟨?_, fun _ => ?_, ?_, ?_⟩
    · show legalB P (evalV N I C s (rowV N I k)) = legalB (tp P N q) (evalV (N ++ [inv1 (Kisi_at P (q : Int)).2.2]) I C s (rowV (N ++ [inv1 (Kisi_at P (q : Int)).2.2]) I k))
      rw [r1, he, hd, eL, hV]
    · show (if (q : Int) < 0 then false else hitB P (q : Int).toNat (evalV N I C s (rowV N I k))) = (if (q : Int) < 0 then false else hitB (tp P N q) (q : Int).toNat (evalV (N ++ [inv1 (Kisi_at P (q : Int)).2.2]) I C s (rowV (N ++ [inv1 (Kisi_at P (q : Int)).2.2]) I k)))
      rw [if_neg (by omega), if_neg (by omega), r1, he, hd, Int.toNat_natCast, eH, hV]
    · show afterV C (evalV N I C s (rowV N I k)) = afterV C (evalV (N ++ [inv1 (Kisi_at P (q : Int)).2.2]) I C s (rowV (N ++ [inv1 (Kisi_at P (q : Int)).2.2]) I k))
      rw [r1, he, after_more r hvl, hV]
    · show FitC N C (afterV C (evalV N I C s (rowV N I k)))
      rw [hV]
      exact fit_after r hv
  have et : ∀ y, tellR (N ++ [inv1 (Kisi_at P (q : Int)).2.2]) I y = tellR N I y := fun y => by
    have ef : rowV (N ++ [inv1 (Kisi_at P (q : Int)).2.2]) I = rowV N I := funext r1
    obtain ⟨y1, l⟩ := y
    cases y1 with
    | none => rfl
    | some ik => simp only [tellR, ef]
  unfold tellV
  rw [eb, es, er, et]
end
theorem turneds {N I C P Q} {a : Int} (ha : (Lit.int .u8 a).wf = true) : law12_ReachTurned big N I C P Q a = some (true, ()) := by
  have hn : 20000 < big := by decide
  have hn2 : 1000 < big := by decide
  unfold law12_ReachTurned
  rw [head12, bindS]
  obtain ⟨g, hg, hs⟩ := great12_f (n := big) (N := N) (I := I) (C := C) (P := P) (Q := Q) (by decide)
  rw [hg, bindS]
  cases g with
  | true => rfl
  | false =>
    obtain ⟨s, r, hN⟩ := hs rfl
    have s4 := s.p
    simp only [cond_false, cond_dec]
    by_cases hP : (P.length : Int) = 0
    · rw [if_pos hP]
    rw [if_neg hP]
    by_cases h60 : (60 : Int) ≤ (N.length : Int)
    · rw [if_pos h60]
    obtain ⟨q, hq, e⟩ := lit_mod8 (m := P.length) ha (by omega) (by have := r.p; omega)
    rw [if_neg h60, ask_of hP, e]
    simp only [List.nil_append]
    rw [ask_of ⟨trivial, by simp; omega⟩, ask_of (by omega), ask_of ⟨trivial, by simp; omega⟩, ask_of ⟨trivial, by simp; omega⟩, ask_of (by omega)]
    by_cases h9 : (Kisi_at P (q : Int)).1 = 9
    · rw [if_pos h9]
    have hp := r.prop q hq
    have k1 := hp.1
    have k2 := hp.2.1
    rw [if_neg h9, ask_of (by omega), tell_f s r hn, bindS, w64 (n := (18 : Int) - (Kisi_at P (q : Int)).1) (by omega) (by omega), Int.toNat_natCast]
    have s' : Small (N ++ [inv1 (Kisi_at P (q : Int)).2.2]) I C (tp P N q) Q := ⟨by simp; omega, s.i, s.c, by simp [tp]; omega, s.q⟩
    have ht := tell_f (n := big) (p := (q : Int)) s' (turned_right r (by omega) hq h9) hn
    rw [turned_tell r (by omega) hq h9] at ht
    rw [show N ++ [((3 : Int), (1 : Int), (Kisi_at P (q : Int)).2.2, (0 : Int), (0 : Int), (0 : Int), (0 : Int))] = N ++ [inv1 (Kisi_at P (q : Int)).2.2] from rfl, show P.set q (18 - (Kisi_at P (q : Int)).1, ByteArray.empty, (N.length : Int)) = tp P N q from rfl, ht, bindS]
    obtain ⟨t1, t2⟩ := tellV2_ok (p := (q : Int)) r
    simp only [cond_true, if_true]
    rw [sameV2_f t1 t2 hn2, bindS]
end Go.Proofs.Ytieocmcjecpgpaa.Am
namespace Go.Proofs.Ytieocmcjecpgpaa.Pure
open Go.Proofs.Ytieocmcjecpgpaa.Am
theorem ReachTurned (d : law12_ReachTurned_s.I) (h : BAs law12_ReachTurned_s.ar d fun _ => True) : ∃ n, law12_ReachTurned n d.1 d.2.1 d.2.2.1 d.2.2.2.1 d.2.2.2.2.1 d.2.2.2.2.2.1 = some (true, ()) := by
  obtain ⟨-, -, -, -, -, h1, -⟩ := h
  exact ⟨big, turneds h1⟩
end Go.Proofs.Ytieocmcjecpgpaa.Pure
