/- SimHits, in plain Lean. -/
import Derived.Test.YtackhenokkolhaaPlHit
import Derived.Test.YtackhenokkolhaaAmY
namespace Go.Proofs.Ytackhenokkolhaa.Am
set_option linter.unusedVariables false
set_option linter.unusedSimpArgs false
/-- Are all assumptions so, of bits, so many of them? -/
def lg (P : List Pw) (y : List Bool) (j : Nat) : Bool := (List.range j).all fun k : Nat => decide ((Kisi_at P (k : Int)).1 ≠ 9) || Kb_at y (k : Int)
theorem lg_succ {P : List Pw} {y : List Bool} {j : Nat} : lg P y (j + 1) = (lg P y j && (decide ((Kisi_at P (j : Int)).1 ≠ 9) || Kb_at y (j : Int))) := by
  unfold lg
  rw [List.range_succ, List.all_append]
  simp
/-- A property is hit, of bits. -/
def hb (P : List Pw) (p : Nat) (y : List Bool) : Bool := (decide ((Kisi_at P (p : Int)).1 = 8) && !(Kb_at y (p : Int))) || (decide ((Kisi_at P (p : Int)).1 = 10) && Kb_at y (p : Int))
section
variable {N : List Nd} {I : List Pn} {C : List Cl} {P : List Pw} {Q : List Pn} {t : Tr} {p : Nat}
theorem lg_legal (r : RightP N I C P Q) {v : List Int} (hv : Nums N v) : lg P (bitsV P v) P.length = legalB P v := by
  have : lg P (bitsV P v) P.length = true ↔ LegalP P v := by
    unfold lg LegalP
    rw [List.all_eq_true]
    constructor
    · intro h j hj h9 h0
      have := h j (List.mem_range.2 hj)
      rw [bitsV_at hj] at this
      simp [h9, h0] at this
    · intro h j hj
      have hj := List.mem_range.1 hj
      rw [bitsV_at hj]
      have hb := prop_bit r hv hj
      by_cases h9 : (Kisi_at P (j : Int)).1 = 9
      · have := h j hj h9
        rcases hb with hb | hb
        · exact absurd hb this
        · simp [hb]
      · simp [h9]
  cases h : legalB P v with
  | true => exact this.2 (legalB_iff.1 h)
  | false => exact Bool.eq_false_iff.2 fun q => legalB_no.1 h (this.1 q)
theorem hb_hit (r : RightP N I C P Q) {v : List Int} (hp : p < P.length) (h9 : (Kisi_at P (p : Int)).1 ≠ 9) : hb P p (bitsV P v) = hitB P p v := by
  have k := r.prop p hp
  have k1 := k.1
  have k2 := k.2.1
  unfold hb hitB
  rw [bitsV_at hp]
  by_cases h8 : (Kisi_at P (p : Int)).1 = 8
  · rw [h8]
    cases decide (Ki_at v (Kisi_at P (p : Int)).2.2 = 1) <;> simp
  · have h10 : (Kisi_at P (p : Int)).1 = 10 := by omega
    rw [h10]
    cases decide (Ki_at v (Kisi_at P (p : Int)).2.2 = 1) <;> simp
end
theorem hits {N I C P Q} {l : Tr} {a : Int} (hl : U16r l) (ha : (Lit.int .u8 a).wf = true) : law11_SimHits big N I C P Q l a = some (true, ()) := by
  have hn : 1000 < big := by decide
  unfold law11_SimHits
  rw [head11, bindS]
  obtain ⟨g, hg, hs⟩ := great_f (n := big) (N := N) (I := I) (C := C) (P := P) (Q := Q)
  rw [hg, bindS]
  cases g with
  | true => rfl
  | false =>
  have s := hs rfl
  have s3 := s.c
  have s4 := s.p
  obtain ⟨b, hb_, hr⟩ := right_f s hn
  simp only [cond_false, hb_, bindS]
  cases b with
  | false => rfl
  | true =>
  have r := hr.1 rfl
  simp only [Bool.not_true, cond_false, cond_dec]
  by_cases hP : (P.length : Int) = 0
  · rw [if_pos hP]
  rw [if_neg hP, trace_f s r hn, bindS]
  have ft := trace_fit r hl
  have tl : (traceV N I l).length ≤ 64 := by rw [trace_len]; omega
  generalize traceV N I l = t at *
  obtain ⟨p, hp, e⟩ := lit_mod8 (m := P.length) ha (by omega) (by omega)
  simp only [e]
  rw [ask_of hP, simHit_f s r ft hn hp, bindS, run_f s r ft hn, bindS]
  have Y1 : ((List.range t.length).map fun k => bitsV P (vV N I C t k)).length = t.length := by simp
  have B : ∀ k : Nat, k < t.length → KLb_at ((List.range t.length).map fun k => bitsV P (vV N I C t k)) (k : Int) = bitsV P (vV N I C t k) := fun k hk => at_range (t := KLb_) hk
  generalize ((List.range t.length).map fun k => bitsV P (vV N I C t k)) = Y at *
  rw [if_neg (by simp only; omega)]
  have k1 := (r.prop p hp).1
  have k2 := (r.prop p hp).2.1
  -- the assumptions
  have l1 : ∀ k : Nat, k < t.length → law11_SimHits_l1 big ((k : Int), ()) (Y, ()) P (true, 0, ()) = some (lg P (bitsV P (vV N I C t k)) P.length, ()) := fun k hk => by
    have bl := bitsV_len (P := P) (v := vV N I C t k)
    exact iter_up (F := law11_SimHits_l1b big ((k : Int), ()) (Y, ()) P) (fun j => (lg P (bitsV P (vV N I C t k)) j, (j : Int), ())) (lg P (bitsV P (vV N I C t k)) P.length, ()) (len := P.length) (m := big)
      (fun self j hj => by
        unfold law11_SimHits_l1b
        simp only [cond_dec, B k hk]
        rw [if_pos (by omega), lg_succ, succ64 (by omega)]
        cases lg P (bitsV P (vV N I C t k)) j with
        | false => rfl
        | true =>
          simp only [cond_true, Bool.true_and]
          rw [ask_of (by omega)]
          by_cases h9 : (Kisi_at P (j : Int)).1 ≠ 9
          · rw [if_pos h9]; simp [h9]
          · rw [if_neg h9, ask_of (by omega), ask_of (by omega)]; simp at h9; simp [h9])
      (fun self => by
        unfold law11_SimHits_l1b
        simp only [cond_dec]
        rw [if_neg (by omega)]) (by omega)
  have j2 : ∀ k : Nat, k < t.length → ∀ c : Bool, law11_SimHits_j2 big ((k : Int), ()) (c, ()) (Y, ()) P (a) = some (c && hb P p (bitsV P (vV N I C t k)), ()) := fun k hk c => by
    have bl := bitsV_len (P := P) (v := vV N I C t k)
    unfold law11_SimHits_j2
    cases c with
    | false => rfl
    | true =>
      simp only [cond_dec, B k hk, e, cond_true, Bool.true_and]
      unfold hb
      rw [ask_of (by omega)]
      by_cases h8 : (Kisi_at P (p : Int)).1 = 8
      · rw [if_pos h8, ask_of (by omega), ask_of (by omega)]
        cases Kb_at (bitsV P (vV N I C t k)) (p : Int) with
        | false => simp [h8]
        | true => simp [h8, ask_of hp]
      · rw [if_neg h8]
        by_cases h10 : (Kisi_at P (p : Int)).1 = 10
        · rw [ask_of (by omega), if_pos h10, ask_of (by omega), ask_of (by omega)]; simp [h10]
        · rw [ask_of (by omega), if_neg h10]; simp [h8, h10]
  have hit9 : (Kisi_at P (p : Int)).1 = 9 → hitV N I C P t p = (0, false) ∧ ∀ y, hb P p y = false := fun h9 => ⟨by unfold hitV; rw [if_pos h9], fun y => by unfold hb; simp [h9]⟩
  have l3 := iter_all (F := law11_SimHits_l3b big (true, ()) ((hitV N I C P t p).1, (hitV N I C P t p).2, ()) (Y, ()) P a) (fun j => ((j : Int), ())) (fun k => legalB P (vV N I C t k) = true ∧ hb P p (bitsV P (vV N I C t k)) = false) (fun _ => (true, ())) () (len := t.length) (m := big)
    (fun self j hj hall hk => by
      have bl := bitsV_len (P := P) (v := vV N I C t j)
      unfold law11_SimHits_l3b
      simp only [cond_dec]
      rw [if_pos (by omega), ask_of (by omega), B j hj, if_neg (by omega), l1 j hj, bindS, j2 j hj, bindS, lg_legal r (vV_nums r ft hj), hk.1, hk.2, succ64 (by omega)]
      rfl)
    (fun self j hj hall hk => by
      have bl := bitsV_len (P := P) (v := vV N I C t j)
      unfold law11_SimHits_l3b
      simp only [cond_dec]
      rw [if_pos (by omega), ask_of (by omega), B j hj, if_neg (by omega), l1 j hj, bindS, j2 j hj, bindS, lg_legal r (vV_nums r ft hj)]
      cases hL : legalB P (vV N I C t j) with
      | false =>
        have : hitV N I C P t p = (0, false) := by
          by_cases h9 : (Kisi_at P (p : Int)).1 = 9
          · exact (hit9 h9).1
          · unfold hitV
            rw [if_neg h9]
            refine hitS_no fun i hi h1 h2 => ?_
            show hitB P p (vV N I C t i) = false
            rcases Nat.lt_trichotomy i j with q | q | q
            · rw [← hb_hit r hp h9]; exact (hall i q).2
            · subst q
              have h2 : legalB P (vV N I C t i) = true := h2
              rw [hL] at h2; cases h2
            · have := (h1 j q).1
              simp only [hL] at this; cases this
        rw [this]
        rfl
      | true =>
        have hH : hb P p (bitsV P (vV N I C t j)) = true := by
          cases q : hb P p (bitsV P (vV N I C t j)) with
          | true => rfl
          | false => exact absurd ⟨hL, q⟩ hk
        have h9 : (Kisi_at P (p : Int)).1 ≠ 9 := fun h9 => by rw [(hit9 h9).2] at hH; cases hH
        have : hitV N I C P t p = ((j : Int), true) := by
          unfold hitV
          rw [if_neg h9]
          refine hitS_at hj (fun i hi => ⟨(hall i hi).1, ?_⟩) hL ?_
          · show hitB P p (vV N I C t i) = false
            rw [← hb_hit r hp h9]; exact (hall i hi).2
          · show hitB P p (vV N I C t j) = true
            rw [← hb_hit r hp h9]; exact hH
        rw [this, hH]
        simp)
    (fun _ self => by
      unfold law11_SimHits_l3b
      simp only [cond_dec]
      rw [if_neg (by omega)]) (by omega)
  rcases l3 with ⟨h, e3⟩ | ⟨j, hj, -, -, e3⟩
  · rw [show law11_SimHits_l3 big (true, ()) ((hitV N I C P t p).1, (hitV N I C P t p).2, ()) (Y, ()) P a (0, ()) = _ from e3, bindS, Sum.elim_inr]
    have : hitV N I C P t p = (0, false) := by
      by_cases h9 : (Kisi_at P (p : Int)).1 = 9
      · exact (hit9 h9).1
      · unfold hitV
        rw [if_neg h9]
        refine hitS_no fun i hi _ _ => ?_
        show hitB P p (vV N I C t i) = false
        rw [← hb_hit r hp h9]; exact (h i hi).2
    rw [this]
    rfl
  · rw [show law11_SimHits_l3 big (true, ()) ((hitV N I C P t p).1, (hitV N I C P t p).2, ()) (Y, ()) P a (0, ()) = _ from e3]
    rfl
end Go.Proofs.Ytackhenokkolhaa.Am
namespace Go.Proofs.Ytackhenokkolhaa.Pure
open Go.Proofs.Ytackhenokkolhaa.Am
theorem SimHits (d : law11_SimHits_s.I) (h : BAs law11_SimHits_s.ar d fun _ => True) : ∃ n, law11_SimHits n d.1 d.2.1 d.2.2.1 d.2.2.2.1 d.2.2.2.2.1 d.2.2.2.2.2.1 d.2.2.2.2.2.2.1 = some (true, ()) := by
  obtain ⟨-, -, -, -, -, h1, h2, -⟩ := h
  exact ⟨big, hits (fun x hx => (h1.2 x hx).2) h2⟩
end Go.Proofs.Ytackhenokkolhaa.Pure
