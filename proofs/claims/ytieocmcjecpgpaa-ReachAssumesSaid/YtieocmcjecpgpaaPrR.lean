/- Properties by the document; rows alike. -/
import Derived.Test.YtieocmcjecpgpaaPrT
namespace Go.Proofs.Ytieocmcjecpgpaa.Am
set_option linter.unusedVariables false
set_option linter.unusedSimpArgs false
section
variable {N : List Nd} {I : List Pn} {C : List Cl} {P : List Pw} {Q : List Pn} {t : Tr} {n : Nat}
theorem rProps_f {v : List Int} (s : Small N I C P Q) (r : RightP N I C P Q) (hv : v.length = N.length) (hn : 1000 < n) : ref11_Props n N I C P Q v = some (bitsV P v, ()) := by
  have s4 := s.p
  have l1 := iter_up (F := ref11_Props_l1b n P v) (fun j => ((j : Int), (List.range j).map (fun j : Nat => decide (Ki_at v (Kisi_at P (j : Int)).2.2 = 1)), ())) (bitsV P v, ()) (len := P.length) (m := n)
    (fun self j hj => by
      obtain ⟨q0, q1, -⟩ := prop_node r hj
      unfold ref11_Props_l1b
      simp only [cond_dec]
      rw [if_pos (by omega), ask_of (by omega), ask_of (by omega), ask_of (by simp; omega), succ64 (by omega), range_app (g := fun j : Nat => decide (Ki_at v (Kisi_at P (j : Int)).2.2 = 1))])
    (fun self => by
      unfold ref11_Props_l1b
      simp only [cond_dec]
      rw [if_neg (by omega)]
      rfl) (by omega)
  unfold ref11_Props
  rw [show ref11_Props_l1 n P v (0, [], ()) = _ from l1]
  rfl
theorem rLegal_f {v : List Int} (s : Small N I C P Q) (r : RightP N I C P Q) (hv : Nums N v) (hn : 1000 < n) : ref11_Legal n N I C P Q (bitsV P v) = some (legalB P v, ()) := by
  have s4 := s.p
  have bl := bitsV_len (P := P) (v := v)
  have l1 := iter_all (F := ref11_Legal_l1b n P (bitsV P v)) (fun j => ((j : Int), ())) (fun j => (Kisi_at P (j : Int)).1 = 9 → Ki_at v (Kisi_at P (j : Int)).2.2 = 1) (fun _ => (false, ())) () (len := P.length) (m := n)
    (fun self j hj hall hk => by
      unfold ref11_Legal_l1b
      simp only [cond_dec, bitsV_at hj]
      rw [if_pos (by omega), ask_of (by omega), succ64 (by omega)]
      by_cases e : (Kisi_at P (j : Int)).1 = 9
      · rw [if_pos e, ask_of (by omega)]
        simp [hk e]
      · rw [if_neg e])
    (fun self j hj hall hk => by
      simp only [Classical.not_imp] at hk
      unfold ref11_Legal_l1b
      simp only [cond_dec, bitsV_at hj]
      rw [if_pos (by omega), ask_of (by omega), if_pos hk.1, ask_of (by omega)]
      simp [hk.2])
    (fun _ self => by
      unfold ref11_Legal_l1b
      simp only [cond_dec]
      rw [if_neg (by omega)]) (by omega)
  unfold ref11_Legal ref11_Legal_l1
  rcases l1 with ⟨h, e⟩ | ⟨j, hj, -, hk, e⟩
  · rw [show iter (ref11_Legal_l1b n P (bitsV P v)) n (0, ()) = _ from e, legalB_iff.2 fun j hj q q0 => by have := h j hj q; omega]
    rfl
  · rw [show iter (ref11_Legal_l1b n P (bitsV P v)) n (0, ()) = _ from e, legalB_no.2 fun q => hk fun h9 => by
      rcases prop_bit r hv hj with z | z
      · exact absurd z (q j hj h9)
      · exact z]
    rfl
theorem rHits_f {v : List Int} {p : Nat} (r : RightP N I C P Q) (hp : p < P.length) : ref11_Hits n N I C P Q (p : Int) (bitsV P v) = some (decide ((Kisi_at P (p : Int)).1 ≠ 9) && hitB P p v, ()) := by
  have bl := bitsV_len (P := P) (v := v)
  have k1 := (r.prop p hp).1
  have k2 := (r.prop p hp).2.1
  unfold ref11_Hits hitB
  simp only [cond_dec, bitsV_at hp]
  rw [ask_of (by omega)]
  by_cases h8 : (Kisi_at P (p : Int)).1 = 8
  · rw [if_pos h8, ask_of (by omega), h8]
    cases decide (Ki_at v (Kisi_at P (p : Int)).2.2 = 1) <;> simp
  · rw [if_neg h8, ask_of (by omega)]
    by_cases h10 : (Kisi_at P (p : Int)).1 = 10
    · rw [if_pos h10, ask_of (by omega), h10]
      cases decide (Ki_at v (Kisi_at P (p : Int)).2.2 = 1) <;> simp
    · rw [if_neg h10]
      have : (Kisi_at P (p : Int)).1 = 9 := by omega
      simp [this]
/-- Two rows, alike or not. -/
theorem sameOne_f {x y : List Int} (hx : x.length ≤ 1000) (hn : 1000 < n) : ref11_SameRows n [x] [y] = some (decide (x = y), ()) := by
  have ax : KLi_at [x] (0 : Int) = x := rfl
  have ay : KLi_at [y] (0 : Int) = y := rfl
  have ax' : KLi_at [x] ((0 : Nat) : Int) = x := rfl
  have ay' : KLi_at [y] ((0 : Nat) : Int) = y := rfl
  obtain ⟨m, rfl⟩ : ∃ k, n = k + 2 := ⟨n - 2, by omega⟩
  have e2 : ∀ d, iter (ref11_SameRows_l2b (m + 2) [x] [y]) (m + 1) d = ref11_SameRows_l2b (m + 2) [x] [y] (iter (ref11_SameRows_l2b (m + 2) [x] [y]) m) d := fun d => rfl
  have e1 : ref11_SameRows_l2b (m + 2) [x] [y] (iter (ref11_SameRows_l2b (m + 2) [x] [y]) m) (1, ()) = some (.inr ()) := rfl
  unfold ref11_SameRows ref11_SameRows_l2
  rw [iter_s]
  have e3 := e2 (1, ())
  rw [e1] at e3
  generalize iter (ref11_SameRows_l2b (m + 2) [x] [y]) (m + 1) = self at e3 ⊢
  unfold ref11_SameRows_l2b
  simp only [cond_dec, ax, ay]
  rw [if_neg (by simp), if_pos (by simp), ask_of (by simp), ask_of (by simp)]
  by_cases hl : x.length = y.length
  · rw [if_neg (by omega)]
    have l1 := iter_all (F := ref11_SameRows_l1b (m + 2) (0, ()) [x] [y]) (fun j => ((j : Int), ())) (fun j => Ki_at x (j : Int) = Ki_at y (j : Int)) (fun j => (false, ())) () (len := x.length) (m := m + 2)
      (fun self j hj hall hk => by
        unfold ref11_SameRows_l1b
        simp only [cond_dec, ax, ay]
        rw [ask_of (by simp), if_pos (by omega), ask_of (by simp), ask_of (by omega), ask_of (by simp), ask_of (by omega), if_neg (by simpa using hk), succ64 (by omega)])
      (fun self j hj hall hk => by
        unfold ref11_SameRows_l1b
        simp only [cond_dec, ax, ay]
        rw [ask_of (by simp), if_pos (by omega), ask_of (by simp), ask_of (by omega), ask_of (by simp), ask_of (by omega), if_pos hk])
      (fun _ self => by
        unfold ref11_SameRows_l1b
        simp only [cond_dec, ax, ay]
        rw [ask_of (by simp), if_neg (by omega)]) (by omega)
    unfold ref11_SameRows_l1
    rcases l1 with ⟨ha, e⟩ | ⟨j, hj, -, hk, e⟩
    · have : x = y := ext_at (t := i_) hl fun j hj => ha j hj
      rw [show iter (ref11_SameRows_l1b (m + 2) (0, ()) [x] [y]) (m + 2) (0, ()) = _ from e, bindS, Sum.elim_inr, decide_eq_true this]
      rw [show IntKind.wrap .i64 ((0 : Int) + 1) = 1 from rfl, e3]
      rfl
    · rw [show iter (ref11_SameRows_l1b (m + 2) (0, ()) [x] [y]) (m + 2) (0, ()) = _ from e, bindS, Sum.elim_inl, decide_eq_false (fun q => hk (by rw [q]))]
      rfl
  · rw [if_pos (by omega), bindS, Sum.elim_inl, decide_eq_false (fun q => hl (by rw [q]))]
end
end Go.Proofs.Ytieocmcjecpgpaa.Am
