/- Nets' cells and operands. -/
import Derived.Test.YtfjdhdmbbfeigaaPnNet
namespace Go.Proofs.Ytfjdhdmbbfeigaa.Am
set_option linter.unusedVariables false
set_option linter.unusedSimpArgs false
theorem wid_pos {N : List Nd} {a : Int} {i : Nat} (h : 0 < wid N a i) : 0 ≤ a ∧ a < i ∧ wid N a i = (Kiiiiiii_at N a).2.1 := by
  unfold wid at h ⊢
  split at h
  · omega
  · rename_i hn
    exact ⟨by omega, by omega, by rw [if_neg hn]⟩
def firstV (C : List Cl) : List Int := (List.range C.length).map fun j : Nat => (Ksiii_at C (j : Int)).2.2.2
theorem first_f {n : Nat} {N I C P Q} (s : Small N I C P Q) (hn : 1000 < n) : net_First n N I C P Q = some (firstV C, ()) := by
  have s3 := s.c
  have l1 := iter_up (F := net_First_l1b n C) (fun j => ((j : Int), fillN C.length (fun j => (Ksiii_at C (j : Int)).2.2.2) 0 j, ())) (firstV C, ()) (len := C.length) (m := n)
    (fun self j hj => by
      have hl := fillN_len (g := fun j => (Ksiii_at C (j : Int)).2.2.2) (z := 0) (Nat.le_of_lt hj)
      unfold net_First_l1b
      simp only [cond_dec]
      rw [if_pos (by omega), ask_of (by omega), ask_of (by omega), succ64 (by omega), Int.toNat_natCast, ← fillN_set hj])
    (fun self => by
      unfold net_First_l1b
      simp only [cond_dec]
      rw [if_neg (by omega), fillN_n]
      rfl) (by omega)
  rw [fillN_0] at l1
  unfold net_First
  rw [ask_of (by omega), Int.toNat_natCast, show net_First_l1 n C (0, List.replicate C.length 0, ()) = _ from l1]
  rfl
/-- A cell's next node. -/
theorem next_pos {N I C P Q} (r : RightP N I C P Q) {j : Nat} (h : j < C.length) : 0 ≤ (Ksiii_at C (j : Int)).2.2.1 ∧ (Ksiii_at C (j : Int)).2.2.1 < N.length ∧ (Kiiiiiii_at N (Ksiii_at C (j : Int)).2.2.1).2.1 = (Kiiiiiii_at N (Ksiii_at C (j : Int)).2.1).2.1 := by
  have hc := r.cell j h
  obtain ⟨m0, m1, -⟩ := cell_node r.cells h
  have hw := node_at r.nodes m0 m1
  have w1 := hw.w1
  have h1 := hc.1
  obtain ⟨q0, q1, q2⟩ := wid_pos (N := N) (a := (Ksiii_at C (j : Int)).2.2.1) (i := N.length) (by omega)
  exact ⟨q0, q1, by omega⟩
section
variable {N : List Nd} {I : List Pn} {C : List Cl} {P : List Pw} {Q : List Pn}
theorem frm_nodup {N : List Nd} {op : Int} : ∀ (d i : Nat), (frm N op i d).Nodup
  | 0, i => by simp [frm]
  | d + 1, i => by
    rw [frm]
    split
    · refine List.nodup_cons.2 ⟨fun h => ?_, frm_nodup d (i + 1)⟩
      have := (frm_mem _ _ _ h).1
      omega
    · exact frm_nodup d (i + 1)
theorem inj_of {α : Type} {l : List α} {f : α → Int} (h : (l.map f).Nodup) {i j : Nat} (hi : i < l.length) (hj : j < l.length) (e : f l[i] = f l[j]) : i = j := by
  have hi' : i < (l.map f).length := by simpa using hi
  have hj' : j < (l.map f).length := by simpa using hj
  have hp := List.pairwise_iff_getElem.1 h
  rcases Nat.lt_trichotomy i j with q | q | q
  · exact absurd (by simpa using e) (hp i j hi' hj' q)
  · exact q
  · exact absurd (by simpa using e.symm) (hp j i hj' hi' q)
section
variable {N : List Nd} {I : List Pn} {C : List Cl} {P : List Pw} {Q : List Pn} {st ins : List Int}
theorem pin_inj (r : RightP N I C P Q) {i j : Nat} (hi : i < I.length) (hj : j < I.length) (e : (Ksi_at I (i : Int)).2 = (Ksi_at I (j : Int)).2) : i = j := by
  refine inj_of (l := I) (f := (·.2)) (by rw [r.ins]; exact frm_nodup _ _) hi hj ?_
  have a : Ksi_at I (i : Int) = I[i] := at_nat (t := Ksi_) hi
  have b : Ksi_at I (j : Int) = I[j] := at_nat (t := Ksi_) hj
  rw [a, b] at e
  exact e
theorem cell_inj (r : RightP N I C P Q) {i j : Nat} (hi : i < C.length) (hj : j < C.length) (e : (Ksiii_at C (i : Int)).2.1 = (Ksiii_at C (j : Int)).2.1) : i = j := by
  refine inj_of (l := C) (f := (·.2.1)) (by rw [r.cells]; exact frm_nodup _ _) hi hj ?_
  have a : Ksiii_at C (i : Int) = C[i] := at_nat (t := Ksiii_) hi
  have b : Ksiii_at C (j : Int) = C[j] := at_nat (t := Ksiii_) hj
  rw [a, b] at e
  exact e
end
end
theorem Do_all2 {n k0 : Nat} {ins : Int} {g : List Kii} {op w p q s u lo : Int} {A B C : List Int} {wa wb' wc W K : Nat} (r : RG ins g) (hg : g.length ≤ 15000) (h : NodeOK op w u lo wa wb' wc W K) (hA : 0 < wa → Lits ins g A ∧ A.length = wa) (hB : 0 < wb' → Lits ins g B ∧ B.length = wb') (hC : 0 < wc → Lits ins g C ∧ C.length = wc) (hn : 30000 < n) : DoOK K W ins g op w p q s u lo A B C wb' (blast_Do n ins g op w p q s u lo A B C) := by
  cases h with
  | lit k N h1 h2 h3 => exact Do_lit r h2 h3 hn
  | inv k h1 h2 =>
    obtain ⟨iA, hl⟩ := hA (by omega)
    exact (Do_inv r h2 iA hl hn).le (by omega)
  | red op k h0 h1 h2 =>
    obtain ⟨iA, hl⟩ := hA (by omega)
    subst hl
    rcases h0 with rfl | rfl
    · exact (Do_redor r hg iA h2 hn).le (by omega)
    · exact (Do_redand r hg iA h2 hn).le (by omega)
  | two op k h0 h1 h2 =>
    obtain ⟨iA, hl⟩ := hA (by omega)
    obtain ⟨iB, hl2⟩ := hB (by omega)
    rcases h0 with rfl | rfl | rfl | rfl | rfl
    · exact (Do_and r hg h2 iA iB hl hl2 hn).le (by omega)
    · exact (Do_or r hg h2 iA iB hl hl2 hn).le (by omega)
    · exact (Do_xor r hg h2 iA iB hl hl2 hn).le (by omega)
    · exact (Do_add r hg h2 iA iB hl hl2 hn).le (by omega)
    · exact (Do_sub r hg h2 iA iB hl hl2 hn).le (by omega)
  | mul k h1 h2 =>
    obtain ⟨iA, hl⟩ := hA (by omega)
    obtain ⟨iB, hl2⟩ := hB (by omega)
    exact (Do_mul r hg h2 iA iB hl hl2 hn).le (Nat.mul_le_mul (by omega) (Nat.le_refl _))
  | ord op k h0 h1 h2 =>
    obtain ⟨iA, hl⟩ := hA (by omega)
    obtain ⟨iB, hl2⟩ := hB (by omega)
    subst hl
    rcases h0 with rfl | rfl | rfl | rfl
    · exact (Do_eq r hg iA iB h2 hl2 hn).le (by omega)
    · exact (Do_ne r hg iA iB h2 hl2 hn).le (by omega)
    · exact (Do_lt r hg iA iB h2 hl2 hn).le (by omega)
    · exact (Do_le r hg iA iB h2 hl2 hn).le (by omega)
  | mux k h1 h2 =>
    obtain ⟨iA, hl⟩ := hA (by omega)
    obtain ⟨iB, hl2⟩ := hB (by omega)
    obtain ⟨iC, hl3⟩ := hC (by omega)
    exact (Do_mux r hg h2 iA iB iC hl hl2 hl3 hn).le (by omega)
  | cat a b h1 h2 h3 =>
    obtain ⟨iA, hl⟩ := hA (by omega)
    obtain ⟨iB, hl2⟩ := hB (by omega)
    subst hl; subst hl2
    exact (Do_cat r iA iB (by omega) (by omega) hn).le (by omega)
  | slice k N L h1 h2 h3 =>
    obtain ⟨iA, hl⟩ := hA (by omega)
    subst hl
    exact (Do_slice r iA h1 h2 h3 hn).le (by omega)
/-- What a node weighs. -/
def wtN (op w lo : Int) : Int := if op = 1 ∨ op = 21 ∨ op = 22 then 0 else if op = 11 then 20 * w * w else if op = 4 ∨ op = 5 ∨ op = 12 ∨ op = 13 ∨ op = 14 ∨ op = 15 then 20 * lo else 20 * w
theorem wtN_f {n : Nat} {op w p q s u lo : Int} (hw : 0 ≤ w ∧ w ≤ 16) (hlo : 0 ≤ lo ∧ lo ≤ 16) : ref14_Weight n op w p q s u lo = some (wtN op w lo, ()) := by
  have h1 : w * w ≤ 16 * 16 := Int.mul_le_mul hw.2 hw.2 hw.1 (by omega)
  have h0 : 0 ≤ w * w := Int.mul_nonneg hw.1 hw.1
  have e : 20 * w * w = 20 * (w * w) := Int.mul_assoc _ _ _
  unfold ref14_Weight ref14_Weight_j1 wtN
  simp only [cond_dec, bindS]
  by_cases c1 : op = 1
  · simp [c1]
  by_cases c2 : op = 21
  · simp [c2]
  by_cases c3 : op = 22
  · simp [c3]
  simp only [c1, c2, c3, ↓reduceIte, decide_false, cond_false, or_self, bindS]
  by_cases c4 : op = 11
  · simp only [c4, ↓reduceIte]
    rw [w64 (n := 20 * w) (by omega) (by omega), w64 (by omega) (by omega)]
  simp only [c4, ↓reduceIte]
  by_cases d1 : op = 4
  · simp [d1, w64 (n := 20 * lo) (by omega) (by omega)]
  by_cases d2 : op = 5
  · simp [d2, w64 (n := 20 * lo) (by omega) (by omega)]
  by_cases d3 : op = 12
  · simp [d3, w64 (n := 20 * lo) (by omega) (by omega)]
  by_cases d4 : op = 13
  · simp [d4, w64 (n := 20 * lo) (by omega) (by omega)]
  by_cases d5 : op = 14
  · simp [d5, w64 (n := 20 * lo) (by omega) (by omega)]
  by_cases d6 : op = 15
  · simp [d6, w64 (n := 20 * lo) (by omega) (by omega)]
  simp [d1, d2, d3, d4, d5, d6, w64 (n := 20 * w) (by omega) (by omega)]
/-- A right node, as the laws of bits have it. -/
theorem node_ok {N : List Nd} {i : Nat} (hall : ∀ j : Nat, j < i → NodeP N j) (h : NodeP N i) (ho : ¬ ((Kiiiiiii_at N i).1 = 21 ∨ (Kiiiiiii_at N i).1 = 22)) : ∃ wa wb wc W K : Nat, NodeOK (Kiiiiiii_at N i).1 (Kiiiiiii_at N i).2.1 (Kiiiiiii_at N i).2.2.2.2.2.1 (Kiiiiiii_at N i).2.2.2.2.2.2 wa wb wc W K ∧ (Kiiiiiii_at N i).2.1 = (W : Int) ∧ (K : Int) = wtN (Kiiiiiii_at N i).1 (Kiiiiiii_at N i).2.1 (Kiiiiiii_at N i).2.2.2.2.2.2 ∧ (0 < wa → wid N (Kiiiiiii_at N i).2.2.1 i = wa) ∧ (0 < wb → wid N (Kiiiiiii_at N i).2.2.2.1 i = wb) ∧ (0 < wc → wid N (Kiiiiiii_at N i).2.2.2.2.1 i = wc) := by
  have w1 := h.w1
  have w16 := h.w16
  have ha := wid_le hall (Kiiiiiii_at N i).2.2.1
  have hb := wid_le hall (Kiiiiiii_at N i).2.2.2.1
  have hc := wid_le hall (Kiiiiiii_at N i).2.2.2.2.1
  have fit := h.fit
  generalize wid N (Kiiiiiii_at N i).2.2.1 i = xa at ha fit ⊢
  generalize wid N (Kiiiiiii_at N i).2.2.2.1 i = xb at hb fit ⊢
  generalize wid N (Kiiiiiii_at N i).2.2.2.2.1 i = xc at hc fit ⊢
  generalize Kiiiiiii_at N i = x at ho w1 w16 fit ⊢
  obtain ⟨op, w, p, q, s, u, lo⟩ := x
  simp only [FitP] at ho w1 w16 fit ⊢
  obtain ⟨W, rfl⟩ := Int.eq_ofNat_of_zero_le (show 0 ≤ w by omega)
  rcases fit with ⟨o, f1, f2, f3⟩ | ⟨o, -⟩ | ⟨o, f1, f2, f3⟩ | ⟨o, f1, f2, f3, f4⟩ | ⟨o, f1, f2, f3, f4⟩ | ⟨o, f1, f2, f3, f4, f5⟩ | ⟨o, f1, f2, f3, f4, f5⟩ | ⟨o, f1, f2, f3, f4, f5⟩ | ⟨o, f1, f2, f3, f4⟩
  · subst o; subst f3
    obtain ⟨U, rfl⟩ := Int.eq_ofNat_of_zero_le f1
    rw [p2_nat] at f2
    exact ⟨0, 0, 0, W, 0, .lit W U (by omega) (by omega) (by omega), rfl, rfl, by omega, by omega, by omega⟩
  · exact absurd o ho
  · subst o; subst f1; subst f2
    exact ⟨W, 0, 0, W, 20 * W, .inv W (by omega) (by omega), rfl, by simp [wtN], by omega, by omega, by omega⟩
  · subst f1
    obtain ⟨L, rfl⟩ := Int.eq_ofNat_of_zero_le (show 0 ≤ lo by omega)
    have e : W = 1 := by omega
    subst e
    exact ⟨L, 0, 0, 1, 20 * L, .red op L o (by omega) (by omega), rfl, by rcases o with rfl | rfl <;> simp [wtN], by omega, by omega, by omega⟩
  · subst f1; subst f2
    by_cases o11 : op = 11
    · subst o11
      exact ⟨W, W, 0, W, 20 * W * W, .mul W (by omega) (by omega), rfl, by simp [wtN], by omega, by omega, by omega⟩
    · have o' : op = 6 ∨ op = 7 ∨ op = 8 ∨ op = 9 ∨ op = 10 := by omega
      exact ⟨W, W, 0, W, 20 * W, .two op W o' (by omega) (by omega), rfl, by rcases o' with rfl | rfl | rfl | rfl | rfl <;> simp [wtN], by omega, by omega, by omega⟩
  · subst f1
    obtain ⟨L, rfl⟩ := Int.eq_ofNat_of_zero_le (show 0 ≤ lo by omega)
    have e : W = 1 := by omega
    subst e
    have o' : op = 12 ∨ op = 13 ∨ op = 14 ∨ op = 15 := by omega
    exact ⟨L, L, 0, 1, 20 * L, .ord op L o' (by omega) (by omega), rfl, by rcases o' with rfl | rfl | rfl | rfl <;> simp [wtN], by omega, by omega, by omega⟩
  · subst o; subst f1; subst f2
    exact ⟨1, W, W, W, 20 * W, .mux W (by omega) (by omega), rfl, by simp [wtN], by omega, by omega, by omega⟩
  · subst o; subst f1; subst f2
    obtain ⟨a, rfl⟩ := Int.eq_ofNat_of_zero_le (show 0 ≤ xa by omega)
    obtain ⟨b, rfl⟩ := Int.eq_ofNat_of_zero_le (show 0 ≤ xb by omega)
    have e : W = a + b := by omega
    subst e
    exact ⟨a, b, 0, a + b, 20 * (a + b), .cat a b (by omega) (by omega) (by omega), rfl, by simp [wtN], by omega, by omega, by omega⟩
  · subst o
    obtain ⟨L, rfl⟩ := Int.eq_ofNat_of_zero_le f1
    obtain ⟨U, rfl⟩ := Int.eq_ofNat_of_zero_le (show 0 ≤ u by omega)
    obtain ⟨k, rfl⟩ := Int.eq_ofNat_of_zero_le (show 0 ≤ xa by omega)
    have e : W = U - L + 1 := by omega
    subst e
    exact ⟨k, 0, 0, U - L + 1, 20 * (U - L + 1), .slice k U L (by omega) (by omega) (by omega), rfl, by simp [wtN], by omega, by omega, by omega⟩
end Go.Proofs.Ytfjdhdmbbfeigaa.Am
