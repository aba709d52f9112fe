/- A net's circuit means its net. -/
import Derived.Test.YtnjoiokbeknopaaGreatPgEval
namespace Go.Proofs.YtnjoiokbeknopaaGreat.Am
set_option linter.unusedVariables false
set_option linter.unusedSimpArgs false
/-- What a node makes, in plain words. -/
theorem doV_N {N : List Nd} {i : Nat} (hall : ∀ j : Nat, j < i → NodeP N j) (h : NodeP N i) (ho : ¬ ((Kiiiiiii_at N i).1 = 21 ∨ (Kiiiiiii_at N i).1 = 22)) {v : List Int} (hv : ∀ j : Int, 0 ≤ j → j < i → Num_ (Kiiiiiii_at N j).2.1 (Ki_at v j)) :
    doV N v (Kiiiiiii_at N i) = doN (Kiiiiiii_at N i).1 (Kiiiiiii_at N i).2.1 (Kiiiiiii_at N i).2.2.2.2.2.1 (Kiiiiiii_at N i).2.2.2.2.2.2 (Ki_at v (Kiiiiiii_at N i).2.2.1) (Ki_at v (Kiiiiiii_at N i).2.2.2.1) (Ki_at v (Kiiiiiii_at N i).2.2.2.2.1) (Kiiiiiii_at N (Kiiiiiii_at N i).2.2.2.1).2.1 := by
  have fin : ∀ {X : Int}, vec_Do 0 (Kiiiiiii_at N i).1 (Kiiiiiii_at N i).2.1 (Kiiiiiii_at N i).2.2.1 (Kiiiiiii_at N i).2.2.2.1 (Kiiiiiii_at N i).2.2.2.2.1 (Kiiiiiii_at N i).2.2.2.2.2.1 (Kiiiiiii_at N i).2.2.2.2.2.2 (Ki_at v (Kiiiiiii_at N i).2.2.1) (Ki_at v (Kiiiiiii_at N i).2.2.2.1) (Ki_at v (Kiiiiiii_at N i).2.2.2.2.1) (Kiiiiiii_at N (Kiiiiiii_at N i).2.2.2.1).2.1 = some (X, ()) → doV N v (Kiiiiiii_at N i) = X := fun q => by
    unfold doV
    rw [q]
  refine fin ?_
  have w1 := h.w1
  have w16 := h.w16
  have ha := wid_le hall (Kiiiiiii_at N i).2.2.1
  have hb := wid_le hall (Kiiiiiii_at N i).2.2.2.1
  have hc := wid_le hall (Kiiiiiii_at N i).2.2.2.2.1
  have num : ∀ {a : Int}, 0 < wid N a i → Num_ (wid N a i) (Ki_at v a) := fun {a} q => by
    obtain ⟨q0, q1, q2⟩ := wid_pos q
    rw [q2]
    exact hv a q0 q1
  rcases h.fit with ⟨o, f1, f2, f3⟩ | ⟨o, -⟩ | ⟨o, f1, f2, f3⟩ | ⟨o, f1, f2, f3, f4⟩ | ⟨o, f1, f2, f3, f4⟩ | ⟨o, f1, f2, f3, f4, f5⟩ | ⟨o, f1, f2, f3, f4, f5⟩ | ⟨o, f1, f2, f3, f4, f5⟩ | ⟨o, f1, f2, f3, f4⟩
  · rw [o]
    exact do_lit
  · exact absurd o ho
  · have hx := num (a := (Kiiiiiii_at N i).2.2.1) (by omega)
    rw [f3] at hx
    rw [o]
    exact do_inv (by omega) (by omega) hx
  · rcases o with o | o
    · rw [o]
      exact do_redor
    · rw [o]
      exact do_redand (by omega) (by omega)
  · have o' : (Kiiiiiii_at N i).1 = 6 ∨ (Kiiiiiii_at N i).1 = 7 ∨ (Kiiiiiii_at N i).1 = 8 ∨ (Kiiiiiii_at N i).1 = 9 ∨ (Kiiiiiii_at N i).1 = 10 ∨ (Kiiiiiii_at N i).1 = 11 := by omega
    rcases o' with o | o | o | o | o | o <;> rw [o]
    · exact do_and (by omega) (by omega)
    · exact do_or (by omega) (by omega)
    · exact do_xor (by omega) (by omega)
    · exact do_add (by omega) (by omega)
    · exact do_sub (by omega) (by omega)
    · exact do_mul (by omega) (by omega)
  · have o' : (Kiiiiiii_at N i).1 = 12 ∨ (Kiiiiiii_at N i).1 = 13 ∨ (Kiiiiiii_at N i).1 = 14 ∨ (Kiiiiiii_at N i).1 = 15 := by omega
    rcases o' with o | o | o | o <;> rw [o]
    · exact do_eq
    · exact do_ne
    · exact do_lt
    · exact do_le
  · rw [o]
    exact do_mux
  · have hx := num (a := (Kiiiiiii_at N i).2.2.1) (by omega)
    have hy := num (a := (Kiiiiiii_at N i).2.2.2.1) (by omega)
    obtain ⟨-, -, e⟩ := wid_pos (N := N) (a := (Kiiiiiii_at N i).2.2.2.1) (i := i) (by omega)
    have e2 : wid N (Kiiiiiii_at N i).2.2.1 i = (Kiiiiiii_at N i).2.1 - wid N (Kiiiiiii_at N i).2.2.2.1 i := by omega
    rw [e2] at hx
    have hl := cat_lt (by omega) (by omega) hx hy
    have hp := p2_16 w16
    rw [o, ← e]
    exact do_cat (by omega) (by omega) hx.1 hy (by omega)
  · rw [o]
    exact do_slice (by omega) (by omega) (by omega) (by omega) (by omega)
section
variable {n : Nat} {N : List Nd} {I : List Pn} {C : List Cl} {P : List Pw} {Q : List Pn} {st x : List Int} {ins : Int} {G : List Kii} {M : List (Int × List Int)} {V : List Bool}
theorem mean_eval (r : RightP N I C P Q) (hi : FitI N I x) (hs : FitC N C st) (hB : BitsOK N (LLof I C) ins G M N.length) (hV : Mod ins G V) (hin : ∀ j : Nat, j < I.length → ((nb (bv V (Mi_Li_get M (Ksi_at I (j : Int)).2 [])) : Nat) : Int) = Ki_at x (j : Int)) (hce : ∀ j : Nat, j < C.length → ((nb (bv V (Mi_Li_get M (Ksiii_at C (j : Int)).2.1 [])) : Nat) : Int) = Ki_at st (j : Int)) (i : Nat) (h : i < N.length) : ((nb (bv V (Mi_Li_get M (i : Int) [])) : Nat) : Int) = Ki_at (evalV N I C st x) (i : Int) := by
  induction i using Nat.strongRecOn with
  | ind i ih =>
  have hall : ∀ j : Nat, j < i → NodeP N j := fun j hj => r.nodes j (by omega)
  have hnode := r.nodes i h
  have hl := stV_len N I C st x
  unfold evalV
  rw [evN_at h (by omega)]
  by_cases ho : (Kiiiiiii_at N (i : Int)).1 = 21 ∨ (Kiiiiiii_at N (i : Int)).1 = 22
  · rw [if_pos ho]
    have hm : (i : Int) ∈ LLof I C := (LL_mem r).2 ⟨by omega, by omega, ho⟩
    rcases List.mem_append.1 hm with q | q
    · obtain ⟨j, hj, e⟩ := List.mem_iff_getElem.1 q
      have hj' : j < I.length := by simpa [pinN] using hj
      have e2 : (i : Int) = (Ksi_at I (j : Int)).2 := by rw [← e, ← pinN_at hj']; exact (at_nat (t := i_) hj).symm
      rw [e2, stV_pin r hj']
      exact hin j hj'
    · obtain ⟨j, hj, e⟩ := List.mem_iff_getElem.1 q
      have hj' : j < C.length := by simpa [celN] using hj
      have e2 : (i : Int) = (Ksiii_at C (j : Int)).2.1 := by rw [← e, ← celN_at hj']; exact (at_nat (t := i_) hj).symm
      rw [e2, stV_cell r hj']
      exact hce j hj'
  · rw [if_neg ho]
    have hnu := nums_evN r.nodes (nums_stV r hi hs) i (by omega)
    rw [doV_N hall hnode ho (fun k h0 h1 => by
      have := hnu.2 k.toNat (by omega)
      rwa [show ((k.toNat : Nat) : Int) = k by omega] at this)]
    have op : ∀ {a : Int}, 0 < wid N a i → Ki_at (evN N (stV N I C st x) i) a = (nb (bv V (Mi_Li_get M a [])) : Nat) := fun {a} q => by
      obtain ⟨q0, q1, -⟩ := wid_pos q
      obtain ⟨k, rfl⟩ := Int.eq_ofNat_of_zero_le q0
      have e := ih k (by omega) (by omega)
      rw [show (k : Int) = ((k : Nat) : Int) from rfl] at *
      rw [e]
      unfold evalV
      obtain ⟨d, hd⟩ : ∃ d, N.length = i + d := ⟨N.length - i, by omega⟩
      rw [hd]
      exact (evN_low (by omega) d).symm
    refine hB.mean V hV i h ho _ _ _ _ op op op fun o => ?_
    obtain ⟨wa, wb, wc, W, K, hok, hW, hK, qa, qb, qc⟩ := node_ok hall hnode ho
    have e := qb (hok.cat_pos o)
    have hp := hok.cat_pos o
    obtain ⟨-, -, e2⟩ := wid_pos (N := N) (a := (Kiiiiiii_at N i).2.2.2.1) (i := i) (by omega)
    exact e2.symm
/-- What stands in all variables, of the inputs and of the state. -/
theorem V_in {A B W : List Bool} {t : Nat} (h : t < A.length) : Kb_at ((false :: (A ++ B)) ++ W) ((1 + t : Nat) : Int) = Kb_at A (t : Int) := by
  rw [show (1 + t : Nat) = t + 1 by omega]
  show at_ b_ _ _ = at_ b_ A _
  rw [at_nat (t := b_) (by simp; omega), at_nat (t := b_) h, List.getElem_append_left (by simp; omega), List.getElem_cons_succ, List.getElem_append_left h]
theorem V_st {A B W : List Bool} {t : Nat} (h : t < B.length) : Kb_at ((false :: (A ++ B)) ++ W) ((1 + A.length + t : Nat) : Int) = Kb_at B (t : Int) := by
  rw [show (1 + A.length + t : Nat) = (A.length + t) + 1 by omega]
  show at_ b_ _ _ = at_ b_ B _
  rw [at_nat (t := b_) (by simp; omega), at_nat (t := b_) h, List.getElem_append_left (by simp; omega), List.getElem_cons_succ, List.getElem_append_right (by omega)]
  congr 1
  omega
theorem in_mean {B W : List Bool} (r : RightP N I C P Q) (hi : FitI N I x) (hB : BitsOK N (LLof I C) ins G M N.length) {j : Nat} (hj : j < I.length) : ((nb (bv ((false :: (insL (pinL N I I.length) x ++ B)) ++ W) (Mi_Li_get M (Ksi_at I (j : Int)).2 [])) : Nat) : Int) = Ki_at x (j : Int) := by
  have hjl : j < (LLof I C).length := by simp [LLof, pinN]; omega
  have hjp : j < (pinN I).length := by simpa [pinN] using hj
  have e1 : Ki_at (LLof I C) (j : Int) = (Ksi_at I (j : Int)).2 := by
    rw [← pinN_at hj]
    exact at_app1 (t := i_) hjp
  have hp := hB.pre j hjl
  rw [e1] at hp
  have e2 : wl N ((LLof I C).take j) = (pinL N I j).length := by
    rw [pinL_len (by omega), LLof, List.take_append_of_le_length (by omega)]
  have h16 := wN_16 r hj
  obtain ⟨p0, p1, p2⟩ := pin_node r.ins hj
  have hnode := node_at r.nodes p0 p1
  have w1 := hnode.w1
  have hw : ((wN N (Ksi_at I (j : Int)).2 : Nat) : Int) = (Kiiiiiii_at N (Ksi_at I (j : Int)).2).2.1 := by unfold wN; omega
  obtain ⟨n0, n1⟩ := hi.2 j hj
  rw [hp, e2, bv_var]
  have e3 : ((List.range (wN N (Ksi_at I (j : Int)).2)).map fun k => Kb_at ((false :: (insL (pinL N I I.length) x ++ B)) ++ W) ((1 + (pinL N I j).length + k : Nat) : Int)) = (List.range (wN N (Ksi_at I (j : Int)).2)).map (bitB (Ki_at x (j : Int))) := by
    refine List.map_congr_left fun k hk => ?_
    have hk' := List.mem_range.1 hk
    obtain ⟨-, hlt⟩ := pinL_at (N := N) (I := I) hj hk'
    rw [show 1 + (pinL N I j).length + k = 1 + ((pinL N I j).length + k) by omega, V_in (by simpa [insL] using hlt)]
    exact insL_at hj hk'
  rw [e3]
  exact nb_num n0 (by rw [hw]; exact n1) h16
theorem wN_16c (r : RightP N I C P Q) {j : Nat} (hj : j < C.length) : wN N (Ksiii_at C (j : Int)).2.1 ≤ 16 := by
  obtain ⟨p0, p1, p2⟩ := cell_node r.cells hj
  have := (node_at r.nodes p0 p1).w16
  unfold wN; omega
theorem stL_at {B : Int → List Int} {nI j k : Nat} (h1 : j < C.length) (h2 : k < wN N (Ksiii_at C (j : Int)).2.1) : Kb_at (stL (latL N C B nI C.length) st) (((latL N C B nI j).length + k : Nat) : Int) = bitB (Ki_at st (j : Int)) k := by
  obtain ⟨-, h3⟩ := latL_at (B := B) (nI := nI) h1 h2
  rw [show Kb_at (stL (latL N C B nI C.length) st) (((latL N C B nI j).length + k : Nat) : Int) = _ from at_range (t := b_) h3]
  exact latL_st h1 h2 rfl
theorem st_mean {F : Int → List Int} {A W : List Bool} (r : RightP N I C P Q) (hs : FitC N C st) (hB : BitsOK N (LLof I C) ins G M N.length) (hA : A.length = (pinL N I I.length).length) {nI j : Nat} (hj : j < C.length) : ((nb (bv ((false :: (A ++ stL (latL N C F nI C.length) st)) ++ W) (Mi_Li_get M (Ksiii_at C (j : Int)).2.1 [])) : Nat) : Int) = Ki_at st (j : Int) := by
  have hpl : (pinN I).length = I.length := by simp [pinN]
  have hjl : I.length + j < (LLof I C).length := by simp [LLof, pinN, celN]; omega
  have hjp : j < (celN C).length := by simpa [celN] using hj
  have e1 : Ki_at (LLof I C) ((I.length + j : Nat) : Int) = (Ksiii_at C (j : Int)).2.1 := by
    rw [← celN_at hj]
    show at_ i_ (pinN I ++ celN C) _ = at_ i_ (celN C) _
    rw [at_nat (t := i_) (by simp; omega), at_nat (t := i_) hjp, List.getElem_append_right (by omega)]
    congr 1
    omega
  have hp := hB.pre (I.length + j) hjl
  rw [e1] at hp
  have e2 : wl N ((LLof I C).take (I.length + j)) = A.length + (latL N C F nI j).length := by
    rw [latL_len (by omega), hA, pinL_len (Nat.le_refl _), LLof, List.take_append, wl_app, hpl]
    congr 2
    · rw [List.take_of_length_le (by omega), List.take_of_length_le (by omega)]
    · congr 1; omega
  have h16 := wN_16c r hj
  obtain ⟨p0, p1, p2⟩ := cell_node r.cells hj
  have hnode := node_at r.nodes p0 p1
  have w1 := hnode.w1
  have hw : ((wN N (Ksiii_at C (j : Int)).2.1 : Nat) : Int) = (Kiiiiiii_at N (Ksiii_at C (j : Int)).2.1).2.1 := by unfold wN; omega
  obtain ⟨n0, n1⟩ := hs.2 j hj
  rw [hp, e2, bv_var]
  have e3 : ((List.range (wN N (Ksiii_at C (j : Int)).2.1)).map fun k => Kb_at ((false :: (A ++ stL (latL N C F nI C.length) st)) ++ W) ((1 + (A.length + (latL N C F nI j).length) + k : Nat) : Int)) = (List.range (wN N (Ksiii_at C (j : Int)).2.1)).map (bitB (Ki_at st (j : Int))) := by
    refine List.map_congr_left fun k hk => ?_
    have hk' := List.mem_range.1 hk
    obtain ⟨-, hlt⟩ := latL_at (N := N) (C := C) (B := F) (nI := nI) hj hk'
    rw [show 1 + (A.length + (latL N C F nI j).length) + k = 1 + A.length + ((latL N C F nI j).length + k) by omega, V_st (by simpa [stL] using hlt)]
    exact stL_at hj hk'
  rw [e3]
  exact nb_num n0 (by rw [hw]; exact n1) h16
end
/-- A net's circuit, of its graph and bits. -/
abbrev latM (N : List Nd) (I : List Pn) (C : List Cl) (M : List (Int × List Int)) : List Kiibii := latL N C (fun x => Mi_Li_get M x []) (pinL N I I.length).length C.length
abbrev outM (P : List Pw) (M : List (Int × List Int)) : List Kiii := outL P (fun x => Mi_Li_get M x [])
section
variable {n : Nat} {N : List Nd} {I : List Pn} {C : List Cl} {P : List Pw} {Q : List Pn} {st x : List Int} {G : List Kii} {M : List (Int × List Int)}
/-- A step of a net's circuit is its net's. -/
theorem stepN_f (r : RightP N I C P Q) (hB : BitsOK N (LLof I C) (wl N (LLof I C)) G M N.length) (hi : FitI N I x) (hs : FitC N C st) (hn : 30000 < n) : circ_Step n (wl N (LLof I C) : Nat) G (pinL N I I.length) (latM N I C M) (outM P M) (stL (latM N I C M) st) (insL (pinL N I I.length) x) = some (stL (latM N I C M) (afterV C (evalV N I C st x)), (List.range P.length).map (fun j : Nat => decide (Ki_at (evalV N I C st x) (Kisi_at P (j : Int)).2.2 = 1)), ()) := by
  obtain ⟨W, e, hM⟩ := step15_f (n := n) (lats := stL (latM N I C M) st) (inps := insL (pinL N I I.length) x) (comp_right r hB) (by simp [stL]) (by simp [insL]) hn
  rw [e]
  have hv := mean_eval r hi hs hB hM (fun j hj => in_mean r hi hB hj) (fun j hj => st_mean r hs hB (by simp [insL]) hj)
  generalize (false :: (insL (pinL N I I.length) x ++ stL (latM N I C M) st)) ++ W = V at hM hv ⊢
  congr 2
  · unfold stL
    refine List.map_congr_left fun t ht => ?_
    obtain ⟨j, k, h1, h2, rfl⟩ := latL_of (N := N) (C := C) (B := fun x => Mi_Li_get M x []) (nI := (pinL N I I.length).length) (m := C.length) (List.mem_range.1 ht)
    rw [latL_st h1 h2 rfl, (latL_at h1 h2).1]
    obtain ⟨n0, n1, n2⟩ := next_pos r h1
    obtain ⟨b1, b2⟩ := hB.ok (Ksiii_at C (j : Int)).2.2.1 (.inr ⟨n0, n1⟩)
    have hk : k < (Mi_Li_get M (Ksiii_at C (j : Int)).2.2.1 []).length := by rw [b2]; unfold wN at h2 ⊢; omega
    have h16 := wN_16c r h1
    have hwn : wN N (Ksiii_at C (j : Int)).2.2.1 = wN N (Ksiii_at C (j : Int)).2.1 := by unfold wN; omega
    have e2 : Ki_at (afterV C (evalV N I C st x)) (j : Int) = Ki_at (evalV N I C st x) (Ksiii_at C (j : Int)).2.2.1 := at_range (t := i_) h1
    have e3 := hv (Ksiii_at C (j : Int)).2.2.1.toNat (by omega)
    rw [show (((Ksiii_at C (j : Int)).2.2.1.toNat : Nat) : Int) = (Ksiii_at C (j : Int)).2.2.1 by omega] at e3
    rw [e2, ← e3, bitB_nb (by rw [bv_len, b2, hwn]; exact h16) (by rw [bv_len]; exact hk), bv_at hk]
  · congr 1
    rw [show (outM P M).length = P.length by simp [outM, outL]]
    refine List.map_congr_left fun j hj => ?_
    have hj' := List.mem_range.1 hj
    obtain ⟨k1, k2, k3⟩ := r.prop j hj'
    obtain ⟨w0, w1, w2⟩ := wid_pos (N := N) (a := (Kisi_at P (j : Int)).2.2) (i := N.length) (by omega)
    obtain ⟨b1, b2⟩ := hB.ok (Kisi_at P (j : Int)).2.2 (.inr ⟨w0, w1⟩)
    have e : Kiii_at (outM P M) (j : Int) = ((Kisi_at P (j : Int)).1, Ki_at (Mi_Li_get M (Kisi_at P (j : Int)).2.2 []) 0, (j : Int)) := at_range (t := Kiii_) hj'
    have e3 := hv (Kisi_at P (j : Int)).2.2.toNat (by omega)
    rw [show (((Kisi_at P (j : Int)).2.2.toNat : Nat) : Int) = (Kisi_at P (j : Int)).2.2 by omega] at e3
    have hl : (Mi_Li_get M (Kisi_at P (j : Int)).2.2 []).length = 1 := by rw [b2]; unfold wN; omega
    rw [e, ← e3]
    match Mi_Li_get M (Kisi_at P (j : Int)).2.2 [], hl with
    | [y], _ =>
      show lv V y = decide ((((nb [lv V y]) : Nat) : Int) = 1)
      rw [nb_one]
      cases lv V y <;> rfl
end
end Go.Proofs.YtnjoiokbeknopaaGreat.Am
