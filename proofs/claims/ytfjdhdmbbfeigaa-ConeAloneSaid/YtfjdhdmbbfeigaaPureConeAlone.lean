/- ConeAlone, in plain Lean. -/
import Derived.Test.YtfjdhdmbbfeigaaPcU4
namespace Go.Proofs.Ytfjdhdmbbfeigaa.Am
set_option linter.unusedVariables false
set_option linter.unusedSimpArgs false
section
variable {n : Nat} {N : List Nd} {I : List Pn} {C : List Cl} {P : List Pw} {Q : List Pn} {ins : Nat} {G : List Kii} {iL oL : List Kiii} {lL : List Kiibii} {m m2 : Mk}
theorem pcirc2_f (s : Small N I C P Q) (r : RightP N I C P Q) (hw : wts N N.length ≤ 1000) (hn : 30000 < n) : ∃ (ins : Nat) (G : List Kii) (iL : List Kiii) (lL : List Kiibii) (oL : List Kiii), circ_Compile n N I C P Q = some ((ins : Int), G, iL, lL, oL, ()) ∧ CircR ins G iL lL oL ∧ G.length ≤ 15000 ∧ ∀ j : Nat, j < oL.length → (Kiii_at oL (j : Int)).2.2 = (j : Int) := by
  obtain ⟨G, M, e1, hB, hG⟩ := compile_f s r (by omega) hn
  refine ⟨_, G, _, _, _, e1, comp_right r hB, by omega, fun j hj => ?_⟩
  unfold outL at hj ⊢
  simp only [List.length_map, List.length_range] at hj
  rw [show Kiii_at ((List.range P.length).map _) (j : Int) = _ from at_range (t := Kiii_) hj]
/-- A cone's own cone is all of it. -/
theorem coAll (c : CircR ins G iL lL oL) {q : Nat} (hq : q < oL.length) (hm : MarkR G iL lL (ins + 1 + G.length) ((selO oL q).map (·.2.1)) (Mi_b_put [] 0 true) m) (hsel : selO (coneO m (selO oL q)) 0 = coneO m (selO oL q)) (h2 : MarkR (coneA m ins G) (coneI m iL) (coneL m iL.length lL) (((cI m iL.length).length + (cB m iL.length lL.length).length : Nat) + 1 + (coneA m ins G).length) ((selO (coneO m (selO oL q)) 0).map (·.2.1)) (Mi_b_put [] 0 true) m2) : ∀ v : Nat, 1 ≤ v → v ≤ (cI m iL.length).length + (cB m iL.length lL.length).length + (coneA m ins G).length → mkd m2 (v : Int) = true := by
  have hs := c.sum
  have mc := hm.clo c
  have c2 := coRight c hq mc
  have mc2 := h2.clo c2
  rw [hsel] at mc2
  have r1 := cI_rk (m := m) iL.length
  have r2 := cB_rk (m := m) iL.length lL.length
  rw [show iL.length + lL.length = ins by omega, r1] at r2
  have r3 := cB_rk (m := m) ins G.length
  have lA : (coneA m ins G).length = (cB m ins G.length).length := by simp [coneA]
  have lI : (coneI m iL).length = (cI m iL.length).length := by simp [coneI]
  have lL' : (coneL m iL.length lL).length = (cB m iL.length lL.length).length := by simp [coneL]
  have hlit : ∀ x ∈ selO oL q, LitG ins G x.2.1 := fun x hx => by
    obtain ⟨j, hj, rfl⟩ := selO_mem hq x hx
    exact (c.o j hj).2.2.2
  have low : ∀ v : Nat, mkd m (v : Int) = true → v ≤ ins + G.length := fun v hv => by
    by_cases h0 : v = 0
    · omega
    · have := (hm.new _ hv (first_mk (by omega))).2.1
      omega
  have key : ∀ v : Nat, mkd m (v : Int) = true → mkd m2 (rk m v : Int) = true := fun v hv => by
    by_cases hv0 : v = 0
    · subst hv0; exact mc2.z
    have := hm.sound (fun w => 0 ≤ w ∧ mkd m w = true ∧ mkd m2 (rk m w.toNat : Int) = true) (fun x hx => by
      obtain ⟨y, hy, rfl⟩ := List.mem_map.1 hx
      obtain ⟨l0, l1⟩ := hlit y hy
      refine ⟨by omega, mc.o y hy, ?_⟩
      obtain ⟨k, hk, rfl⟩ := List.getElem_of_mem hy
      have := mc2.o _ (sel_mem (sO := coneO m (selO oL q)) (j := k) (by simpa [coneO] using hk))
      rw [coneO_at hk] at this
      simp only at this
      rw [litM_div, show Kiii_at (selO oL q) (k : Int) = (selO oL q)[k] from at_nat (t := Kiii_) hk] at this
      exact this) (fun w hw y hy => by
      obtain ⟨w0, w1, w2⟩ := hw
      obtain ⟨w, rfl⟩ := Int.eq_ofNat_of_zero_le w0
      rw [Int.toNat_natCast] at w2
      have wl := low w w1
      unfold kids at hy
      by_cases c1 : (w : Int) ≤ iL.length
      · rw [if_pos c1] at hy; simp at hy
      rw [if_neg c1] at hy
      by_cases c3 : (w : Int) ≤ (iL.length : Int) + lL.length
      · rw [if_pos c3] at hy
        obtain ⟨k, rfl⟩ : ∃ k, w = iL.length + k + 1 := ⟨w - iL.length - 1, by omega⟩
        rw [show ((iL.length + k + 1 : Nat) : Int) - iL.length - 1 = (k : Int) by omega, List.mem_singleton] at hy
        obtain ⟨d1, d2, d3, d40, d41⟩ := c.l k (by omega)
        have ho := cB_of (a := iL.length) (L := lL.length) (i := k) (by omega) w1
        obtain ⟨o1, o2⟩ := List.getElem?_eq_some_iff.1 ho
        rw [hy]
        refine ⟨by omega, mc.l k (by omega) w1, ?_⟩
        rw [rk, if_pos w1, cB_rk, r1] at w2
        have := mc2.l (cB m iL.length k).length (by rw [lL']; exact o1) (by rw [lI]; exact w2)
        rw [show Kiibii_at (coneL m iL.length lL) ((cB m iL.length k).length : Int) = _ from mapN_at (t := Kiibii_) o1, show (cB m iL.length lL.length).getD (cB m iL.length k).length 0 = k by simp [List.getD, ho]] at this
        simp only at this
        rwa [litM_div] at this
      · rw [if_neg c3] at hy
        obtain ⟨k, rfl⟩ : ∃ k, w = ins + k + 1 := ⟨w - ins - 1, by omega⟩
        rw [show ((ins + k + 1 : Nat) : Int) - iL.length - lL.length - 1 = (k : Int) by omega] at hy
        have hkl : k < G.length := by omega
        have ha := c.r.a k hkl
        have ho := cB_of (a := ins) (L := G.length) (i := k) hkl w1
        obtain ⟨o1, o2⟩ := List.getElem?_eq_some_iff.1 ho
        obtain ⟨k1, k2⟩ := mc.a k hkl w1
        rw [rk, if_pos w1, cB_rk, r2] at w2
        have := mc2.a (cB m ins k).length (by rw [lA]; exact o1) w2
        rw [show Kii_at (coneA m ins G) ((cB m ins k).length : Int) = _ from mapN_at (t := Kii_) o1, show (cB m ins G.length).getD (cB m ins k).length 0 = k by simp [List.getD, ho]] at this
        simp only at this
        rw [litM_div, litM_div] at this
        simp only [List.mem_cons, List.not_mem_nil, or_false] at hy
        rcases hy with rfl | rfl
        · exact ⟨by omega, k1, this.1⟩
        · exact ⟨by omega, k2, this.2⟩) _ hv
    rcases this with h | h
    · rw [first_mk (by omega)] at h; cases h
    · have := h.2.2
      rwa [Int.toNat_natCast] at this
  intro v h1 hv
  obtain ⟨w, w1, w2, w3, w4⟩ := rk_surj (m := m) (T := ins + G.length) h1 (by omega)
  rw [← w4]
  exact key w w3
theorem sel_self {q : Nat} (hq : q < oL.length) : selO (coneO m (selO oL q)) 0 = coneO m (selO oL q) := by
  have hlen : (coneO m (selO oL q)).length = (selO oL q).length := by simp [coneO]
  have hpos : 0 < (selO oL q).length := by simp [selO]
  have hk : ∀ j : Nat, 1 ≤ j → j < (selO oL q).length → (Kiii_at (coneO m (selO oL q)) (j : Int)).1 = 9 := fun j h1 h2 => by
    rw [coneO_at h2]
    simp only
    obtain ⟨k, rfl⟩ : ∃ k, j = k + 1 := ⟨j - 1, by omega⟩
    rw [show Kiii_at (selO oL q) ((k + 1 : Nat) : Int) = (selO oL q)[k + 1] from at_nat (t := Kiii_) h2]
    have hmem : (selO oL q)[k + 1] ∈ (pickN (fun j => decide (j ≠ q) && decide ((Kiii_at oL (j : Int)).1 = 9)) oL.length).map fun j : Nat => Kiii_at oL (j : Int) := by
      simp only [selO, List.getElem_cons_succ]
      exact List.getElem_mem _
    obtain ⟨i, hi, e⟩ := List.mem_map.1 hmem
    rw [← e]
    have := (pickN_mem.1 hi).2
    simp at this
    exact this.2
  have e1 : pickN (fun j => decide (j ≠ 0) && decide ((Kiii_at (coneO m (selO oL q)) (j : Int)).1 = 9)) (coneO m (selO oL q)).length = (List.range ((selO oL q).length - 1)).map (· + 1) := by
    rw [hlen]
    obtain ⟨L, hL⟩ : ∃ L, (selO oL q).length = L + 1 := ⟨(selO oL q).length - 1, by omega⟩
    rw [hL, Nat.add_sub_cancel]
    have : ∀ j, j ≤ L → pickN (fun j => decide (j ≠ 0) && decide ((Kiii_at (coneO m (selO oL q)) (j : Int)).1 = 9)) (j + 1) = (List.range j).map (· + 1) := by
      intro j
      induction j with
      | zero => intro _; rfl
      | succ j ih =>
        intro hj
        rw [pickN_succ, ih (by omega), hk (j + 1) (by omega) (by omega)]
        simp [List.range_succ]
    exact this L (Nat.le_refl _)
  have hl2 : (coneO m (selO oL q)).length = ((selO oL q).length - 1) + 1 := by omega
  have h3 : (selO oL q).length = (pickN (fun j => decide (j ≠ q) && decide ((Kiii_at oL (j : Int)).1 = 9)) oL.length).length + 1 := by simp [selO]
  unfold selO at e1 ⊢
  refine List.ext_getElem ?_ fun k h1 h2 => ?_
  · rw [e1]
    simp only [List.length_cons, List.length_map, List.length_range]
    change _ = (coneO m (selO oL q)).length
    rw [hl2, h3]
  · have e2 : ∀ k (h : k < (coneO m (selO oL q)).length), (coneO m (selO oL q))[k] = Kiii_at (coneO m (selO oL q)) (k : Int) := fun k h => (at_nat (t := Kiii_) h).symm
    unfold selO at e2
    rw [e2 k h2]
    cases k with
    | zero => rfl
    | succ k =>
      simp only [List.getElem_cons_succ, List.getElem_map, e1, List.getElem_range]
theorem alone16 {x : Int} {x7 x8 : List Bool} (h0 : 0 ≤ x) (h1 : x ≤ 255) : law16_ConeAlone big N I C P Q x x7 x8 = some (true, ()) := by
  have hn : 30000 < big := by decide
  unfold law16_ConeAlone
  rw [head16, bindS]
  obtain ⟨g, hg, hs⟩ := great16_f (n := big) (N := N) (I := I) (C := C) (P := P) (Q := Q) hn
  rw [hg, bindS]
  cases g with
  | true => rfl
  | false =>
  obtain ⟨s, r, hw⟩ := hs rfl
  obtain ⟨ins, G, iL, lL, oL, e1, c, hG, hpl⟩ := pcirc2_f s r hw hn
  have hl := c.l256
  have ho := c.o1000
  have i1 := c.r.i1
  have hsum := c.sum
  have hr15 := right15_f c hn
  simp only [cond_false]
  rw [e1, bindS]
  unfold law16_ConeAlone_j1
  simp only
  rw [hr15, bindS]
  simp only [Bool.not_true, cond_false, bindS, cond_dec]
  by_cases hz : (oL.length : Int) = 0
  · rw [if_pos hz]
    rfl
  rw [if_neg hz]
  obtain ⟨q, e3, hq⟩ := place_f (n := big) h0 h1 (m := oL.length) (by omega)
  obtain ⟨m, e4, hm⟩ := cone3_f (n := big) c hG hn hq
  have mc := hm.clo c
  have c2 := coRight c hq mc
  have lA : (coneA m ins G).length = (cB m ins G.length).length := by simp [coneA]
  have lI : (coneI m iL).length = (cI m iL.length).length := by simp [coneI]
  have lL' : (coneL m iL.length lL).length = (cB m iL.length lL.length).length := by simp [coneL]
  have lO : (coneO m (selO oL q)).length = (selO oL q).length := by simp [coneO]
  have nA : (cB m ins G.length).length ≤ G.length := pickN_le
  have nI : (cI m iL.length).length ≤ iL.length := pickN_le
  have nL : (cB m iL.length lL.length).length ≤ lL.length := pickN_le
  have nO := selO_le hq
  have hpos : 0 < (selO oL q).length := by simp [selO]
  obtain ⟨m2, e5, hm2⟩ := cone3_f (n := big) c2 (by omega) hn (q := 0) (by omega)
  have hsel := sel_self (m := m) hq
  have hall := coAll c hq hm hsel hm2
  obtain ⟨f1, f2, f3, f4⟩ := coFull c2 hall
  have f4 := f4 _ (fun x hx => by
    obtain ⟨j, hj, rfl⟩ := selO_mem (oL := coneO m (selO oL q)) (q := 0) (by omega) x (by rw [hsel]; exact hx)
    exact (c2.o j hj).2.2.2)
  have fI := cI_full (L := (coneI m iL).length) hall (by omega)
  have fL := cB_full (a := (coneI m iL).length) (L := (coneL m iL.length lL).length) hall (by omega)
  rw [hsel, f1, f2, f3, f4, fI, fL, List.length_range, List.length_range, lI, lL'] at e5
  generalize hx : bits16 x8 iL.length = xs at *
  generalize hst : bits16 x7 lL.length = st at *
  have hxl : xs.length = iL.length := by rw [← hx]; simp [bits16]
  have hsl : st.length = lL.length := by rw [← hst]; simp [bits16]
  obtain ⟨W, e6, hW, hV⟩ := step15_w (n := big) (lats := st) (inps := xs) c hsl hxl hn
  obtain ⟨W2, e7, hW2, hU⟩ := step15_w (n := big) (lats := pickS st (cB m iL.length lL.length)) (inps := pickS xs (cI m iL.length)) c2 (by simp [pickS, coneL]) (by simp [pickS, coneI]) hn
  have sem := coSem c mc hxl hsl hV hU
  have nx := coNext c mc sem
  have out : ∀ j : Nat, j < (selO oL q).length → lv ((false :: (pickS xs (cI m iL.length) ++ pickS st (cB m iL.length lL.length))) ++ W2) (Kiii_at (coneO m (selO oL q)) (j : Int)).2.1 = lv ((false :: (xs ++ st)) ++ W) (Kiii_at (selO oL q) (j : Int)).2.1 := fun j hj => coOut (fun x hx => by
    obtain ⟨j, hj, rfl⟩ := selO_mem hq x hx
    exact (c.o j hj).2.2.2) mc sem hj
  rw [e3]
  simp only [bindS]
  rw [e4, bindS]
  simp only
  rw [circR_f c2 hn, bindS]
  simp only [Bool.not_true, cond_false]
  rw [right15_f c2 hn, bindS]
  simp only [Bool.not_true, cond_false]
  rw [if_neg (by simp [coneL, natI]), if_neg (by omega), bits16_f (by omega) hn, bindS, hst, bits16_f (by omega) hn, bindS, hx, e6, bindS]
  simp only
  rw [pick16_f (by omega) (fun k hk => by have := (cB_bnd hk).1; omega) hn, bindS, ins16_f c hn, bindS]
  simp only
  rw [pick16_f (by omega) (fun k hk => by have := (cI_bnd hk).1; omega) hn, bindS]
  simp only
  rw [e7, bindS]
  simp only
  rw [if_neg (by simp), if_neg (by simp), if_neg (by simp), pick16_f (by omega) (fun k hk => by rw [List.length_map, List.length_range]; exact (cB_bnd hk).1) hn, bindS]
  simp only
  unfold nextB at nx
  rw [nx, same_f (by simp [pickS]; omega) hn, bindS]
  simp only [Bool.not_true, cond_false]
  have oat : ∀ j : Nat, j < (selO oL q).length → Kb_at ((List.range (coneO m (selO oL q)).length).map (fun j : Nat => lv ((false :: (pickS xs (cI m iL.length) ++ pickS st (cB m iL.length lL.length))) ++ W2) (Kiii_at (coneO m (selO oL q)) (j : Int)).2.1)) (j : Int) = lv ((false :: (xs ++ st)) ++ W) (Kiii_at (selO oL q) (j : Int)).2.1 := fun j hj => by
    rw [← out j hj]
    exact at_range (t := b_) (by omega)
  have vat : ∀ j : Nat, j < oL.length → Kb_at ((List.range oL.length).map (fun j : Nat => lv ((false :: (xs ++ st)) ++ W) (Kiii_at oL (j : Int)).2.1)) (j : Int) = lv ((false :: (xs ++ st)) ++ W) (Kiii_at oL (j : Int)).2.1 := fun j hj => at_range (t := b_) hj
  have o0 := oat 0 hpos
  rw [show Kiii_at (selO oL q) ((0 : Nat) : Int) = Kiii_at oL (q : Int) from rfl, ← vat q hq] at o0
  rw [ask_of (by simp; omega), ask_of (by simp; omega), show (0 : Int) = ((0 : Nat) : Int) from rfl, o0, bne_self_eq_false]
  simp only [cond_false]
  have l2 := iter_up (F := law16_ConeAlone_l2b big ((((cI m iL.length).length + (cB m iL.length lL.length).length : Nat) : Int), coneA m ins G, coneI m iL, coneL m iL.length lL, coneO m (selO oL q), natI (cB m iL.length lL.length), ()) ((List.range lL.length).map (fun j : Nat => lv ((false :: (xs ++ st)) ++ W) (Kiibii_at lL (j : Int)).2.1), (List.range oL.length).map (fun j : Nat => lv ((false :: (xs ++ st)) ++ W) (Kiii_at oL (j : Int)).2.1), ()) (pickS ((List.range lL.length).map (fun j : Nat => lv ((false :: (xs ++ st)) ++ W) (Kiibii_at lL (j : Int)).2.1)) (cB m iL.length lL.length), (List.range (coneO m (selO oL q)).length).map (fun j : Nat => lv ((false :: (pickS xs (cI m iL.length) ++ pickS st (cB m iL.length lL.length))) ++ W2) (Kiii_at (coneO m (selO oL q)) (j : Int)).2.1), ())) (fun j => (((j + 1 : Nat) : Int), ())) (.inr ()) (len := (selO oL q).length - 1) (m := big)
    (fun self j hj => by
      have hmem : (selO oL q)[j + 1] ∈ (pickN (fun j => decide (j ≠ q) && decide ((Kiii_at oL (j : Int)).1 = 9)) oL.length).map fun j : Nat => Kiii_at oL (j : Int) := by
        simp only [selO, List.getElem_cons_succ]
        exact List.getElem_mem _
      obtain ⟨i, hi, ei⟩ := List.mem_map.1 hmem
      obtain ⟨i0, i9⟩ := pickN_mem.1 hi
      simp at i9
      have hat : Kiii_at (selO oL q) ((j + 1 : Nat) : Int) = Kiii_at oL (i : Int) := by
        rw [ei]
        exact at_nat (t := Kiii_) (by omega)
      have hco := coneO_at (m := m) (sO := selO oL q) (j := j + 1) (by omega)
      have hoj := oat (j + 1) (by omega)
      rw [hat, ← vat i i0] at hoj
      have hpli := hpl i i0
      unfold law16_ConeAlone_l2b
      simp only [cond_dec]
      rw [hco, hat]
      simp only
      rw [if_pos (by omega), ask_of (by omega), ask_of (by omega), if_neg (by omega), hpli, if_neg (by omega), if_neg (by simp; omega), ask_of (by simp; omega), ask_of (by simp; omega), hoj, bne_self_eq_false, succ64 (by omega)]
      rfl)
    (fun self => by
      unfold law16_ConeAlone_l2b
      simp only [cond_dec]
      rw [if_neg (by omega)]) (by omega)
  rw [show law16_ConeAlone_l2 big _ _ _ (1, ()) = _ from l2, bindS, Sum.elim_inr, e5, bindS]
  simp only [cond_true]
  rw [same16_f (by omega) (by omega) (by omega) (by omega) hn, bindS]
  simp [natI, coneL]
end
end Go.Proofs.Ytfjdhdmbbfeigaa.Am
namespace Go.Proofs.Ytfjdhdmbbfeigaa.Pure
open Go.Proofs.Ytfjdhdmbbfeigaa.Am
theorem ConeAlone (d : law16_ConeAlone_s.I) (h : BAs law16_ConeAlone_s.ar d fun _ => True) : ∃ n, law16_ConeAlone n d.1 d.2.1 d.2.2.1 d.2.2.2.1 d.2.2.2.2.1 d.2.2.2.2.2.1 d.2.2.2.2.2.2.1 d.2.2.2.2.2.2.2.1 = some (true, ()) := by
  obtain ⟨-, -, -, -, -, h2, -⟩ := h
  exact ⟨big, alone16 (lit_u8 h2).1 (lit_u8 h2).2⟩
end Go.Proofs.Ytfjdhdmbbfeigaa.Pure
