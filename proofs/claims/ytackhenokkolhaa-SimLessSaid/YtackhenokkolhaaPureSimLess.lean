/- SimLess, in plain Lean. -/
import Derived.Test.YtackhenokkolhaaPlHit
import Derived.Test.YtackhenokkolhaaAmY
namespace Go.Proofs.Ytackhenokkolhaa.Am
set_option linter.unusedVariables false
set_option linter.unusedSimpArgs false
theorem great_n {n : Nat} {N I C P Q} (h : law09_Great n N I C P Q = some (false, ())) : N.length ≤ 300 := by
  unfold law09_Great at h
  simp only [cond_dec] at h
  by_cases c : 300 < (N.length : Int)
  · rw [if_pos c] at h; cases h
  · omega
/-- Assumptions told as covers, so many of them. -/
def rl (P : List Pw) (j : Nat) : List Pw := (List.range P.length).map fun i : Nat => if i < j ∧ (Kisi_at P (i : Int)).1 = 9 then (10, (Kisi_at P (i : Int)).2.1, (Kisi_at P (i : Int)).2.2) else Kisi_at P (i : Int)
theorem rl_len {P : List Pw} {j : Nat} : (rl P j).length = P.length := by simp [rl]
theorem rl_at {P : List Pw} {j i : Nat} (h : i < P.length) : Kisi_at (rl P j) (i : Int) = if i < j ∧ (Kisi_at P (i : Int)).1 = 9 then (10, (Kisi_at P (i : Int)).2.1, (Kisi_at P (i : Int)).2.2) else Kisi_at P (i : Int) := at_range (t := Kisi_) h
theorem rl_0 {P : List Pw} : rl P 0 = P := ext_at (t := Kisi_) rl_len fun i hi => by
  rw [rl_len] at hi
  show Kisi_at (rl P 0) (i : Int) = Kisi_at P (i : Int)
  rw [rl_at hi, if_neg (by omega)]
theorem rl_9 {P : List Pw} {j : Nat} (hj : j < P.length) (h : (Kisi_at P (j : Int)).1 = 9) : (rl P j).set j (10, (Kisi_at P (j : Int)).2.1, (Kisi_at P (j : Int)).2.2) = rl P (j + 1) := ext_at (t := Kisi_) (by rw [List.length_set, rl_len, rl_len]) fun i hi => by
  rw [List.length_set, rl_len] at hi
  show Kisi_at ((rl P j).set j (10, (Kisi_at P (j : Int)).2.1, (Kisi_at P (j : Int)).2.2)) (i : Int) = Kisi_at (rl P (j + 1)) (i : Int)
  rw [show Kisi_at ((rl P j).set j (10, (Kisi_at P (j : Int)).2.1, (Kisi_at P (j : Int)).2.2)) (i : Int) = _ from at_set (t := Kisi_) (by rw [rl_len]; exact hj), rl_at hi]
  by_cases e : j = i
  · subst e; rw [if_pos rfl, if_pos ⟨by omega, h⟩]
  · rw [if_neg e]
    show Kisi_at (rl P j) (i : Int) = _
    rw [rl_at hi]
    by_cases c : i < j ∧ (Kisi_at P (i : Int)).1 = 9
    · rw [if_pos c, if_pos ⟨by omega, c.2⟩]
    · rw [if_neg c, if_neg fun q => c ⟨by omega, q.2⟩]
theorem rl_no {P : List Pw} {j : Nat} (hj : j < P.length) (h : (Kisi_at P (j : Int)).1 ≠ 9) : rl P j = rl P (j + 1) := ext_at (t := Kisi_) (by rw [rl_len, rl_len]) fun i hi => by
  rw [rl_len] at hi
  show Kisi_at (rl P j) (i : Int) = Kisi_at (rl P (j + 1)) (i : Int)
  rw [rl_at hi, rl_at hi]
  by_cases c : i < j ∧ (Kisi_at P (i : Int)).1 = 9
  · rw [if_pos c, if_pos ⟨by omega, c.2⟩]
  · rw [if_neg c, if_neg fun q => c ⟨by
      by_cases e : i = j
      · subst e; exact absurd q.2 h
      · omega, q.2⟩]
section
variable {N : List Nd} {I : List Pn} {C : List Cl} {P : List Pw} {Q : List Pn} {t : Tr} {p : Nat}
theorem rl_right (r : RightP N I C P Q) : RightP N I C (rl P P.length) Q :=
  ⟨r.n, r.i, r.c, by rw [rl_len]; exact r.p, r.nodes, r.ins, r.cells, r.cell, fun j hj => by
    rw [rl_len] at hj
    have h := r.prop j hj
    rw [rl_at hj]
    split
    · exact ⟨by simp, by simp, h.2.2⟩
    · exact h, r.name, r.bits⟩
theorem rl_hit (hp : p < P.length) (h9 : (Kisi_at P (p : Int)).1 ≠ 9) {k : Nat} (h : hitV N I C P t p = ((k : Int), true)) : hitV N I C (rl P P.length) t p = ((k : Int), true) := by
  have e : Kisi_at (rl P P.length) (p : Int) = Kisi_at P (p : Int) := by rw [rl_at hp, if_neg fun q => h9 q.2]
  unfold hitV at h ⊢
  rw [if_neg h9] at h
  rw [e, if_neg h9]
  have hB : ∀ v, hitB (rl P P.length) p v = hitB P p v := fun v => by unfold hitB; rw [e]
  have hL : ∀ v, legalB (rl P P.length) v = true := fun v => legalB_iff.2 fun j hj q => by
    rw [rl_len] at hj
    rw [rl_at hj] at q
    split at q
    · cases q
    · rename_i c; exact absurd ⟨hj, q⟩ c
  rcases hitS_spec (L := fun k => legalB P (vV N I C t k)) (H := fun k => hitB P p (vV N I C t k)) t.length 0 with ⟨j, -, h2, h3, h4, h5, h6⟩ | ⟨h1, -⟩
  · rw [h] at h6
    have hk : k = j := by have := congrArg Prod.fst h6; simp only at this; omega
    subst hk
    exact hitS_at (by omega) (fun i hi => ⟨hL _, (hB _).trans (h5 i (by omega) hi).2⟩) (hL _) ((hB _).trans h4)
  · rw [h] at h1
    cases h1
/-- A net with a node more: a literal that is 0, and an assumption that it is not. -/
abbrev nd0 : Nd := (1, 1, 0, 0, 0, 0, 0)
theorem nd_old {i : Nat} (h : i < N.length) : Kiiiiiii_at (N ++ [nd0]) (i : Int) = Kiiiiiii_at N (i : Int) := at_appl (t := Kiiiiiii_) h
theorem nd_oldI {i : Int} (h0 : 0 ≤ i) (h : i < N.length) : Kiiiiiii_at (N ++ [nd0]) i = Kiiiiiii_at N i := by
  have := nd_old (N := N) (i := i.toNat) (by omega)
  rwa [show ((i.toNat : Nat) : Int) = i by omega] at this
theorem nd_new : Kiiiiiii_at (N ++ [nd0]) (N.length : Int) = nd0 := by
  rw [show Kiiiiiii_at (N ++ [nd0]) (N.length : Int) = _ from at_appr (t := Kiiiiiii_) (Nat.le_refl _), Nat.sub_self]
  rfl
theorem wid_old {a i : Int} (h : i ≤ N.length) : wid (N ++ [nd0]) a i = wid N a i := by
  unfold wid
  split
  · rfl
  · rename_i c
    rw [nd_oldI (by omega) (by omega)]
theorem wid_more {a : Int} (h : wid N a N.length ≠ 0) : wid (N ++ [nd0]) a (N.length + 1 : Nat) = wid N a N.length := by
  unfold wid at h ⊢
  split at h
  · exact absurd rfl h
  · rename_i c
    rw [if_neg (by omega), if_neg c, nd_oldI (by omega) (by omega)]
theorem frm_more {op : Int} (ho : op ≠ 1) : ∀ (d i : Nat), i + d = N.length → frm (N ++ [nd0]) op i (d + 1) = frm N op i d
  | 0, i, h => by
    have : i = N.length := by omega
    subst this
    simp only [frm, nd_new]
    rw [if_neg (Ne.symm ho)]
  | d + 1, i, h => by
    rw [frm, frm_more ho d (i + 1) (by omega)]
    conv => rhs; rw [frm]
    rw [nd_old (by omega)]
theorem node_more {j : Nat} (h : NodeP N j) (hj : j < N.length) : NodeP (N ++ [nd0]) j := by
  have e := nd_old (N := N) hj
  have w : ∀ a, wid (N ++ [nd0]) a (j : Int) = wid N a (j : Int) := fun a => wid_old (by omega)
  exact ⟨by rw [e]; exact h.w1, by rw [e]; exact h.w16, by rw [e]; exact h.op, by rw [e]; exact h.a0, by rw [e]; exact h.b0, by rw [e]; exact h.c0, by rw [e, w, w, w]; exact h.fit⟩
theorem node_new : NodeP (N ++ [nd0]) (N.length : Nat) := by
  have e := nd_new (N := N)
  refine ⟨by rw [e]; decide, by rw [e]; decide, by rw [e]; decide, by rw [e]; exact fun _ => rfl, by rw [e]; exact fun _ => rfl, by rw [e]; exact fun _ => rfl, ?_⟩
  rw [e]
  exact .inl ⟨rfl, by decide, by decide, rfl⟩
theorem pw_new {x : Pw} : Kisi_at (P ++ [x]) (P.length : Int) = x := by
  rw [show Kisi_at (P ++ [x]) (P.length : Int) = _ from at_appr (t := Kisi_) (Nat.le_refl _), Nat.sub_self]
  rfl
theorem right_more (r : RightP N I C P Q) (hN : N.length ≤ 300) (hp : P.length < 16) : RightP (N ++ [nd0]) I C (P ++ [(9, ByteArray.empty, (N.length : Int))]) Q := by
  have hl : (N ++ [nd0]).length = N.length + 1 := by simp
  have hc : ∀ j : Nat, j < C.length → 0 ≤ (Ksiii_at C (j : Int)).2.1 ∧ (Ksiii_at C (j : Int)).2.1 < N.length := fun j hj => by
    obtain ⟨m0, m1, -⟩ := cell_node r.cells hj
    exact ⟨m0, m1⟩
  refine ⟨by omega, r.i, r.c, by simp; omega, fun j hj => ?_, by rw [hl, frm_more (by decide) _ _ (by omega)]; exact r.ins, by rw [hl, frm_more (by decide) _ _ (by omega)]; exact r.cells, fun j hj => ?_, fun j hj => ?_, fun j hj => ?_, ?_⟩
  · rw [hl] at hj
    by_cases e : j = N.length
    · subst e; exact node_new
    · exact node_more (r.nodes j (by omega)) (by omega)
  · obtain ⟨h1, h2, h3⟩ := r.cell j hj
    obtain ⟨c0, c1⟩ := hc j hj
    have hw := node_at r.nodes c0 c1
    have w1 := hw.w1
    refine ⟨?_, h2, ?_⟩
    · rw [hl, nd_oldI c0 c1, wid_more (by omega)]; exact h1
    · rw [nd_oldI c0 c1]; exact h3
  · simp only [List.length_append, List.length_singleton] at hj
    by_cases e : j = P.length
    · subst e
      rw [pw_new]
      refine ⟨by simp, by simp, ?_⟩
      rw [hl]
      unfold wid
      rw [if_neg (by simp only; omega)]
      simp only [nd_new]
    · rw [show Kisi_at (P ++ [(9, ByteArray.empty, (N.length : Int))]) (j : Int) = _ from at_appl (t := Kisi_) (by omega)]
      have h := r.prop j (by omega)
      have h3 := h.2.2
      exact ⟨h.1, h.2.1, by rw [hl]; exact (wid_more (by show wid N (Kisi_at P (j : Int)).2.2 N.length ≠ 0; omega)).trans h3⟩
  · rw [hl, wid_more (r.name j hj)]
    exact r.name j hj
  · have : wsum (N ++ [nd0]) C = wsum N C := by
      unfold wsum
      congr 1
      refine List.map_congr_left fun c hc' => ?_
      have hm : c.2.1 ∈ frm N 22 0 N.length := by rw [← r.cells]; exact List.mem_map.2 ⟨c, hc', rfl⟩
      have := frm_mem _ _ _ hm
      rw [nd_oldI (by omega) (by omega)]
    rw [this]
    exact r.bits
theorem fit_more (r : RightP N I C P Q) (ft : FitT N I t) : FitT (N ++ [nd0]) I t := ⟨ft.1, fun k hk => ⟨(ft.2 k hk).1, fun j hj => by
  obtain ⟨m0, m1, -⟩ := pin_node r.ins hj
  rw [nd_oldI m0 m1]
  exact (ft.2 k hk).2 j hj⟩⟩
theorem zero_more {k : Nat} : Ki_at (vV (N ++ [nd0]) I C t k) (N.length : Int) = 0 := by
  unfold vV evalV
  have hl : (N ++ [nd0]).length = N.length + 1 := by simp
  rw [hl, evN, nd_new, if_neg (by decide)]
  have h2 := evN_len (N ++ [nd0]) (stV (N ++ [nd0]) I C (sV (N ++ [nd0]) I C t k) (KLi_at t (k : Int))) N.length
  rw [stV_len, hl] at h2
  rw [show Ki_at ((evN (N ++ [nd0]) (stV (N ++ [nd0]) I C (sV (N ++ [nd0]) I C t k) (KLi_at t (k : Int))) N.length).set N.length (doV (N ++ [nd0]) (evN (N ++ [nd0]) (stV (N ++ [nd0]) I C (sV (N ++ [nd0]) I C t k) (KLi_at t (k : Int))) N.length) nd0)) (N.length : Int) = _ from at_set (t := i_) (by omega), if_pos rfl]
  unfold doV
  rw [do_lit]
theorem never (hp : p < P.length) : (hitV (N ++ [nd0]) I C (P ++ [(9, ByteArray.empty, (N.length : Int))]) t p).2 = false := by
  unfold hitV
  split
  · rfl
  · rw [hitS_no fun j _ _ hL => ?_]
    exfalso
    have hL := legalB_iff.1 hL P.length (by simp) (by rw [pw_new])
    rw [pw_new] at hL
    exact hL zero_more
end
theorem lesser {N I C P Q} {l : Tr} {a : Int} (hl : U16r l) (ha : (Lit.int .u8 a).wf = true) : law11_SimLess big N I C P Q l a = some (true, ()) := by
  have hn : 1000 < big := by decide
  unfold law11_SimLess
  rw [head11, bindS]
  obtain ⟨g, hg, hs⟩ := great_f (n := big) (N := N) (I := I) (C := C) (P := P) (Q := Q)
  rw [hg, bindS]
  cases g with
  | true => rfl
  | false =>
  have s := hs rfl
  have s1 := great_n hg
  have s4 := s.p
  obtain ⟨b, hb_, hr⟩ := right_f s hn
  simp only [cond_false, hb_, bindS]
  cases b with
  | false => rfl
  | true =>
  have r := hr.1 rfl
  simp only [Bool.not_true, cond_false, cond_dec]
  by_cases hP : (P.length : Int) = 0
  · rw [if_pos hP]
  rw [if_neg hP]
  by_cases hP2 : (16 : Int) ≤ (P.length : Int)
  · rw [if_pos hP2]
  rw [if_neg hP2, trace_f s r hn, bindS]
  have ft := trace_fit r hl
  have tl : (traceV N I l).length ≤ 64 := by rw [trace_len]; omega
  generalize traceV N I l = t at *
  obtain ⟨p, hp, e⟩ := lit_mod8 (m := P.length) ha (by omega) (by omega)
  simp only [e]
  rw [ask_of hP, simHit_f s r ft hn hp, bindS]
  simp only [List.nil_append]
  rw [ask_of (by simp; omega)]
  have l1 := iter_up (F := law11_SimLess_l1b big) (fun j => ((j : Int), N, I, C, Q, rl P j, ())) (N, I, C, Q, rl P P.length, ()) (len := P.length) (m := big)
    (fun self j hj => by
      have hl := rl_len (P := P) (j := j)
      have hat : Kisi_at (rl P j) (j : Int) = Kisi_at P (j : Int) := by rw [rl_at hj, if_neg (by omega)]
      unfold law11_SimLess_l1b
      simp only [cond_dec, hat]
      rw [if_pos (by omega), ask_of (by omega), succ64 (by omega)]
      by_cases h9 : (Kisi_at P (j : Int)).1 = 9
      · rw [if_pos h9, ask_of (by omega), Int.toNat_natCast, rl_9 hj h9]
      · rw [if_neg h9, rl_no hj h9])
    (fun self => by
      have hl := rl_len (P := P) (j := P.length)
      unfold law11_SimLess_l1b
      simp only [cond_dec]
      rw [if_neg (by omega)]) (by omega)
  rw [rl_0] at l1
  rw [show law11_SimLess_l1 big (0, N, I, C, Q, P, ()) = _ from l1, bindS]
  have j2 : law11_SimLess_j2 big (N, I, C, Q, rl P P.length, ()) (t, ()) ((hitV N I C P t p).1, (hitV N I C P t p).2, ()) P a = some (.inr ()) := by
    unfold law11_SimLess_j2
    simp only [cond_dec, e]
    rw [ask_of (by omega)]
    by_cases h9 : (Kisi_at P (p : Int)).1 = 9
    · rw [if_neg (by simp [h9])]
    · have sr : Small N I C (rl P P.length) Q := ⟨s.n, s.i, s.c, by rw [rl_len]; exact s.p, s.q⟩
      rw [if_pos h9, simHit_f sr (rl_right r) ft hn (by rw [rl_len]; exact hp), bindS]
      cases hc : (hitV N I C P t p).2 with
      | false => rfl
      | true =>
        have hk : ∃ k : Nat, hitV N I C P t p = ((k : Int), true) := by
          have hx := hc
          unfold hitV at hx ⊢
          rw [if_neg h9] at hx ⊢
          rcases hitS_spec (L := fun k => legalB P (vV N I C t k)) (H := fun k => hitB P p (vV N I C t k)) t.length 0 with ⟨j, -, -, -, -, -, h6⟩ | ⟨h1, -⟩
          · exact ⟨j, h6⟩
          · rw [h1] at hx; cases hx
        obtain ⟨k, hk⟩ := hk
        rw [rl_hit hp h9 hk, hk]
        simp
  rw [j2, bindS, Sum.elim_inr, ask_of (by simp; omega), ask_of (by simp; omega), ask_of (by simp; omega), ask_of (by simp; omega)]
  have sm : Small (N ++ [nd0]) I C (P ++ [(9, ByteArray.empty, (N.length : Int))]) Q := ⟨by simp; omega, s.i, s.c, by simp; omega, s.q⟩
  rw [simHit_f sm (right_more r s1 (by omega)) (fit_more r ft) hn (by simp; omega), bindS, never hp]
  rfl
end Go.Proofs.Ytackhenokkolhaa.Am
namespace Go.Proofs.Ytackhenokkolhaa.Pure
open Go.Proofs.Ytackhenokkolhaa.Am
theorem SimLess (d : law11_SimLess_s.I) (h : BAs law11_SimLess_s.ar d fun _ => True) : ∃ n, law11_SimLess n d.1 d.2.1 d.2.2.1 d.2.2.2.1 d.2.2.2.2.1 d.2.2.2.2.2.1 d.2.2.2.2.2.2.1 = some (true, ()) := by
  obtain ⟨-, -, -, -, -, h1, h2, -⟩ := h
  exact ⟨big, lesser (fun x hx => (h1.2 x hx).2) h2⟩
end Go.Proofs.Ytackhenokkolhaa.Pure
