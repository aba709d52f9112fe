/- Nets with a node more, or other properties; searches alike, and searches with fewer legal rows. -/
import Derived.Test.YtieocmcjecpgpaaPrR
namespace Go.Proofs.Ytieocmcjecpgpaa.Am
set_option linter.unusedVariables false
set_option linter.unusedSimpArgs false
set_option linter.unusedSectionVars false
section
variable {σ : Type} [DecidableEq σ] {S S' : Sys σ}
theorem rowsX_congr {Pd : σ → Prop} (hm : S.m = S'.m) (h : ∀ s k, Pd s → k < S.m → S.L s k = S'.L s k ∧ (S.L s k = true → S.H s k = S'.H s k) ∧ S.A s k = S'.A s k ∧ Pd (S.A s k)) {e : σ × List Nat} (he : Pd e.1) : ∀ (d k : Nat) (l : List (σ × List Nat)), k + d ≤ S.m → (∀ x ∈ l, Pd x.1) → rowsX S e d k l = rowsX S' e d k l ∧ ∀ x ∈ (rowsX S e d k l).2, Pd x.1
  | 0, k, l, hk, hl => ⟨rfl, hl⟩
  | d + 1, k, l, hk, hl => by
    obtain ⟨h1, h2, h3, h4⟩ := h e.1 k he (by omega)
    unfold rowsX
    rw [← h1]
    cases hL : S.L e.1 k with
    | false => exact rowsX_congr hm h he d (k + 1) l (by omega) hl
    | true =>
      simp only
      rw [← h2 hL, ← h3]
      cases hH : S.H e.1 k with
      | true => exact ⟨rfl, hl⟩
      | false =>
        refine rowsX_congr hm h he d (k + 1) _ (by omega) fun x hx => ?_
        unfold add1 at hx
        cases hmm : mem1 (S.A e.1 k) l with
        | true => rw [hmm] at hx; exact hl x hx
        | false =>
          rw [hmm] at hx
          rcases List.mem_append.1 hx with hx | hx
          · exact hl x hx
          · cases List.mem_singleton.1 hx; exact h4
theorem srch_congr {Pd : σ → Prop} (hm : S.m = S'.m) (h : ∀ s k, Pd s → k < S.m → S.L s k = S'.L s k ∧ (S.L s k = true → S.H s k = S'.H s k) ∧ S.A s k = S'.A s k ∧ Pd (S.A s k)) : ∀ (f i : Nat) (l : List (σ × List Nat)), (∀ x ∈ l, Pd x.1) → srch S f i l = srch S' f i l
  | 0, _, _, _ => rfl
  | f + 1, i, l, hl => by
    unfold srch
    cases he : l[i]? with
    | none => rfl
    | some e =>
      obtain ⟨h1, h2⟩ := rowsX_congr hm h (hl e (List.mem_of_getElem? he)) S.m 0 l (by omega) hl
      simp only
      rw [← hm, ← h1]
      cases hx : rowsX S e S.m 0 l with
      | mk a l' =>
        cases a with
        | some k => rfl
        | none =>
          rw [hx] at h2
          exact srch_congr hm h f (i + 1) l' h2
/-- With no legal row nothing is found. -/
theorem rowsX_dead {e : σ × List Nat} (h : ∀ k, k < S.m → S.L e.1 k = false) : ∀ (d k : Nat) (l : List (σ × List Nat)), k + d ≤ S.m → rowsX S e d k l = (none, l)
  | 0, _, _, _ => rfl
  | d + 1, k, l, hk => by
    unfold rowsX
    rw [h k (by omega)]
    exact rowsX_dead h d (k + 1) l (by omega)
theorem srch_dead {f : Nat} (h : ∀ k, k < S.m → S.L S.s0 k = false) : srch S (f + 2) 0 [(S.s0, [])] = some (none, [(S.s0, [])]) := by
  have := rowsX_dead (S := S) (e := (S.s0, [])) h S.m 0 [(S.s0, [])] (by omega)
  unfold srch
  simp only [List.getElem?_cons_zero]
  rw [this]
  rfl
/-- Legal rows of the one are legal rows of the other. -/
theorem run_sub {Pd : σ → Prop} (hm : S.m = S'.m) (h : ∀ s k, Pd s → k < S.m → (S'.L s k = true → S.L s k = true) ∧ S.A s k = S'.A s k ∧ Pd (S.A s k)) : ∀ (t : List Nat) (s u : σ), Pd s → run S' s t = some u → run S s t = some u ∧ Pd u
  | [], s, u, hs, hr => by cases hr; exact ⟨rfl, hs⟩
  | k :: t, s, u, hs, hr => by
    unfold run at hr ⊢
    split at hr
    · rename_i c
      obtain ⟨h1, h2, h3⟩ := h s k hs (by rw [hm]; exact c.1)
      rw [if_pos ⟨by rw [hm]; exact c.1, h1 c.2⟩]
      rw [← h2] at hr
      exact run_sub hm h t _ u h3 hr
    · cases hr
end
section
variable {N : List Nd} {I : List Pn} {C : List Cl} {P P' : List Pw} {Q : List Pn} {x : Nd} {st ins : List Int}
theorem xd_old {i : Nat} (h : i < N.length) : Kiiiiiii_at (N ++ [x]) (i : Int) = Kiiiiiii_at N (i : Int) := at_appl (t := Kiiiiiii_) h
theorem xd_oldI {i : Int} (h0 : 0 ≤ i) (h : i < N.length) : Kiiiiiii_at (N ++ [x]) i = Kiiiiiii_at N i := by
  have := xd_old (N := N) (x := x) (i := i.toNat) (by omega)
  rwa [show ((i.toNat : Nat) : Int) = i by omega] at this
theorem xd_new : Kiiiiiii_at (N ++ [x]) (N.length : Int) = x := by
  rw [show Kiiiiiii_at (N ++ [x]) (N.length : Int) = _ from at_appr (t := Kiiiiiii_) (Nat.le_refl _), Nat.sub_self]
  rfl
theorem xid_old {a i : Int} (h : i ≤ N.length) : wid (N ++ [x]) a i = wid N a i := by
  unfold wid
  split
  · rfl
  · rename_i c
    rw [xd_oldI (by omega) (by omega)]
theorem xid_more {a : Int} (h : wid N a N.length ≠ 0) : wid (N ++ [x]) a (N.length + 1 : Nat) = wid N a N.length := by
  unfold wid at h ⊢
  split at h
  · exact absurd rfl h
  · rename_i c
    rw [if_neg (by omega), if_neg c, xd_oldI (by omega) (by omega)]
theorem xrm_more {op : Int} (ho : x.1 ≠ op) : ∀ (d i : Nat), i + d = N.length → frm (N ++ [x]) op i (d + 1) = frm N op i d
  | 0, i, h => by
    have : i = N.length := by omega
    subst this
    simp only [frm, xd_new]
    rw [if_neg ho]
  | d + 1, i, h => by
    rw [frm, xrm_more ho d (i + 1) (by omega)]
    conv => rhs; rw [frm]
    rw [xd_old (by omega)]
theorem xode_more {j : Nat} (h : NodeP N j) (hj : j < N.length) : NodeP (N ++ [x]) j := by
  have e := xd_old (N := N) (x := x) hj
  have w : ∀ a, wid (N ++ [x]) a (j : Int) = wid N a (j : Int) := fun a => xid_old (by omega)
  exact ⟨by rw [e]; exact h.w1, by rw [e]; exact h.w16, by rw [e]; exact h.op, by rw [e]; exact h.a0, by rw [e]; exact h.b0, by rw [e]; exact h.c0, by rw [e, w, w, w]; exact h.fit⟩
theorem xrop {p : Pw} (h : PropP N p) : PropP (N ++ [x]) p := by
  obtain ⟨h1, h2, h3⟩ := h
  refine ⟨h1, h2, ?_⟩
  rw [show (N ++ [x]).length = N.length + 1 by simp]
  exact (xid_more (by omega)).trans h3
theorem right_app (r : RightP N I C P Q) (hN : N.length ≤ 300) (hx : NodeP (N ++ [x]) N.length) (h21 : x.1 ≠ 21) (h22 : x.1 ≠ 22) (hp : P'.length ≤ 16) (hP : ∀ j : Nat, j < P'.length → PropP (N ++ [x]) (Kisi_at P' (j : Int))) : RightP (N ++ [x]) I C P' Q := by
  have hl : (N ++ [x]).length = N.length + 1 := by simp
  have hc : ∀ j : Nat, j < C.length → 0 ≤ (Ksiii_at C (j : Int)).2.1 ∧ (Ksiii_at C (j : Int)).2.1 < N.length := fun j hj => by
    obtain ⟨m0, m1, -⟩ := cell_node r.cells hj
    exact ⟨m0, m1⟩
  refine ⟨by omega, r.i, r.c, hp, fun j hj => ?_, by rw [hl, xrm_more h21 _ _ (by omega)]; exact r.ins, by rw [hl, xrm_more h22 _ _ (by omega)]; exact r.cells, fun j hj => ?_, hP, fun j hj => ?_, ?_⟩
  · rw [hl] at hj
    by_cases e : j = N.length
    · subst e; exact hx
    · exact xode_more (r.nodes j (by omega)) (by omega)
  · obtain ⟨h1, h2, h3⟩ := r.cell j hj
    obtain ⟨c0, c1⟩ := hc j hj
    have hw := node_at r.nodes c0 c1
    have w1 := hw.w1
    refine ⟨?_, h2, ?_⟩
    · rw [hl, xd_oldI c0 c1, xid_more (by omega)]; exact h1
    · rw [xd_oldI c0 c1]; exact h3
  · rw [hl, xid_more (r.name j hj)]
    exact r.name j hj
  · have : wsum (N ++ [x]) C = wsum N C := by
      unfold wsum
      congr 1
      refine List.map_congr_left fun c hc' => ?_
      have hm : c.2.1 ∈ frm N 22 0 N.length := by rw [← r.cells]; exact List.mem_map.2 ⟨c, hc', rfl⟩
      have := frm_mem _ _ _ hm
      rw [xd_oldI (by omega) (by omega)]
    rw [this]
    exact r.bits
theorem right_props (r : RightP N I C P Q) (hp : P'.length ≤ 16) (hP : ∀ j : Nat, j < P'.length → PropP N (Kisi_at P' (j : Int))) : RightP N I C P' Q := ⟨r.n, r.i, r.c, hp, r.nodes, r.ins, r.cells, r.cell, hP, r.name, r.bits⟩
theorem sw_more (h21 : x.1 ≠ 21) (h22 : x.1 ≠ 22) : smB (N ++ [x]) = smB N := by
  have hs : ∀ op : Int, x.1 ≠ op → sw (N ++ [x]) op 0 (N ++ [x]).length = sw N op 0 N.length := fun op ho => by
    unfold sw
    rw [show (N ++ [x]).length = N.length + 1 by simp, xrm_more ho _ _ (by omega)]
    congr 1
    refine List.map_congr_left fun j hj => ?_
    have := frm_mem _ _ _ hj
    rw [xd_oldI (by omega) (by omega)]
  unfold smB
  rw [hs 22 h22, hs 21 h21]
theorem setS_app {l r : List Int} {p v : Nat → Int} : ∀ (k : Nat), (∀ j, j < k → 0 ≤ p j ∧ p j < l.length) → setS (l ++ r) p v k = setS l p v k ++ r
  | 0, _ => rfl
  | k + 1, h => by
    have := h k (by omega)
    rw [setS, setS, setS_app k fun j hj => h j (by omega), List.set_append_left _ _ (by rw [setS_len]; omega)]
theorem stV_more (r : RightP N I C P Q) : stV (N ++ [x]) I C st ins = stV N I C st ins ++ [0] := by
  unfold stV insV
  rw [show (N ++ [x]).length = N.length + 1 by simp, List.replicate_succ', setS_app I.length fun j hj => ?_, setS_app C.length fun j hj => ?_]
  · obtain ⟨m0, m1, -⟩ := cell_node r.cells hj
    rw [setS_len, List.length_replicate]
    exact ⟨m0, m1⟩
  · obtain ⟨m0, m1, -⟩ := pin_node r.ins hj
    rw [List.length_replicate]
    exact ⟨m0, m1⟩
theorem i_app {l r : List Int} {j : Int} (h0 : 0 ≤ j) (h : j < l.length) : Ki_at (l ++ r) j = Ki_at l j := by
  obtain ⟨m, rfl⟩ := Int.eq_ofNat_of_zero_le h0
  exact at_appl (t := i_) (by omega)
theorem doV_more {v : List Int} {y : Nd} {r : List Int} (ha : 0 ≤ y.2.2.1 ∧ y.2.2.1 < v.length) (hb : 0 ≤ y.2.2.2.1 ∧ y.2.2.2.1 < v.length) (hc : 0 ≤ y.2.2.2.2.1 ∧ y.2.2.2.2.1 < v.length) (hv : v.length = N.length) : doV (N ++ [x]) (v ++ r) y = doV N v y := by
  unfold doV
  rw [i_app ha.1 ha.2, i_app hb.1 hb.2, i_app hc.1 hc.2, xd_oldI hb.1 (by omega)]
theorem evN_more (r : RightP N I C P Q) {l : List Int} (hl : l.length = N.length) : ∀ i, i ≤ N.length → evN (N ++ [x]) (l ++ [0]) i = evN N l i ++ [0]
  | 0, _ => rfl
  | i + 1, h => by
    have le := evN_len N l i
    obtain ⟨a, b, c⟩ := opnds (show i < N.length by omega) (r.nodes i (by omega))
    rw [evN, evN, evN_more r hl i (by omega), xd_old (by omega)]
    split
    · rfl
    · rw [doV_more ⟨a.1, by omega⟩ ⟨b.1, by omega⟩ ⟨c.1, by omega⟩ (by omega), List.set_append_left _ _ (by omega)]
theorem eval_more (r : RightP N I C P Q) (h21 : x.1 ≠ 21) (h22 : x.1 ≠ 22) : evalV (N ++ [x]) I C st ins = evalV N I C st ins ++ [doV (N ++ [x]) (evalV N I C st ins ++ [0]) x] := by
  unfold evalV
  have hl := stV_len N I C st ins
  have hl2 := evN_len N (stV N I C st ins) N.length
  rw [stV_more r, show (N ++ [x]).length = N.length + 1 by simp, evN, xd_new, if_neg (by omega), evN_more r hl N.length (Nat.le_refl _), List.set_append_right _ _ (by omega), hl2, hl, Nat.sub_self]
  rfl
theorem after_more (r : RightP N I C P Q) {v w : List Int} (hv : v.length = N.length) : afterV C (v ++ w) = afterV C v := by
  unfold afterV
  refine List.map_congr_left fun j hj => ?_
  obtain ⟨h0, h1, -⟩ := next_pos r (List.mem_range.1 hj)
  exact i_app h0 (by omega)
theorem wI_more (r : RightP N I C P Q) {j : Nat} (hj : j < I.length) : wI (N ++ [x]) I j = wI N I j := by
  obtain ⟨m0, m1, -⟩ := pin_node r.ins hj
  unfold wI
  rw [xd_oldI m0 m1]
theorem dgs_congr {w u : Nat → Nat} : ∀ (j : Nat), (∀ c, c < j → w c = u c) → (∀ v, dgs w j v = dgs u j v) ∧ tot w j = tot u j
  | 0, _ => ⟨fun _ => rfl, rfl⟩
  | j + 1, h => by
    obtain ⟨h1, h2⟩ := dgs_congr j fun c hc => h c (by omega)
    exact ⟨fun v => by rw [dgs, dgs, h j (by omega), h1], by rw [tot, tot, h2, h j (by omega)]⟩
theorem rows_more (r : RightP N I C P Q) : (∀ k, rowV (N ++ [x]) I k = rowV N I k) ∧ tot (wI (N ++ [x]) I) I.length = tot (wI N I) I.length := dgs_congr I.length fun c hc => wI_more r hc
end
end Go.Proofs.Ytieocmcjecpgpaa.Am
