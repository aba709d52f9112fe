/- Slimmed by this session: what nothing names is struck out. -/
import Derived.Test.YteblbknmikieoaaP9Eval
import Derived.Test.YteblbknmikieoaaXbD
import Derived.Test.YteblbknmikieoaaXbE
namespace Go.Proofs.Yteblbknmikieoaa.P9
open Go.RowKit Go.Proofs.YteblbknmikieoaaW.PrintWords Go.Proofs.YteblbknmikieoaaW.PrintMore Go.Proofs.Yteblbknmikieoaa.PBits Go.Proofs.Yteblbknmikieoaa.PVec Go.Proofs.Yteblbknmikieoaa.Xb
set_option linter.unusedVariables false
set_option linter.unusedSimpArgs false
theorem width_f {N I C P Q} {a b : Int} (hb : b ≤ N.length) : net_width.f N I C P Q a b = some (wid N a b) := by
  unfold net_width.f wid
  by_cases h : a < 0
  · rw [if_pos h, if_pos (Or.inl h)]
  · rw [if_neg h]
    by_cases h2 : a ≥ b
    · rw [if_pos h2, if_pos (Or.inr h2)]
    · rw [if_neg h2, if_pos (by omega), if_pos (by omega), if_neg (by omega)]
theorem rule_ok {x : Nd} {a b c : Int} (w1 : 1 ≤ x.f1) (w16 : x.f1 ≤ 16) (ha : 0 ≤ a ∧ a ≤ 16) (hb : 0 ≤ b ∧ b ≤ 16) (h : FitP x a b c) : ∃ tag, main_main.f x.f0 = some (opk x.f0, tag, true) ∧ gosem_cut.f x.f0 x.f1 x.f2 x.f3 x.f4 x.f5 x.f6 a b c tag = some true := by
  have hm := mask_f (k := x.f1) (by omega) (by omega)
  rcases h with ⟨o, f1, f2, f3⟩ | ⟨o, f1, f2⟩ | ⟨o, f1, f2, f3⟩ | ⟨o, f1, f2, f3, f4⟩ | ⟨o, f1, f2, f3, f4⟩ | ⟨o, f1, f2, f3, f4, f5⟩ | ⟨o, f1, f2, f3, f4, f5⟩ | ⟨o, f1, f2, f3, f4, f5⟩ | ⟨o, f1, f2, f3, f4⟩
  · exact ⟨59, by rw [o]; rfl, by simp [gosem_cut.f, net_seen_lit.f, hm, f1, f2, f3]⟩
  · rcases o with o | o <;> exact ⟨60, by rw [o]; rfl, by simp [gosem_cut.f, net_seen_bare.f, f1, f2]⟩
  · exact ⟨61, by rw [o]; rfl, by simp [gosem_cut.f, net_seen_one.f, net_seen_bare.f, f1, f2, f3]⟩
  · rcases o with o | o <;> exact ⟨62, by rw [o]; rfl, by simp [gosem_cut.f, net_seen_red.f, f1, f2, f3]; omega⟩
  · have o' : x.f0 = 6 ∨ x.f0 = 7 ∨ x.f0 = 8 ∨ x.f0 = 9 ∨ x.f0 = 10 ∨ x.f0 = 11 := by omega
    rcases o' with o | o | o | o | o | o <;> exact ⟨57, by rw [o]; rfl, by simp [gosem_cut.f, net_seen_two.f, net_seen_one.f, net_seen_bare.f, f1, f2, f3, f4]⟩
  · have o' : x.f0 = 12 ∨ x.f0 = 13 ∨ x.f0 = 14 ∨ x.f0 = 15 := by omega
    have f6 : 0 < x.f6 := by omega
    rcases o' with o | o | o | o <;> exact ⟨58, by rw [o]; rfl, by simp [gosem_cut.f, net_seen_asked.f, net_seen_red.f, f1, f2, f3, f4, f6]⟩
  · exact ⟨65, by rw [o]; rfl, by simp [gosem_cut.f, net_seen_mux.f, net_seen_bare.f, f1, f2, f3, f4, f5]⟩
  · have hw : wrap64 x.f1 = x.f1 := w64 (by omega) (by omega)
    exact ⟨64, by rw [o]; rfl, by simp [gosem_cut.f, net_seen_cat.f, net_seen_bare.f, f1, f2, f3, f4, f5, hw]⟩
  · have hw : wrap64 (wrap64 (x.f5 - x.f6) + 1) = x.f5 - x.f6 + 1 := by rw [w64 (n := x.f5 - x.f6) (by omega) (by omega), w64 (n := x.f5 - x.f6 + 1) (by omega) (by omega)]
    exact ⟨63, by rw [o]; rfl, by simp [gosem_cut.f, net_seen_slice.f, hw, f1, f2, f3, f4]⟩
theorem contains_ev {l : List Int} (h : ∀ z ∈ l, z = 0) (hl : l.length ≤ 1000) : Ev (fun k => slices_ContainsFunc_int_int.f k l 0) false := by
  have loop : ∀ d (i : Nat), i + d = l.length → Ev (fun k => slices_IndexFunc_int_int.l0 k l (l.length : Int) (i : Int)) (-1) := by
    intro d
    induction d with
    | zero =>
      intro i hi
      have z : ¬ ((i : Int) < (l.length : Int)) := by omega
      exact Ev.step (fun k => by simp only [slices_IndexFunc_int_int.l0]; rw [if_neg z]) (Ev.now _)
    | succ d ih =>
      intro i hi
      have z : (i : Int) < (l.length : Int) := by omega
      have e : rd l (i : Int) = 0 := h _ (rd_mem (by omega))
      have e2 : net_nodes_1.f 0 = some false := rfl
      exact Ev.step (fun k => by simp only [slices_IndexFunc_int_int.l0]; rw [if_pos z, if_pos (by omega), if_pos z, e, e2, Option.bind_some, if_neg (by decide), succ64 (by omega)]) (ih (i + 1) (by omega))
  unfold slices_ContainsFunc_int_int.f
  refine Ev.bind (f := fun k t => some (decide (t ≥ 0))) (loop l.length 0 (by omega)) (Ev.const rfl)
theorem nodes_ev {N I C P Q} (s : Small N I C P Q) (r : ∀ j : Nat, j < N.length → NodeP N j) : Ev (fun k => net_nodes.f k N I C P Q) true := by
  have s1 := s.n
  have loop : ∀ d (i : Nat), i + d = N.length → Ev (fun k => net_nodes.l0 k N (N.length : Int) (i : Int) N I C P Q) true := by
    intro d
    induction d with
    | zero =>
      intro i hi
      have z : ¬ ((i : Int) < (N.length : Int)) := by omega
      exact Ev.step (fun k => by simp only [net_nodes.l0]; rw [if_neg z]) (Ev.now _)
    | succ d ih =>
      intro i hi
      have z : (i : Int) < (N.length : Int) := by omega
      have h := r i (by omega)
      have hall : ∀ j : Nat, j < i → NodeP N j := fun j hj => r j (by omega)
      have w1 := h.w1
      have w16 := h.w16
      have op := h.op
      obtain ⟨tag, h1, h2⟩ := rule_ok w1 w16 (wid_le hall _) (wid_le hall _) h.fit
      have hk : opk (nd N (i : Int)).f0 ≤ 3 := by unfold opk; (repeat' split) <;> omega
      have hc : Ev (fun k => slices_ContainsFunc_int_int.f k (([(nd N (i : Int)).f2, (nd N (i : Int)).f3, (nd N (i : Int)).f4] : List Int).drop (opk (nd N (i : Int)).f0).toNat) 0) false := by
        have a0 := h.a0
        have b0 := h.b0
        have c0 := h.c0
        generalize (nd N (i : Int)).f2 = A at *
        generalize (nd N (i : Int)).f3 = B at *
        generalize (nd N (i : Int)).f4 = D at *
        generalize opk (nd N (i : Int)).f0 = q at *
        have hq : q = 0 ∨ q = 1 ∨ q = 2 ∨ q = 3 := by omega
        refine contains_ev ?_ ?_
        · rcases hq with rfl | rfl | rfl | rfl
          · have := a0 (by omega); have := b0 (by omega); have := c0 (by omega); simp_all
          · have := b0 (by omega); have := c0 (by omega); simp_all
          · have := c0 (by omega); simp_all
          · simp
        · simp; omega
      have j1 : Ev (fun k => net_nodes.j1 k (i : Int) N (N.length : Int) (i : Int) false N I C P Q (nd N (i : Int)).f0 (nd N (i : Int)).f1 (nd N (i : Int)).f2 (nd N (i : Int)).f3 (nd N (i : Int)).f4 (nd N (i : Int)).f5 (nd N (i : Int)).f6 (opk (nd N (i : Int)).f0) tag) true :=
        Ev.step (fun k => by simp only [net_nodes.j1]; rw [if_neg (by decide), width_f (by omega), Option.bind_some, width_f (by omega), Option.bind_some, width_f (by omega), Option.bind_some, h2, Option.bind_some, if_pos rfl, succ64 (by omega)]) (ih (i + 1) (by omega))
      have g1 : ¬ (nd N (i : Int)).f1 < 1 := by omega
      have g2 : ¬ (nd N (i : Int)).f1 > 16 := by omega
      have g3 : opk (nd N (i : Int)).f0 ≤ (([(nd N (i : Int)).f2, (nd N (i : Int)).f3, (nd N (i : Int)).f4] : List Int).length : Int) := by simp; omega
      refine Ev.step (f := fun k => (slices_ContainsFunc_int_int.f k (([(nd N (i : Int)).f2, (nd N (i : Int)).f3, (nd N (i : Int)).f4] : List Int).drop (opk (nd N (i : Int)).f0).toNat) 0).bind fun t146 => net_nodes.j1 k (i : Int) N (N.length : Int) (i : Int) t146 N I C P Q (nd N (i : Int)).f0 (nd N (i : Int)).f1 (nd N (i : Int)).f2 (nd N (i : Int)).f3 (nd N (i : Int)).f4 (nd N (i : Int)).f5 (nd N (i : Int)).f6 (opk (nd N (i : Int)).f0) tag) (fun k => by
        simp only [net_nodes.l0]
        rw [if_pos z, if_pos (by omega), if_pos z, h1]
        simp only [Option.bind_some]
        rw [if_pos trivial, if_neg g1, if_neg g2, if_pos op, if_pos g3]) ?_
      exact Ev.bind (f := fun k t146 => net_nodes.j1 k (i : Int) N (N.length : Int) (i : Int) t146 N I C P Q (nd N (i : Int)).f0 (nd N (i : Int)).f1 (nd N (i : Int)).f2 (nd N (i : Int)).f3 (nd N (i : Int)).f4 (nd N (i : Int)).f5 (nd N (i : Int)).f6 (opk (nd N (i : Int)).f0) tag) hc j1
  exact loop N.length 0 (by omega)
theorem places_ev {N I C P Q} (s : Small N I C P Q) (op : Int) : Ev (fun k => net_places.f k N I C P Q op) (frm N op 0 N.length) := by
  have s1 := s.n
  have loop : ∀ d (i : Nat) (l : List Int), i + d = N.length → l.length ≤ i → Ev (fun k => net_places.l0 k op l N (N.length : Int) (i : Int)) (l ++ frm N op i d) := by
    intro d
    induction d with
    | zero =>
      intro i l hi hl
      have z : ¬ ((i : Int) < (N.length : Int)) := by omega
      rw [frm, List.append_nil]
      exact Ev.step (fun k => by simp only [net_places.l0]; rw [if_neg z]) (Ev.now _)
    | succ d ih =>
      intro i l hi hl
      have z : (i : Int) < (N.length : Int) := by omega
      rw [frm]
      by_cases o : (nd N (i : Int)).f0 = op
      · rw [if_pos o]
        have hd := ih (i + 1) (l ++ [(i : Int)]) (by omega) (by simp; omega)
        rw [List.append_assoc] at hd
        exact Ev.step (fun k => by simp only [net_places.l0]; rw [if_pos z, if_pos (by omega), if_pos z, if_pos o, if_pos (by omega), succ64 (by omega)]) hd
      · rw [if_neg o]
        exact Ev.step (fun k => by simp only [net_places.l0]; rw [if_pos z, if_pos (by omega), if_pos z, if_neg o, succ64 (by omega)]) (ih (i + 1) l (by omega) (by omega))
  exact loop N.length 0 [] (by omega) (by simp)
theorem pins_eq {I : List Pn} {l : List Int} (h : I.map (·.f1) = l) (hl : I.length ≤ 100000) : Ev (fun k => api_Pin_int.f k I l 0) true := by
  subst h
  have loop : ∀ d (i : Nat), i + d = I.length → Ev (fun k => api_Pin_int.l0 k (I.map (·.f1)) I (I.length : Int) (i : Int)) true := by
    intro d
    induction d with
    | zero =>
      intro i hi
      have z : ¬ ((i : Int) < (I.length : Int)) := by omega
      exact Ev.step (fun k => by simp only [api_Pin_int.l0]; rw [if_neg z]) (Ev.now _)
    | succ d ih =>
      intro i hi
      have z : (i : Int) < (I.length : Int) := by omega
      have e : net_Right_1.f (pn I (i : Int)).f0 (pn I (i : Int)).f1 (pn I (i : Int)).f1 = some true := by simp [net_Right_1.f]
      exact Ev.step (fun k => by simp only [api_Pin_int.l0]; rw [if_pos z, if_pos (by omega), if_pos z, if_pos (by simp; omega), rd_pin (by omega), e, Option.bind_some, if_pos rfl, succ64 (by omega)]) (ih (i + 1) (by omega))
  unfold api_Pin_int.f
  exact Ev.ite_pos (by simp) (loop I.length 0 (by omega))
theorem cells_eq {C : List Cl} {l : List Int} (h : C.map (·.f1) = l) (hl : C.length ≤ 100000) : Ev (fun k => api_Cell_int.f k C l 0) true := by
  subst h
  have loop : ∀ d (i : Nat), i + d = C.length → Ev (fun k => api_Cell_int.l0 k (C.map (·.f1)) C (C.length : Int) (i : Int)) true := by
    intro d
    induction d with
    | zero =>
      intro i hi
      have z : ¬ ((i : Int) < (C.length : Int)) := by omega
      exact Ev.step (fun k => by simp only [api_Cell_int.l0]; rw [if_neg z]) (Ev.now _)
    | succ d ih =>
      intro i hi
      have z : (i : Int) < (C.length : Int) := by omega
      have e : net_Right_2.f (cl C (i : Int)).f0 (cl C (i : Int)).f1 (cl C (i : Int)).f2 (cl C (i : Int)).f3 (cl C (i : Int)).f1 = some true := by simp [net_Right_2.f]
      exact Ev.step (fun k => by simp only [api_Cell_int.l0]; rw [if_pos z, if_pos (by omega), if_pos z, if_pos (by simp; omega), rd_cell (by omega), e, Option.bind_some, if_pos rfl, succ64 (by omega)]) (ih (i + 1) (by omega))
  unfold api_Cell_int.f
  exact Ev.ite_pos (by simp) (loop C.length 0 (by omega))
theorem ncells_ev {N I C P Q} (s : Small N I C P Q) (r : RightP N I C P Q) : Ev (fun k => net_cells.f k N I C P Q) true := by
  have s1 := s.c
  have hb := r.bits
  have loop : ∀ d (j : Nat) (x : Int), j + d = C.length → 0 ≤ x → x ≤ 16 * j → x + wsum N (C.drop j) ≤ 256 → Ev (fun k => net_cells.l0 k x C (C.length : Int) (j : Int) N I C P Q) true := by
    intro d
    induction d with
    | zero =>
      intro j x hj hx hx2 hs
      have z : ¬ ((j : Int) < (C.length : Int)) := by omega
      rw [List.drop_eq_nil_of_le (by omega)] at hs
      simp [wsum] at hs
      exact Ev.step (fun k => by simp only [net_cells.l0]; rw [if_neg z, decide_eq_true hs]) (Ev.now _)
    | succ d ih =>
      intro j x hj hx hx2 hs
      have z : (j : Int) < (C.length : Int) := by omega
      obtain ⟨n0, n1, n2, nc, m0, m1, w1, w16⟩ := next_pos r (j := j) (by omega)
      rw [cl_cons C j (by omega)] at hs
      simp only [wsum, List.map_cons, List.sum_cons] at hs
      have hx' : wrap64 (x + (nd N (cl C (j : Int)).f1).f1) = x + (nd N (cl C (j : Int)).f1).f1 := w64 (by omega) (by omega)
      have c1 : ¬ (cl C (j : Int)).f3 < 0 := by have := nc.2.1; omega
      have c2 : decide ((cl C (j : Int)).f3 > P2 (nd N (cl C (j : Int)).f1).f1 - 1) = false := decide_eq_false (by have := nc.2.2; omega)
      have hd := ih (j + 1) (x + (nd N (cl C (j : Int)).f1).f1) (by omega) (by omega) (by omega) (by simp only [wsum]; omega)
      have j1 : Ev (fun k => net_cells.j1 k (x + (nd N (cl C (j : Int)).f1).f1) C (C.length : Int) (j : Int) false N I C P Q) true := Ev.step (fun k => by simp only [net_cells.j1]; rw [if_neg (by decide), succ64 (by omega)]) hd
      have hm := mask_f (k := (nd N (cl C (j : Int)).f1).f1) (by omega) (by omega)
      exact Ev.step (fun k => by simp only [net_cells.l0]; rw [if_pos z, if_pos (by omega), if_pos z, if_pos m0, if_pos m1, width_f (by omega), Option.bind_some, if_pos nc.1, if_neg c1, hm, Option.bind_some, c2, hx']) j1
  exact loop C.length 0 0 (by omega) (by omega) (by omega) (by simpa using hb)
theorem names_ev {N I C P Q} (hq : Q.length ≤ 100000) (h : ∀ q ∈ Q, wid N q.f1 N.length ≠ 0) : Ev (fun k => api_Pin_35.f k Q ⟨N, I, C, P, Q⟩) false := by
  have loop : ∀ d (i : Nat), i + d = Q.length → Ev (fun k => api_Pin_50.l0 k Q ⟨N, I, C, P, Q⟩ (Q.length : Int) (i : Int)) (-1) := by
    intro d
    induction d with
    | zero =>
      intro i hi
      have z : ¬ ((i : Int) < (Q.length : Int)) := by omega
      exact Ev.step (fun k => by simp only [api_Pin_50.l0]; rw [if_neg z]) (Ev.now _)
    | succ d ih =>
      intro i hi
      have z : (i : Int) < (Q.length : Int) := by omega
      have hm : pn Q (i : Int) ∈ Q := List.mem_of_mem_drop (i := i) (by rw [pn_cons Q i (by omega)]; exact List.mem_cons_self)
      have e : net_Right_3.f (pn Q (i : Int)).f0 (pn Q (i : Int)).f1 ⟨N, I, C, P, Q⟩ = some false := by
        unfold net_Right_3.f
        rw [width_f (by simp)]
        simp [h _ hm]
      exact Ev.step (fun k => by simp only [api_Pin_50.l0]; rw [if_pos z, if_pos (by omega), if_pos z, e, Option.bind_some, if_neg (by decide), succ64 (by omega)]) (ih (i + 1) (by omega))
  unfold api_Pin_35.f
  refine Ev.bind (f := fun k t => some (decide (t ≥ 0))) ?_ (Ev.const (r := false) (o := some (decide ((-1 : Int) ≥ 0))) rfl)
  unfold api_Pin_50.f
  exact loop Q.length 0 (by omega)
theorem nright_ev {N I C P Q} (s : Small N I C P Q) (r : RightP N I C P Q) : Ev (fun k => net_Right.f k N I C P Q) true := by
  have r1 := r.n
  have r2 := r.i
  have r3 := r.c
  have r4 := r.p
  have loop : ∀ d (i : Nat), i + d = P.length → Ev (fun k => net_Right.l0 k P (P.length : Int) (i : Int) N I C P Q) true := by
    intro d
    induction d with
    | zero =>
      intro i hi
      have z : ¬ ((i : Int) < (P.length : Int)) := by omega
      refine Ev.step (f := fun k => (api_Pin_35.f k Q ⟨N, I, C, P, Q⟩).bind fun t188 => some (!t188)) (fun k => by simp only [net_Right.l0]; rw [if_neg z]) ?_
      exact Ev.bind (f := fun k t188 => some (!t188)) (names_ev s.q r.name) (Ev.const rfl)
    | succ d ih =>
      intro i hi
      have z : (i : Int) < (P.length : Int) := by omega
      have hm : pp P (i : Int) ∈ P := List.mem_of_mem_drop (i := i) (by rw [pp_cons P i (by omega)]; exact List.mem_cons_self)
      have hp := r.prop _ hm
      have g1 : ¬ (pp P (i : Int)).f0 < 8 := by have := hp.1; omega
      have g2 : ¬ (pp P (i : Int)).f0 > 10 := by have := hp.2.1; omega
      exact Ev.step (fun k => by simp only [net_Right.l0]; rw [if_pos z, if_pos (by omega), if_pos z, if_neg g1, if_neg g2, width_f (by omega), Option.bind_some, if_pos hp.2.2, succ64 (by omega)]) (ih (i + 1) (by omega))
  have j1 : Ev (fun k => net_Right.j1 k false N I C P Q) true := Ev.step (fun k => by simp only [net_Right.j1]; exact if_neg (by decide)) (loop P.length 0 (by omega))
  have j0 : Ev (fun k => net_Right.j0 k false N I C P Q) true := by
    refine Ev.step (f := fun k => (net_places.f k N I C P Q 21).bind fun t176 => ((api_Pin_int.f k I t176 0).bind fun t179 => (if t179 = true then ((net_places.f k N I C P Q 22).bind fun t180 => ((api_Cell_int.f k C t180 0).bind fun t183 => (if t183 = true then ((net_cells.f k N I C P Q).bind fun t184 => (net_Right.j1 k (!t184) N I C P Q)) else (net_Right.j1 k true N I C P Q)))) else (net_Right.j1 k true N I C P Q)))) (fun k => by simp only [net_Right.j0]; exact if_neg (by decide)) ?_
    refine Ev.bind (f := fun k t176 => ((api_Pin_int.f k I t176 0).bind fun t179 => (if t179 = true then ((net_places.f k N I C P Q 22).bind fun t180 => ((api_Cell_int.f k C t180 0).bind fun t183 => (if t183 = true then ((net_cells.f k N I C P Q).bind fun t184 => (net_Right.j1 k (!t184) N I C P Q)) else (net_Right.j1 k true N I C P Q)))) else (net_Right.j1 k true N I C P Q)))) (places_ev s 21) ?_
    refine Ev.bind (f := fun k t179 => (if t179 = true then ((net_places.f k N I C P Q 22).bind fun t180 => ((api_Cell_int.f k C t180 0).bind fun t183 => (if t183 = true then ((net_cells.f k N I C P Q).bind fun t184 => (net_Right.j1 k (!t184) N I C P Q)) else (net_Right.j1 k true N I C P Q)))) else (net_Right.j1 k true N I C P Q))) (pins_eq r.ins s.i) ?_
    refine Ev.ite_pos rfl ?_
    refine Ev.bind (f := fun k t180 => ((api_Cell_int.f k C t180 0).bind fun t183 => (if t183 = true then ((net_cells.f k N I C P Q).bind fun t184 => (net_Right.j1 k (!t184) N I C P Q)) else (net_Right.j1 k true N I C P Q)))) (places_ev s 22) ?_
    refine Ev.bind (f := fun k t183 => (if t183 = true then ((net_cells.f k N I C P Q).bind fun t184 => (net_Right.j1 k (!t184) N I C P Q)) else (net_Right.j1 k true N I C P Q))) (cells_eq r.cells s.c) ?_
    refine Ev.ite_pos rfl ?_
    exact Ev.bind (f := fun k t184 => net_Right.j1 k (!t184) N I C P Q) (ncells_ev s r) j1
  unfold net_Right.f
  refine Ev.ite_neg (by omega) (Ev.ite_neg (by omega) (Ev.ite_neg (by omega) (Ev.ite_neg (by omega) ?_)))
  exact Ev.bind (f := fun k t175 => net_Right.j0 k (!t175) N I C P Q) (nodes_ev s r.nodes) j0
theorem same_ev {l : List Int} (hl : l.length ≤ 100000) : Ev (fun k => r4_SameInts.f k l l) true := by
  have loop : ∀ d (i : Nat), i + d = l.length → Ev (fun k => r4_SameInts.l0 k l l (i : Int)) true := by
    intro d
    induction d with
    | zero =>
      intro i hi
      have z : ¬ ((i : Int) < (l.length : Int)) := by omega
      exact Ev.step (fun k => by simp only [r4_SameInts.l0]; rw [if_neg z]) (Ev.now _)
    | succ d ih =>
      intro i hi
      have z : (i : Int) < (l.length : Int) := by omega
      exact Ev.step (fun k => by simp only [r4_SameInts.l0]; rw [if_pos z, if_pos (by omega), if_pos z, if_pos trivial, succ64 (by omega)]) (ih (i + 1) (by omega))
  unfold r4_SameInts.f
  exact Ev.ite_pos rfl (loop l.length 0 (by omega))
end Go.Proofs.Yteblbknmikieoaa.P9
