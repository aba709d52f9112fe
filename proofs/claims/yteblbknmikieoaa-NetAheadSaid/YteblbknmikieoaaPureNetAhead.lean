/- Slimmed by this session: what nothing names is struck out. -/
import Derived.Test.YteblbknmikieoaaXbSNetAhead
import Derived.Test.YteblbknmikieoaaP9Head
import Derived.Test.YteblbknmikieoaaP9Net
import Derived.Test.YteblbknmikieoaaP9Take
namespace Go.Proofs.Yteblbknmikieoaa.Pure
open Go.RowKit Go.Proofs.YteblbknmikieoaaW.PrintWords Go.Proofs.YteblbknmikieoaaW.PrintMore Go.Proofs.Yteblbknmikieoaa.PBits Go.Proofs.Yteblbknmikieoaa.PVec Go.Proofs.Yteblbknmikieoaa.P9 Go.Proofs.Yteblbknmikieoaa.Xb
set_option linter.unusedVariables false
set_option linter.unusedSimpArgs false
theorem mod_in' {x : Int} {n : Nat} (hx : 0 ≤ x ∧ x ≤ 65535) (hn : n ≠ 0) : 0 ≤ Int.tmod (wrap64 x) (n : Int) ∧ Int.tmod (wrap64 x) (n : Int) < n := by
  rw [w64 (by omega) (by omega), Int.tmod_eq_emod_of_nonneg hx.1]
  exact ⟨Int.emod_nonneg _ (by omega), Int.emod_lt_of_pos _ (by omega)⟩
def own (c : Cl) : Cl := ⟨c.f0, c.f1, c.f1, c.f3⟩
theorem take_pn {I : List Pn} {j : Nat} (h : j < I.length) : I.take (j + 1) = I.take j ++ [pn I (j : Int)] := by
  rw [List.take_add_one]
  unfold pn rd_T47
  simp [List.getD_eq_getElem?_getD, h]
theorem take_cl {I : List Cl} {j : Nat} (h : j < I.length) : I.take (j + 1) = I.take j ++ [cl I (j : Int)] := by
  rw [List.take_add_one]
  unfold cl rd_T43
  simp [List.getD_eq_getElem?_getD, h]
theorem NetAhead : w9_NetAhead.Pure := by
  intro n x a b hx hx3 ha hb
  have ha' : ∀ z ∈ a, 0 ≤ z ∧ z ≤ 65535 := fun z hz => lit_u16 (ha.2 z hz)
  have hb' : ∀ z ∈ b, 0 ≤ z ∧ z ≤ 65535 := fun z hz => lit_u16 (hb.2 z hz)
  have hx' := lit_u16 hx3
  clear hx ha hb hx3
  generalize n.f0 = N
  generalize n.f1 = I
  generalize n.f2 = C
  generalize n.f3 = P
  generalize n.f4 = Q
  refine Ev.rounds (r := true) ?_
  unfold w9_NetAhead.f
  obtain ⟨g, hg, hs⟩ := great_f (N := N) (I := I) (C := C) (P := P) (Q := Q)
  refine Ev.bind (f := fun k t => _) head09 ?_
  simp only [hg, Option.bind_some]
  have j0 : Ev (fun k => w9_NetAhead.j0 k x a b true true N I C P Q) true := Ev.step (fun k => by simp only [w9_NetAhead.j0]; rw [if_pos trivial]) (Ev.now _)
  cases g with
  | true => exact Ev.ite_pos rfl j0
  | false =>
    obtain ⟨s, hn⟩ := hs rfl
    refine Ev.ite_neg (by decide) ?_
    obtain ⟨q, hq, hr⟩ := right_ev s
    refine Ev.bind (f := fun k t => _) hq ?_
    cases q with
    | false => exact Ev.ite_neg (by decide) j0
    | true =>
      have r := hr.1 rfl
      refine Ev.ite_pos rfl ?_
      by_cases hz : (N.length : Int) = 0
      · rw [beq_iff_eq.mpr hz]
        exact j0
      rw [beq_eq_false_iff_ne.mpr hz]
      have s2 := s.i
      have s3 := s.c
      obtain ⟨m0, m1⟩ := mod_in' (n := N.length) hx' (by omega)
      refine Ev.step (fun k => rfl) ?_
      simp only [w9_NetAhead.j0, Bool.false_eq_true, if_false, Option.bind_some, List.nil_append, List.length_nil, Nat.zero_add]
      generalize Int.tmod (wrap64 x) (N.length : Int) = kk at *
      obtain ⟨i, rfl⟩ : ∃ i : Nat, kk = (i : Int) := ⟨kk.toNat, by omega⟩
      simp only [succ64 (i := i) (by omega), Int.toNat_natCast]
      have hk : i + 1 ≤ N.length := by omega
      generalize hkk : i + 1 = k at *
      have lk : (N.take k).length = k := by rw [List.length_take]; omega
      refine Ev.ite_neg hz (Ev.ite_pos (by omega) (Ev.ite_pos (by omega) (Ev.ite_pos (by omega) ?_)))
      have loopI : ∀ d (j : Nat), j + d = I.length → ∀ res, Ev (fun f => w9_NetAhead.l0 f a b true (k : Int) (I.length : Int) N I C P Q (N.take k) (I.filter fun p => decide (p.f1 < (k : Int)))) res → Ev (fun f => w9_NetAhead.l0 f a b true (k : Int) (j : Int) N I C P Q (N.take k) ((I.take j).filter fun p => decide (p.f1 < (k : Int)))) res := by
        intro d
        induction d with
        | zero =>
          intro j hj res h
          obtain rfl : j = I.length := by omega
          rw [List.take_length]
          exact h
        | succ d ih =>
          intro j hj res h
          have hd := ih (j + 1) (by omega) res h
          have z : (j : Int) < (I.length : Int) := by omega
          rw [take_pn (by omega), List.filter_append] at hd
          have ll : ((I.take j).filter fun p => decide (p.f1 < (k : Int))).length ≤ I.length := Nat.le_trans (List.length_filter_le _ _) (by rw [List.length_take]; omega)
          by_cases c : (pn I (j : Int)).f1 < (k : Int)
          · rw [List.filter_cons_of_pos (by simpa using c), List.filter_nil] at hd
            exact Ev.step (fun f => by simp only [w9_NetAhead.l0]; rw [if_pos z, if_pos (by omega), if_pos c, if_pos (by omega), succ64 (by omega)]) hd
          · rw [List.filter_cons_of_neg (by simpa using c), List.filter_nil, List.append_nil] at hd
            exact Ev.step (fun f => by simp only [w9_NetAhead.l0]; rw [if_pos z, if_pos (by omega), if_neg c, succ64 (by omega)]) hd
      have loopC : ∀ (J : List Pn) d (j : Nat), j + d = C.length → ∀ res, Ev (fun f => w9_NetAhead.l1 f a b true (k : Int) (C.length : Int) N I C P Q (N.take k) J ((C.filter fun p => decide (p.f1 < (k : Int))).map own)) res → Ev (fun f => w9_NetAhead.l1 f a b true (k : Int) (j : Int) N I C P Q (N.take k) J (((C.take j).filter fun p => decide (p.f1 < (k : Int))).map own)) res := by
        intro J d
        induction d with
        | zero =>
          intro j hj res h
          obtain rfl : j = C.length := by omega
          rw [List.take_length]
          exact h
        | succ d ih =>
          intro j hj res h
          have hd := ih (j + 1) (by omega) res h
          have z : (j : Int) < (C.length : Int) := by omega
          rw [take_cl (by omega), List.filter_append, List.map_append] at hd
          have ll : (((C.take j).filter fun p => decide (p.f1 < (k : Int))).map own).length ≤ C.length := by rw [List.length_map]; exact Nat.le_trans (List.length_filter_le _ _) (by rw [List.length_take]; omega)
          by_cases c : (cl C (j : Int)).f1 < (k : Int)
          · rw [List.filter_cons_of_pos (by simpa using c), List.filter_nil] at hd
            exact Ev.step (fun f => by simp only [w9_NetAhead.l1]; rw [if_pos z, if_pos (by omega), if_pos c, if_pos (by omega), succ64 (by omega)]; rfl) hd
          · rw [List.filter_cons_of_neg (by simpa using c), List.filter_nil, List.map_nil, List.append_nil] at hd
            exact Ev.step (fun f => by simp only [w9_NetAhead.l1]; rw [if_pos z, if_pos (by omega), if_neg c, succ64 (by omega)]) hd
      refine loopI I.length 0 (by omega) true ?_
      have lJ : (I.filter fun p => decide (p.f1 < (k : Int))).length ≤ I.length := List.length_filter_le _ _
      have hJ : (I.filter fun p => decide (p.f1 < (k : Int))).map (·.f1) = frm N 21 0 k := by
        rw [← frm_filter hk, ← r.ins, List.filter_map]
        rfl
      have hD : ((C.filter fun p => decide (p.f1 < (k : Int))).map own).map (·.f1) = frm N 22 0 k := by
        rw [← frm_filter hk, ← r.cells, List.filter_map, List.map_map]
        rfl
      have lD : ((C.filter fun p => decide (p.f1 < (k : Int))).map own).length ≤ C.length := by rw [List.length_map]; exact List.length_filter_le _ _
      have hd : ∀ d ∈ (C.filter fun p => decide (p.f1 < (k : Int))).map own, d.f2 = d.f1 ∧ ∃ c ∈ C, c.f1 = d.f1 ∧ c.f3 = d.f3 := fun d hd => by
        obtain ⟨c, hc, rfl⟩ := List.mem_map.1 hd
        exact ⟨rfl, c, (List.mem_filter.1 hc).1, rfl, rfl⟩
      generalize (I.filter fun p => decide (p.f1 < (k : Int))) = J at *
      have zI : ¬ ((I.length : Int) < (I.length : Int)) := by omega
      have zC : ¬ ((C.length : Int) < (C.length : Int)) := by omega
      refine Ev.step (fun k => rfl) ?_
      simp only [w9_NetAhead.l0]
      refine Ev.ite_neg zI ?_
      refine loopC J C.length 0 (by omega) true ?_
      generalize (C.filter fun p => decide (p.f1 < (k : Int))).map own = D at *
      have r' : RightP (N.take k) J D [] [] := right_take r hk hJ hD lJ lD hd
      have s' : Small (N.take k) J D [] [] := ⟨by omega, by omega, by omega, by simp, by simp⟩
      obtain ⟨st, ins, hrow, hi, hst⟩ := rows_ev s r ha' hb'
      have eJ : J.length = (frm N 21 0 k).length := by rw [← hJ, List.length_map]
      have eD : D.length = (frm N 22 0 k).length := by rw [← hD, List.length_map]
      have e : N.length = k + (N.length - k) := by omega
      have sp : ∀ op, frm N op 0 N.length = frm N op 0 k ++ frm N op k (N.length - k) := fun op => by
        have := frm_split (N := N) (op := op) (N.length - k) k 0
        rw [← e, Nat.zero_add] at this
        exact this
      have fit' : ∀ op xs, Fits N (frm N op 0 N.length) xs → Fits (N.take k) (frm (N.take k) op 0 (N.take k).length) (xs.take (frm N op 0 k).length) := by
        intro op xs h
        have hl := h.1
        have hn := h.2
        rw [sp] at hl hn
        rw [List.length_append] at hl hn
        rw [lk, frm_take k 0 (by omega)]
        refine ⟨by rw [List.length_take]; omega, fun j hj => ?_⟩
        have hj' := hn j (by omega)
        rw [rd_app_l hj] at hj'
        obtain ⟨p0, p1, -⟩ := frm_mem _ _ _ (rd_mem hj)
        rw [rd_take (by omega) (by omega), nd_take (by omega) (by omega)]
        exact hj'
      have hi' := fit' 21 ins hi
      have hst' := fit' 22 st hst
      have lst : D.length ≤ st.length := by rw [hst.1, sp, List.length_append]; omega
      have lin : J.length ≤ ins.length := by rw [hi.1, sp, List.length_append]; omega
      have e1 := eval_ev s r hi hst
      have e2 := eval_ev s' r' hi' hst'
      rw [evalV_take hk r.nodes, ← eJ, ← eD] at e2
      have hl := evalV_len N st ins
      generalize evalV N st ins = v at *
      refine Ev.step (fun k => rfl) ?_
      simp only [w9_NetAhead.l1]
      refine Ev.ite_neg zC ?_
      refine Ev.bind (f := fun k t => _) hrow ?_
      simp only []
      refine Ev.bind (f := fun k t => _) e1 ?_
      refine Ev.bind (f := fun k t => _) (nright_ev s' r') ?_
      refine Ev.ite_pos rfl ?_
      rw [decide_eq_false (show ¬ ((v.length : Int) < (k : Int)) by omega)]
      refine Ev.step (fun k => rfl) ?_
      simp only [w9_NetAhead.j3, Bool.false_eq_true, if_false, if_true, Int.toNat_natCast]
      refine Ev.ite_pos (by omega) (Ev.ite_pos (by omega) (Ev.ite_pos (by omega) (Ev.ite_pos (by omega) ?_)))
      refine Ev.bind (f := fun k t => _) e2 ?_
      refine Ev.ite_pos (by omega) (Ev.ite_pos (by omega) ?_)
      refine Ev.bind (f := fun k t => _) (same_ev (by rw [List.length_take]; omega)) ?_
      exact Ev.now _
end Go.Proofs.Yteblbknmikieoaa.Pure
