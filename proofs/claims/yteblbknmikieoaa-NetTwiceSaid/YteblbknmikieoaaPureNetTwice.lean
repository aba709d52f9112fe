/- Slimmed by this session: what nothing names is struck out. -/
import Derived.Test.YteblbknmikieoaaXbSNetTwice
import Derived.Test.YteblbknmikieoaaP9Head
import Derived.Test.YteblbknmikieoaaP9Net
import Derived.Test.YteblbknmikieoaaP9Twice
namespace Go.Proofs.Yteblbknmikieoaa.Pure
open Go.RowKit Go.Proofs.YteblbknmikieoaaW.PrintWords Go.Proofs.YteblbknmikieoaaW.PrintMore Go.Proofs.Yteblbknmikieoaa.PBits Go.Proofs.Yteblbknmikieoaa.PVec Go.Proofs.Yteblbknmikieoaa.P9 Go.Proofs.Yteblbknmikieoaa.Xb
set_option linter.unusedVariables false
set_option linter.unusedSimpArgs false
theorem mod_in {x : Int} {n : Nat} (hx : 0 ≤ x ∧ x ≤ 65535) (hn : n ≠ 0) : 0 ≤ Int.tmod (wrap64 x) (n : Int) ∧ Int.tmod (wrap64 x) (n : Int) < n := by
  rw [w64 (by omega) (by omega), Int.tmod_eq_emod_of_nonneg hx.1]
  exact ⟨Int.emod_nonneg _ (by omega), Int.emod_lt_of_pos _ (by omega)⟩
def put (at_ n : Int) (c : Cl) : Cl := if c.f2 = at_ then ⟨c.f0, c.f1, n, c.f3⟩ else c
theorem cl_mid {A B : List Cl} {c : Cl} {j : Nat} (h : j = A.length) : cl (A ++ c :: B) (j : Int) = c := by
  subst h
  unfold cl rd_T43
  simp [List.getD_eq_getElem?_getD]
theorem NetTwice : w9_NetTwice.Pure := by
  intro n x a b hx hx3 ha hb
  have ha' : ∀ z ∈ a, 0 ≤ z ∧ z ≤ 65535 := fun z hz => lit_u16 (ha.2 z hz)
  have hb' : ∀ z ∈ b, 0 ≤ z ∧ z ≤ 65535 := fun z hz => lit_u16 (hb.2 z hz)
  have hx' := lit_u16 hx3
  clear hx ha hb hx3
  generalize n.f0 = N
  generalize n.f1 = I
  generalize n.f2 = C
  generalize n.f3 = P
  generalize n.f4 = Q
  refine Ev.rounds (r := true) ?_
  unfold w9_NetTwice.f
  obtain ⟨g, hg, hs⟩ := great_f (N := N) (I := I) (C := C) (P := P) (Q := Q)
  refine Ev.bind (f := fun k t => _) head09 ?_
  simp only [hg, Option.bind_some]
  have j0 : Ev (fun k => w9_NetTwice.j0 k x a b true true N I C P Q) true := Ev.step (fun k => by simp only [w9_NetTwice.j0]; rw [if_pos trivial]) (Ev.now _)
  cases g with
  | true => exact Ev.ite_pos rfl j0
  | false =>
    obtain ⟨s, hn⟩ := hs rfl
    refine Ev.ite_neg (by decide) ?_
    obtain ⟨q, hq, hr⟩ := right_ev s
    refine Ev.bind (f := fun k t => _) hq ?_
    cases q with
    | false => exact Ev.ite_neg (by decide) j0
    | true =>
      have r := hr.1 rfl
      refine Ev.ite_pos rfl ?_
      by_cases hz : (N.length : Int) = 0
      · rw [beq_iff_eq.mpr hz]
        exact j0
      rw [beq_eq_false_iff_ne.mpr hz]
      have s3 := s.c
      obtain ⟨m0, m1⟩ := mod_in (n := N.length) hx' (by omega)
      refine Ev.step (fun k => rfl) ?_
      simp only [w9_NetTwice.j0, Bool.false_eq_true, if_false]
      generalize Int.tmod (wrap64 x) (N.length : Int) = kk at *
      obtain ⟨i, rfl⟩ : ∃ i : Nat, kk = (i : Int) := ⟨kk.toNat, by omega⟩
      have hiN : i < N.length := by omega
      refine Ev.ite_neg hz (Ev.ite_pos m0 (Ev.ite_pos m1 ?_))
      have jt : ∀ w0 w1 w2 w3 w4 w5 w6, Ev (fun k => w9_NetTwice.j1 k a b true (i : Int) true N I C P Q w0 w1 w2 w3 w4 w5 w6) true := fun _ _ _ _ _ _ _ => Ev.step (fun k => by simp only [w9_NetTwice.j1]; rw [if_pos trivial]) (Ev.now _)
      by_cases o1 : (nd N (i : Int)).f0 = 21
      · exact Ev.ite_pos o1 (jt _ _ _ _ _ _ _)
      refine Ev.ite_neg o1 ?_
      by_cases o2 : (nd N (i : Int)).f0 = 22
      · have : ((rd_T41 N (i : Int)).f0 == 22) = true := beq_iff_eq.mpr o2
        rw [this]
        exact jt _ _ _ _ _ _ _
      have z2 : ((rd_T41 N (i : Int)).f0 == 22) = false := beq_eq_false_iff_ne.mpr o2
      rw [z2]
      refine Ev.step (fun k => rfl) ?_
      simp only [w9_NetTwice.j1, Bool.false_eq_true, if_false, Option.bind_some, List.nil_append, List.length_nil, Nat.zero_add, List.length_singleton]
      refine Ev.ite_pos (by omega) (Ev.ite_pos (by omega) (Ev.ite_pos (by omega) ?_))
      have ey : (⟨(rd_T41 N (i : Int)).f0, (rd_T41 N (i : Int)).f1, (rd_T41 N (i : Int)).f2, (rd_T41 N (i : Int)).f3, (rd_T41 N (i : Int)).f4, (rd_T41 N (i : Int)).f5, (rd_T41 N (i : Int)).f6⟩ : Nd) = nd N (i : Int) := rfl
      rw [ey]
      have hni := r.nodes i hiN
      have hyn := node_twice hiN hni
      have hdo := doV_twice (st := ([] : List Int)) (ins := ([] : List Int)) hiN hni (by omega)
      clear hdo
      obtain ⟨st, ins, hrow, hi, hst⟩ := rows_ev s r ha' hb'
      have hdo := doV_twice (st := st) (ins := ins) hiN hni (by omega)
      have hev : evalV (N ++ [nd N (i : Int)]) st ins = evalV N st ins ++ [rd (evalV N st ins) (i : Int)] := by rw [evalV_app r.nodes o1 o2, hdo]
      generalize hy : nd N (i : Int) = y at *
      have gc : ∀ c ∈ C, CellP (N ++ [y]) (put (i : Int) (N.length : Int) c) := fun c hc => by
        obtain ⟨q1, q2, q3, q4, q5⟩ := cell_in r hc
        unfold put
        split
        · rename_i e
          refine ⟨?_, q1.2.1, by rw [nd_app q2 q3]; exact q1.2.2⟩
          have e1 := q1.1
          unfold wid at e1
          rw [if_neg (by omega), e, hy] at e1
          show wid (N ++ [y]) (N.length : Int) (N ++ [y]).length = (nd (N ++ [y]) c.f1).f1
          unfold wid
          rw [if_neg (by simp; omega), nd_last, nd_app q2 q3]
          exact e1
        · exact cellP_app q1 q2 q3 q4 q5
      have gf : (C.map (put (i : Int) (N.length : Int))).map (·.f1) = C.map (·.f1) := by
        rw [List.map_map]
        refine List.map_congr_left fun c _ => ?_
        simp only [Function.comp, put]
        split <;> rfl
      have cD : ∀ j : Nat, j < C.length → cl (C.map (put (i : Int) (N.length : Int))) (j : Int) = put (i : Int) (N.length : Int) (cl C (j : Int)) := fun j hj => by
        unfold cl rd_T43
        simp [List.getD_eq_getElem?_getD, hj]
      have lD : (C.map (put (i : Int) (N.length : Int))).length = C.length := List.length_map _
      have loop : ∀ d (j : Nat), j + d = C.length → ∀ res, Ev (fun k => w9_NetTwice.l0 k a b true (i : Int) (C.length : Int) N I C P Q (N ++ [y]) I (C.map (put (i : Int) (N.length : Int))) P Q) res → Ev (fun k => w9_NetTwice.l0 k a b true (i : Int) (j : Int) N I C P Q (N ++ [y]) I ((C.take j).map (put (i : Int) (N.length : Int)) ++ C.drop j) P Q) res := by
        intro d
        induction d with
        | zero =>
          intro j hj res h
          obtain rfl : j = C.length := by omega
          rw [List.take_length, List.drop_length, List.append_nil]
          exact h
        | succ d ih =>
          intro j hj res h
          have hd := ih (j + 1) (by omega) res h
          have lt : ((C.take j).map (put (i : Int) (N.length : Int))).length = j := by rw [List.length_map, List.length_take]; omega
          have z : (j : Int) < ((((C.take j).map (put (i : Int) (N.length : Int)) ++ C.drop j).length : Nat) : Int) := by rw [List.length_append, lt, List.length_drop]; omega
          have ec : rd_T43 ((C.take j).map (put (i : Int) (N.length : Int)) ++ C.drop j) (j : Int) = cl C (j : Int) := by
            have e1 := cl_cons C j (by omega)
            rw [e1]
            exact cl_mid lt.symm
          have et : (C.take (j + 1)).map (put (i : Int) (N.length : Int)) = (C.take j).map (put (i : Int) (N.length : Int)) ++ [put (i : Int) (N.length : Int) (cl C (j : Int))] := by
            have : C.take (j + 1) = C.take j ++ [cl C (j : Int)] := by
              rw [List.take_add_one]
              unfold cl rd_T43
              simp [List.getD_eq_getElem?_getD, show j < C.length by omega]
            rw [this, List.map_append]
            rfl
          rw [et, List.append_assoc] at hd
          by_cases c : (cl C (j : Int)).f2 = (i : Int)
          · have eset : ((C.take j).map (put (i : Int) (N.length : Int)) ++ C.drop j).set ((j : Int) : Int).toNat (⟨(cl C (j : Int)).f0, (cl C (j : Int)).f1, (N.length : Int), (cl C (j : Int)).f3⟩ : Cl) = (C.take j).map (put (i : Int) (N.length : Int)) ++ ([put (i : Int) (N.length : Int) (cl C (j : Int))] ++ C.drop (j + 1)) := by
              rw [Int.toNat_natCast, List.set_append_right _ _ (by omega), lt, Nat.sub_self, cl_cons C j (by omega)]
              simp only [put, if_pos c]
              rfl
            exact Ev.step (fun k => by simp only [w9_NetTwice.l0]; rw [if_pos z, if_pos (by omega), ec, if_pos c, eset, succ64 (by omega)]) hd
          · have eset : (C.take j).map (put (i : Int) (N.length : Int)) ++ C.drop j = (C.take j).map (put (i : Int) (N.length : Int)) ++ ([put (i : Int) (N.length : Int) (cl C (j : Int))] ++ C.drop (j + 1)) := by
              rw [cl_cons C j (by omega)]
              simp only [put, if_neg c]
              rfl
            rw [← eset] at hd
            exact Ev.step (fun k => by simp only [w9_NetTwice.l0]; rw [if_pos z, if_pos (by omega), ec, if_neg c, succ64 (by omega)]) hd
      refine loop C.length 0 (by omega) true ?_
      generalize hDD : C.map (put (i : Int) (N.length : Int)) = D at *
      have hcD : ∀ d ∈ D, CellP (N ++ [y]) d := fun d hd => by
        rw [← hDD] at hd
        obtain ⟨c, hc, rfl⟩ := List.mem_map.1 hd
        exact gc c hc
      have r' : RightP (N ++ [y]) I D P Q := right_app r (by omega) hyn o1 o2 gf hcD (fun _ h => h) (fun _ h => h) r.p
      have s' : Small (N ++ [y]) I D P Q := ⟨by simp; omega, s.i, by omega, s.p, s.q⟩
      have hi' : Fits (N ++ [y]) (frm (N ++ [y]) 21 0 (N ++ [y]).length) ins := by
        rw [frm_one o1]
        refine ⟨hi.1, fun j hj => ?_⟩
        obtain ⟨p0, p1, -⟩ := frm_mem _ _ _ (rd_mem hj)
        rw [nd_app (by omega) (by omega)]
        exact hi.2 j hj
      have hst' : Fits (N ++ [y]) (frm (N ++ [y]) 22 0 (N ++ [y]).length) st := by
        rw [frm_one o2]
        refine ⟨hst.1, fun j hj => ?_⟩
        obtain ⟨p0, p1, -⟩ := frm_mem _ _ _ (rd_mem hj)
        rw [nd_app (by omega) (by omega)]
        exact hst.2 j hj
      have hl := evalV_len N st ins
      have haf : afterV D (evalV (N ++ [y]) st ins) = afterV C (evalV N st ins) := by
        rw [hev]
        unfold afterV
        rw [lD]
        refine fillS_congr _ fun j hj => ?_
        obtain ⟨q0, q1, -⟩ := next_pos r hj
        simp only [cD j hj, put]
        split
        · rename_i e
          rw [← hl, rd_app (Nat.le_refl _), if_neg (by omega), e]
        · exact rd_left q0 (by omega)
      have hfi : firstV D = firstV C := by
        unfold firstV
        rw [lD]
        refine fillS_congr _ fun j hj => ?_
        simp only [cD j hj, put]
        split <;> rfl
      have e1 := eval_ev s' r' hi' hst'
      have a1 := after_ev s' r' hi' hst'
      have a2 := after_ev s r hi hst
      have f1 := first_ev s'
      have f2 := first_ev s
      rw [haf] at a1
      rw [hev] at e1
      rw [hfi] at f1
      have la : (afterV C (evalV N st ins)).length ≤ 100000 := by unfold afterV; rw [fillS_len, List.length_replicate]; exact s3
      have lf : (firstV C).length ≤ 100000 := by unfold firstV; rw [fillS_len, List.length_replicate]; exact s3
      generalize evalV N st ins = v at *
      generalize afterV C v = w at *
      generalize firstV C = u at *
      have zl : ¬ ((C.length : Int) < (D.length : Int)) := by omega
      refine Ev.step (fun k => rfl) ?_
      simp only [w9_NetTwice.l0]
      refine Ev.ite_neg zl ?_
      refine Ev.bind (f := fun k t => _) hrow ?_
      simp only []
      refine Ev.bind (f := fun k t => _) e1 ?_
      refine Ev.bind (f := fun k t => _) (nright_ev s' r') ?_
      have z1 : (((v ++ [rd v (i : Int)]).length : Nat) : Int) = wrap64 ((N.length : Int) + 1) := by rw [succ64 (by omega)]; simp; omega
      have z2 : (N.length : Int) < (((v ++ [rd v (i : Int)]).length : Nat) : Int) := by simp; omega
      have z3 : rd (v ++ [rd v (i : Int)]) (N.length : Int) = rd v (i : Int) := by rw [rd_app (by omega), if_neg (by omega)]
      have z4 : rd (v ++ [rd v (i : Int)]) (i : Int) = rd v (i : Int) := rd_left (by omega) (by omega)
      have z5 : (i : Int) < (((v ++ [rd v (i : Int)]).length : Nat) : Int) := Int.lt_trans m1 z2
      refine Ev.ite_pos rfl (Ev.ite_pos z1 (Ev.ite_pos (Int.natCast_nonneg _) (Ev.ite_pos z2 (Ev.ite_pos m0 (Ev.ite_pos z5 ?_)))))
      rw [z3, z4, bne_self_eq_false]
      refine Ev.step (fun k => rfl) ?_
      simp only [w9_NetTwice.j3, Bool.false_eq_true, if_false, if_true]
      refine Ev.bind (f := fun k t => _) a1 ?_
      refine Ev.bind (f := fun k t => _) a2 ?_
      refine Ev.bind (f := fun k t => _) (same_ev la) ?_
      refine Ev.ite_pos rfl ?_
      refine Ev.bind (f := fun k t => _) f1 ?_
      refine Ev.bind (f := fun k t => _) f2 ?_
      refine Ev.bind (f := fun k t => _) (same_ev lf) ?_
      exact Ev.now _
end Go.Proofs.Yteblbknmikieoaa.Pure
