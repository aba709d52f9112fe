/- The pure statement of CnfOnly: with the inputs given, no other values meet the clauses. -/
import Derived.Test.YtdfbnlmjnollnaaXbSCnfOnly
import Derived.Test.YtdfbnlmjnollnaaPAll
namespace Go.Proofs.Ytdfbnlmjnollnaa.Pure
open Go.RowKit Go.Proofs.YtdfbnlmjnollnaaW.PrintWords Go.Proofs.YtdfbnlmjnollnaaW.PrintMore Go.Proofs.Ytdfbnlmjnollnaa.PBits Go.Proofs.Ytdfbnlmjnollnaa.PAig Go.Proofs.Ytdfbnlmjnollnaa.PCnf Go.Proofs.Ytdfbnlmjnollnaa.PVal Go.Proofs.Ytdfbnlmjnollnaa.Xb
theorem opOk {x : S53} (h : B53 x) : OpOk x := ⟨lit_u8 h.1, lit_u16 h.2.1, lit_u16 h.2.2.1, lit_u16 h.2.2.2⟩
theorem rdOf_get {v : List Bool} {j : Nat} (h : j < v.length) : rdOf false v (j : Int) = v[j] := by
  unfold rdOf
  rw [Int.toNat_natCast, List.getD_eq_getElem?_getD, List.getElem?_eq_getElem h]; rfl
theorem tail_ev (rows : List (List Int)) (w u : List Bool) (hl : w.length = u.length) (hw : w.length < 1000000000) (m : Bool) (hm : Ev (fun k => proofmarkref17_Met.f k rows u) m) :
    ∀ d i (b : Bool), w.length - i = d → i ≤ w.length → Ev (fun k => proofmarklaw17_CnfOnly.l1 k true w rows u b (i : Int)) (m == (b && (w.drop i == u.drop i))) := by
  intro d
  induction d with
  | zero =>
    intro i b hd hi
    have z : ¬ ((i : Int) < (w.length : Int)) := by omega
    rw [List.drop_eq_nil_of_le (show w.length ≤ i by omega), List.drop_eq_nil_of_le (show u.length ≤ i by omega), beq_self_eq_true, Bool.and_true]
    refine Ev.step (fun k => by simp only [proofmarklaw17_CnfOnly.l1]; rw [if_neg z, if_pos trivial]) ?_
    refine Ev.bind (f := fun k t => _) hm ?_
    exact Ev.now _
  | succ d ih =>
    intro i b hd hi
    have hlt : i < w.length := by omega
    have hlt2 : i < u.length := by omega
    have z : (i : Int) < (w.length : Int) := by omega
    have z0 : (0 : Int) ≤ (i : Int) := by omega
    have z2 : (i : Int) < (u.length : Int) := by omega
    have hn := ih (i + 1) (b && (w[i] == u[i])) (by omega) (by omega)
    have e : (b && (w[i] == u[i]) && (w.drop (i + 1) == u.drop (i + 1))) = (b && (w.drop i == u.drop i)) := by
      rw [List.drop_eq_getElem_cons hlt, List.drop_eq_getElem_cons hlt2, List.cons_beq_cons, Bool.and_assoc]
    rw [e] at hn
    clear e
    refine Ev.step (fun k => ?_) hn
    simp only [proofmarklaw17_CnfOnly.l1]
    cases b
    · rw [if_pos z, if_neg (by decide), succ64 (by omega), Bool.false_and]
    · rw [if_pos z, if_pos rfl, if_pos z0, if_pos z2, rdOf_get hlt, rdOf_get hlt2, succ64 (by omega), Bool.true_and]
theorem set_getD {v : List Bool} {i j : Nat} {b : Bool} (h : i ≠ j) : (v.set i b).getD j false = v.getD j false := by
  rw [List.getD_eq_getElem?_getD, List.getD_eq_getElem?_getD, List.getElem?_set_ne h]
theorem flip_ev {ins : Int} {l : List A2} (hg : GoodA ins l) (hl : l.length ≤ 1000) (rows : List (List Int)) (w : List Bool) (x3 : List Int) (h3 : ∀ x ∈ x3, 0 ≤ x ∧ x ≤ 65535) (hx : x3.length ≤ 1000) (hw : (w.length : Int) = 1 + ins + l.length)
    (goal : ∀ u : List Bool, u.length = w.length → (∀ j : Nat, 1 ≤ j → (j : Int) ≤ ins → w.getD j false = u.getD j false) → Ev (fun k => proofmarklaw17_CnfOnly.l1 k true w rows u true 0) true) :
    ∀ d i (u : List Bool), x3.length - i = d → i ≤ x3.length → u.length = w.length → (∀ j : Nat, 1 ≤ j → (j : Int) ≤ ins → w.getD j false = u.getD j false) → Ev (fun k => proofmarklaw17_CnfOnly.l0 k x3 true w rows u (i : Int) ins l) true := by
  intro d
  induction d with
  | zero =>
    intro i u hd hi hu hj
    have z : ¬ ((i : Int) < (x3.length : Int)) := by omega
    exact Ev.step (fun k => by simp only [proofmarklaw17_CnfOnly.l0]; rw [if_neg z]) (goal u hu hj)
  | succ d ih =>
    intro i u hd hi hu hj
    have hlt : i < x3.length := by omega
    have z : (i : Int) < (x3.length : Int) := by omega
    have z0 : (0 : Int) ≤ (i : Int) := by omega
    obtain ⟨b0, b1⟩ := h3 _ (List.getElem_mem hlt)
    have i0 := hg.ins0
    have i1 := hg.ins1
    have step : ∀ (p : Int) (b : Bool), 0 ≤ p → p = 0 ∨ ins < p → Ev (fun k => proofmarklaw17_CnfOnly.l0 k x3 true w rows (u.set p.toNat b) ((i + 1 : Nat) : Int) ins l) true := by
      intro p b hp0 hp
      refine ih (i + 1) _ (by omega) (by omega) (by rw [List.length_set]; exact hu) ?_
      intro j h1 h2
      rw [set_getD (by omega)]
      exact hj j h1 h2
    have e1 : wrap64 (1 + (l.length : Int)) = 1 + l.length := w64 (by omega) (by omega)
    have e2 : wrap64 (x3[i]) = x3[i] := w64 (by omega) (by omega)
    have e3 : Int.tmod (x3[i]) (1 + (l.length : Int)) = x3[i] % (1 + l.length) := tmodn b0
    have a0 := Int.emod_nonneg x3[i] (show (1 + (l.length : Int)) ≠ 0 by omega)
    have a1 := Int.emod_lt_of_pos x3[i] (show 0 < (1 + (l.length : Int)) by omega)
    have z1 : ¬ (1 + (l.length : Int) = 0) := by omega
    have s1 : wrap64 ((i : Int) + 1) = ((i + 1 : Nat) : Int) := succ64 (by omega)
    have hr := rd_get hlt
    generalize x3[i] = y at *
    clear hlt
    by_cases c : y % (1 + (l.length : Int)) > 0
    · have e4 : wrap64 (y % (1 + (l.length : Int)) + ins) = y % (1 + (l.length : Int)) + ins := w64 (by omega) (by omega)
      have z2 : 0 ≤ y % (1 + (l.length : Int)) + ins := by omega
      have z3 : y % (1 + (l.length : Int)) + ins < (u.length : Int) := by omega
      refine Ev.step (fun k => ?_) (step (y % (1 + (l.length : Int)) + ins) (!(rdOf false u (y % (1 + (l.length : Int)) + ins))) z2 (Or.inr (by omega)))
      simp only [proofmarklaw17_CnfOnly.l0]
      rw [hr, e1, e2, e3, e4, s1, if_pos z, if_pos z0, if_neg z1, if_pos c, if_pos z2, if_pos z3]
    · have q : y % (1 + (l.length : Int)) = 0 := by omega
      have z2 : (0 : Int) ≤ 0 := by omega
      have z3 : (0 : Int) < (u.length : Int) := by omega
      have c0 : ¬ ((0 : Int) > 0) := by omega
      refine Ev.step (fun k => ?_) (step 0 (!(rdOf false u 0)) z2 (Or.inl rfl))
      simp only [proofmarklaw17_CnfOnly.l0]
      rw [hr, e1, e2, e3, q, s1, if_pos z, if_pos z0, if_neg z1, if_neg c0, if_pos z2, if_pos z3]
theorem CnfOnly : proofmarklaw17_CnfOnly.Pure := by
  intro x0 x1 x2 x3 w0 w1 w2 w3
  have b0 := lit_u8 w0
  refine Ev.rounds (r := true) ?_
  unfold proofmarklaw17_CnfOnly.f
  refine Ev.bind (f := fun k t => _) head_ev ?_
  rw [great_f]
  simp only [Option.bind_some]
  have out : Ev (fun k => proofmarklaw17_CnfOnly.j0 k x0 x1 x2 x3 true true) true := Ev.step (fun k => by simp only [proofmarklaw17_CnfOnly.j0]; rw [if_pos trivial]) (Ev.now _)
  by_cases hl : (x1.length : Int) > 120
  · simp only [decide_eq_true hl, if_true]
    exact out
  simp only [decide_eq_false hl, Bool.false_eq_true, if_false]
  by_cases hp : (x3.length : Int) > 40
  · simp only [decide_eq_true hp]
    exact out
  simp only [decide_eq_false hp]
  obtain ⟨ins, l, lits, hev, hg, hn⟩ := made_ev x0 x1 b0.1 b0.2 (fun x hx => opOk (w1.2 x hx)) (by omega)
  have i0 := hg.ins0
  have i1 := hg.ins1
  obtain ⟨inp, hb, hi⟩ := bits_ev ins l x2 i0 i1
  obtain ⟨w, he, hw⟩ := eval_ev hg (by omega) hi
  have wl := hw.len
  refine Ev.step (fun k => by simp only [proofmarklaw17_CnfOnly.j0]; rw [if_neg (by decide)]) ?_
  refine Ev.bind (f := fun k bt => _) hev ?_
  refine Ev.bindc (f := fun k t => _) rfl ?_
  refine Ev.bind (f := fun k bt => _) hb ?_
  refine Ev.bind (f := fun k bt => _) he ?_
  have e1 : wrap64 (wrap64 (1 + ins) + (l.length : Int)) = 1 + ins + l.length := by rw [w64 (n := 1 + ins) (by omega) (by omega), w64 (by omega) (by omega)]
  have z2 : ([] : List Bool).length + w.length < 140737488355328 := by rw [List.length_nil]; omega
  simp only [e1]
  clear e1
  refine Ev.ite_pos z2 ?_
  refine Ev.bindc (f := fun k t => _) rfl ?_
  have c1 := clauses_f hg (by omega) (show (0 : Int) ≤ 0 by omega) (show (0 : Int) < 100000000 by omega)
  refine Ev.bindc (f := fun k t => _) c1 ?_
  refine Ev.ite_pos (c := ((([] : List Bool) ++ w).length : Int) = _) wl ?_
  have hin := In_cls hg (show (0 : Int) ≤ 0 by omega) _ (Nat.le_refl _)
  have hm : (0 : Int) + 1 + ins + (l.length : Int) = (w.length : Int) := by omega
  rw [hm] at hin
  refine Ev.bind (f := fun k t => _) (within_ev _ _ _ (by rw [cls_len]; omega) (cls_rows _ _ _ _) hin (by rw [List.nil_append]; omega)) ?_
  refine Ev.step (fun k => by simp only [proofmarklaw17_CnfOnly.j1]; rw [if_neg (by decide)]) ?_
  refine Ev.bindc (f := fun k t => _) rfl ?_
  refine Ev.ite_pos z2 ?_
  refine flip_ev hg (by omega) _ w x3 (fun x hx => lit_u16 (w3.2 x hx)) (by omega) wl ?_ _ 0 w rfl (by omega) rfl (fun j _ _ => rfl)
  intro u hu hj
  have hin2 := hin
  rw [← hu] at hin2
  have me := met_ev _ u (by rw [cls_len]; omega) (cls_rows _ _ _ _) (by omega) hin2
  have t := tail_ev _ w u hu.symm (by omega) _ me _ 0 true rfl (by omega)
  have key : (met (cls ins 0 l l.length) u == (true && (w.drop 0 == u.drop 0))) = true := by
    rw [Bool.true_and, List.drop_zero, List.drop_zero, beq_iff_eq, Bool.eq_iff_iff, beq_iff_eq]
    constructor
    · intro hmet
      have m := (met_cls hg [] u _ (Nat.le_refl _)).1 hmet
      have vu : Val ins l u l.length := ⟨by omega, m.1, m.2⟩
      refine List.ext_getElem hu.symm fun j h1 h2 => ?_
      have o := once hg hw vu hj (j + 1) j (by omega) (by omega)
      rw [List.getD_eq_getElem?_getD, List.getD_eq_getElem?_getD, List.getElem?_eq_getElem h1, List.getElem?_eq_getElem h2] at o
      exact o
    · rintro rfl
      exact hw.met hg []
  rw [key] at t
  exact t
end Go.Proofs.Ytdfbnlmjnollnaa.Pure
