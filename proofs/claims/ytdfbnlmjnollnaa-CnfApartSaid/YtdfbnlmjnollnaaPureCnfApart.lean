/- The pure statement of CnfApart: clauses have variables from off and 1 on; with another off they are the same, so much on. -/
import Derived.Test.YtdfbnlmjnollnaaXbSCnfApart
import Derived.Test.YtdfbnlmjnollnaaPWithin
namespace Go.Proofs.Ytdfbnlmjnollnaa.Pure
open Go.RowKit Go.Proofs.YtdfbnlmjnollnaaW.PrintWords Go.Proofs.YtdfbnlmjnollnaaW.PrintMore Go.Proofs.Ytdfbnlmjnollnaa.PBits Go.Proofs.Ytdfbnlmjnollnaa.PAig Go.Proofs.Ytdfbnlmjnollnaa.PCnf Go.Proofs.Ytdfbnlmjnollnaa.Xb
theorem opOk {x : S53} (h : B53 x) : OpOk x := ⟨lit_u8 h.1, lit_u16 h.2.1, lit_u16 h.2.2.1, lit_u16 h.2.2.2⟩
/-- A literal, so much on. -/
def sh (off x : Int) : Int := if x < 0 then x - off else x + off
theorem sh_ofv {a off : Int} (h0 : 0 ≤ a) (_h2 : 0 ≤ off) : ofv a off = sh off (ofv a 0) ∧ -(ofv a off) = sh off (-(ofv a 0)) := by unfold sh ofv; split <;> (constructor <;> (split <;> omega))
theorem cls_sh {ins off : Int} {l : List A2} (h : GoodA ins l) (h2 : 0 ≤ off) : ∀ k, k ≤ l.length → cls ins off l k = (cls ins 0 l k).map (fun r => r.map (sh off))
  | 0, _ => by
    simp only [cls, List.map_cons, List.map_nil, sh]
    rw [if_pos (by omega)]
    congr 2
    omega
  | k + 1, hk => by
    have i0 := h.ins0
    have hg : l[k]? = some l[k] := List.getElem?_eq_getElem (by omega)
    have e2 : l.getD k z49 = l[k] := by rw [List.getD_eq_getElem?_getD, hg]; rfl
    obtain ⟨a0, a1, a2, _⟩ := h.in_ k _ hg
    have q0 := sh_ofv (a := l[k].f0) (off := off) (by omega) h2
    have q1 := sh_ofv (a := l[k].f1) (off := off) (by omega) h2
    have q2 : -(off + 2 + ins + (k : Int)) = sh off (-(0 + 2 + ins + (k : Int))) := by unfold sh; rw [if_pos (by omega)]; omega
    have q3 : off + 2 + ins + (k : Int) = sh off (0 + 2 + ins + (k : Int)) := by unfold sh; rw [if_neg (by omega)]; omega
    simp only [cls, List.map_append, cls_sh h h2 k (by omega), e2, three, List.map_cons, List.map_nil]
    rw [← q0.1, ← q0.2, ← q1.1, ← q1.2, ← q2, ← q3]
theorem apart_ev (u : Bool) (off : Int) (a : List (List Int)) (ha : a.length < 1000000000) (hr : ∀ r ∈ a, r.length < 1000000000) (hs : ∀ r ∈ a, ∀ x ∈ r, -1000000000 < x ∧ x < 1000000000) (h0 : 0 ≤ off) (h1 : off < 1000000000) :
    Ev (fun k => proofmarklaw17_CnfApart.l0 k u off a (a.map fun r => r.map (sh off)) 0) u := by
  have hlen : (a.map fun r => r.map (sh off)).length = a.length := by simp
  have get2 : ∀ i (h : i < a.length), rd_L2 (a.map fun r => r.map (sh off)) (i : Int) = a[i].map (sh off) := fun i h => by rw [rows_get (by omega)]; simp
  have outer : ∀ d i, a.length - i = d → i ≤ a.length → Ev (fun k => proofmarklaw17_CnfApart.l0 k u off a (a.map fun r => r.map (sh off)) (i : Int)) u := by
    intro d
    induction d with
    | zero =>
      intro i hd hi
      have z : ¬ ((i : Int) < (a.length : Int)) := by omega
      exact Ev.step (fun k => by simp only [proofmarklaw17_CnfApart.l0]; rw [if_neg z]) (Ev.now _)
    | succ d ih =>
      intro i hd hle
      have hlt : i < a.length := by omega
      have hb := hr _ (List.getElem_mem hlt)
      have z1 : (i : Int) < (a.length : Int) := by omega
      have z0 : (0 : Int) ≤ (i : Int) := by omega
      have z1' : (i : Int) < ((a.map fun r => r.map (sh off)).length : Int) := by rw [hlen]; exact z1
      have inner : ∀ e j, a[i].length - j = e → j ≤ a[i].length → Ev (fun k => proofmarklaw17_CnfApart.l1 k u off a (a.map fun r => r.map (sh off)) (i : Int) (j : Int)) u := by
        intro e
        induction e with
        | zero =>
          intro j he hj
          have hn := ih (i + 1) (by omega) (by omega)
          refine Ev.step (fun k => ?_) hn
          have z2 : ¬ ((j : Int) < (a[i].length : Int)) := by omega
          simp only [proofmarklaw17_CnfApart.l1]
          rw [rows_get hlt, if_pos z0, if_pos z1, if_neg z2, succ64 (by omega)]
        | succ e ih2 =>
          intro j he hj
          have hn := ih2 (j + 1) (by omega) (by omega)
          have hjl : j < a[i].length := by omega
          have z2 : (j : Int) < (a[i].length : Int) := by omega
          have z2' : (j : Int) < ((a[i].map (sh off)).length : Int) := by rw [List.length_map]; exact z2
          have z3 : (0 : Int) ≤ (j : Int) := by omega
          obtain ⟨b1, b2⟩ := hs _ (List.getElem_mem hlt) _ (List.getElem_mem hjl)
          have g2 : rd (a[i].map (sh off)) (j : Int) = sh off (a[i][j]) := by rw [rd_get (by simpa using hjl)]; simp
          refine Ev.step (fun k => ?_) hn
          simp only [proofmarklaw17_CnfApart.l1]
          rw [rows_get hlt, get2 i hlt, if_pos z0, if_pos z1, if_pos z2, if_pos z3, rd_get hjl, g2]
          by_cases hneg : a[i][j] < 0
          · have w : wrap64 (a[i][j] - off) = a[i][j] - off := w64 (by omega) (by omega)
            rw [if_pos hneg, if_pos z1', if_pos z2', w, if_pos (show sh off a[i][j] = a[i][j] - off from if_pos hneg), succ64 (by omega)]
          · have w : wrap64 (a[i][j] + off) = a[i][j] + off := w64 (by omega) (by omega)
            rw [if_neg hneg, if_pos z1', if_pos z2', w, if_pos (show sh off a[i][j] = a[i][j] + off from if_neg hneg), succ64 (by omega)]
      refine Ev.step (fun k => ?_) (inner _ 0 rfl (by omega))
      have z6 : ((a[i].length : Nat) : Int) = ((a[i].map (sh off)).length : Int) := by rw [List.length_map]
      simp only [proofmarklaw17_CnfApart.l0]
      rw [rows_get hlt, get2 i hlt, if_pos z1, if_pos z0, if_pos z1', if_pos z6]
      rfl
  exact outer _ 0 rfl (by omega)
theorem CnfApart : proofmarklaw17_CnfApart.Pure := by
  intro x0 x1 x2 w0 w1 w2
  have b0 := lit_u8 w0
  have b2 := lit_u16 w2
  refine Ev.rounds (r := true) ?_
  unfold proofmarklaw17_CnfApart.f
  refine Ev.bind (f := fun k t => _) head_ev ?_
  rw [great_f]
  simp only [Option.bind_some]
  by_cases hl : (x1.length : Int) > 120
  · simp only [decide_eq_true hl, if_true]
    exact Ev.now _
  simp only [decide_eq_false hl, Bool.false_eq_true, if_false]
  obtain ⟨ins, l, lits, hev, hg, hn⟩ := made_ev x0 x1 b0.1 b0.2 (fun x hx => opOk (w1.2 x hx)) (by omega)
  refine Ev.bind (f := fun k bt => _) hev ?_
  obtain ⟨v1, v2⟩ := vars_f hg (by omega)
  have i0 := hg.ins0
  have i1 := hg.ins1
  have e2 : wrap64 x2 = x2 := w64 (by omega) (by omega)
  rw [e2]
  clear e2
  have c1 := clauses_f hg (by omega) (show (0 : Int) ≤ 0 by omega) (show (0 : Int) < 100000000 by omega)
  have c2 := clauses_f hg (by omega) b2.1 (show x2 < 100000000 by omega)
  refine Ev.bindc (f := fun k t => _) c1 ?_
  refine Ev.bindc (f := fun k t => _) c2 ?_
  have z1 : ((cls ins 0 l l.length).length : Int) = ((cls ins x2 l l.length).length : Int) := by rw [cls_len, cls_len]
  refine Ev.ite_pos z1 ?_
  refine Ev.bindc (f := fun k t => _) v1 ?_
  have w3 : wrap64 (x2 + (1 + ins + (l.length : Int))) = x2 + 1 + ins + (l.length : Int) := by rw [w64 (by omega) (by omega)]; omega
  rw [w3]
  clear w3
  refine Ev.bind (f := fun k t => _) (within_ev _ _ _ (by rw [cls_len]; omega) (cls_rows _ _ _ _) (In_cls hg b2.1 _ (Nat.le_refl _)) (by omega)) ?_
  refine Ev.ite_pos rfl ?_
  refine Ev.bindc (f := fun k t => _) v1 ?_
  have hin := In_cls hg (show (0 : Int) ≤ 0 by omega) _ (Nat.le_refl _)
  have hin' : In (cls ins 0 l l.length) 0 (1 + ins + (l.length : Int)) := by
    intro r hr x hx
    have := hin r hr x hx
    omega
  refine Ev.bind (f := fun k t => _) (within_ev _ _ _ (by rw [cls_len]; omega) (cls_rows _ _ _ _) hin' (by omega)) ?_
  have fin := apart_ev true x2 (cls ins 0 l l.length) (by rw [cls_len]; omega) (cls_rows _ _ _ _) (fun r hr x hx => by have := hin' r hr x hx; omega) b2.1 (by omega)
  rw [← cls_sh hg b2.1 _ (Nat.le_refl _)] at fin
  refine Ev.step (fun k => ?_) fin
  simp only [proofmarklaw17_CnfApart.j0]
  rw [if_neg (by decide)]
end Go.Proofs.Ytdfbnlmjnollnaa.Pure
