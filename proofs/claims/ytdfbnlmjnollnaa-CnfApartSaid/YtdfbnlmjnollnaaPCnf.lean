/- Plain facts of clauses: literals, the clauses of a graph, rows that are alike; the law's live question. -/
import Derived.Test.YtdfbnlmjnollnaaPAig
import Derived.Test.YtdfbnlmjnollnaaXb3
import Derived.Test.YtdfbnlmjnollnaaXb5
import Derived.Test.YtdfbnlmjnollnaaXb18
import Derived.Test.YtdfbnlmjnollnaaXb19
import Derived.Test.YtdfbnlmjnollnaaXb17
import Derived.Test.YtdfbnlmjnollnaaXb1
import Derived.Test.YtdfbnlmjnollnaaXb4
import Derived.Test.YtdfbnlmjnollnaaXb6
namespace Go.Proofs.Ytdfbnlmjnollnaa.PCnf
open Go.RowKit Go.Proofs.YtdfbnlmjnollnaaW.PrintWords Go.Proofs.YtdfbnlmjnollnaaW.PrintMore Go.Proofs.Ytdfbnlmjnollnaa.PBits Go.Proofs.Ytdfbnlmjnollnaa.PAig Go.Proofs.Ytdfbnlmjnollnaa.Xb
/-- A literal, as clauses have it. -/
def ofv (a off : Int) : Int := if a % 2 = 0 then off + 1 + a / 2 else -(off + 1 + a / 2)
theorem of_f {a off : Int} (h0 : 0 ≤ a) (h1 : a < 1000000000) (h2 : 0 ≤ off) (h3 : off < 1000000000) : cnf_Of.f a off = some (ofv a off) := by
  have e : cnf_literal_of.f a off = some (ofv a off) := by
    unfold cnf_literal_of.f ofv
    rw [and_one a h0 (by omega)]
    have hm : a % 2 = 0 ∨ a % 2 = 1 := by omega
    rw [w64 (n := off + 1) (by omega) (by omega), w64 (n := off + 1 + a / 2) (by omega) (by omega)]
    rcases hm with hm | hm
    · rw [hm, if_pos rfl, w64 (n := 2 * 0) (by omega) (by omega), w64 (n := 1 - 2 * 0) (by omega) (by omega), w64 (by omega) (by omega)]
      congr 1; omega
    · rw [hm, if_neg (by omega), w64 (n := 2 * 1) (by omega) (by omega), w64 (n := 1 - 2 * 1) (by omega) (by omega), w64 (by omega) (by omega)]
      congr 1; omega
  unfold cnf_Of.f
  rw [e]
  rfl
theorem ofr_f {a off : Int} (h0 : 0 ≤ a) (h1 : a < 1000000000) (h2 : 0 ≤ off) (h3 : off < 1000000000) : proofmarkref17_Of.f a off = some (ofv a off) := by
  unfold proofmarkref17_Of.f ofv
  rw [tmodn h0, tdiv2 h0, w64 (n := a / 2) (by omega) (by omega), w64 (n := off + 1) (by omega) (by omega), w64 (n := off + 1 + a / 2) (by omega) (by omega)]
  have hm : a % 2 = 0 ∨ a % 2 = 1 := by omega
  rcases hm with hm | hm
  · rw [hm, if_neg (by omega), if_pos rfl]
  · rw [hm, if_pos rfl, if_neg (by omega), w64 (by omega) (by omega)]
theorem of_eq {a off : Int} (h0 : 0 ≤ a) (h1 : a < 1000000000) (h2 : 0 ≤ off) (h3 : off < 1000000000) : cnf_Clauses.of a off = ofv a off := by
  have h := cnf_Clauses.of_eq a off
  rw [of_f h0 h1 h2 h3] at h
  exact (Option.some.inj h).symm
theorem ofv_bd {a off : Int} (h0 : 0 ≤ a) (h2 : 0 ≤ off) : -(off + 1 + a / 2) ≤ ofv a off ∧ ofv a off ≤ off + 1 + a / 2 := by unfold ofv; split <;> omega
theorem ofv_abs {a off : Int} (h0 : 0 ≤ a) (h2 : 0 ≤ off) : max (ofv a off) (-(ofv a off)) = off + 1 + a / 2 := by unfold ofv; split <;> omega
/-- The three clauses of an and. -/
def three (ins off : Int) (i : Int) (x : A2) : List (List Int) :=
  [[-(off + 2 + ins + i), ofv x.f0 off], [-(off + 2 + ins + i), ofv x.f1 off], [off + 2 + ins + i, -(ofv x.f0 off), -(ofv x.f1 off)]]
/-- The clauses of a graph's first k ands. -/
def cls (ins off : Int) (l : List A2) : Nat → List (List Int)
  | 0 => [[-(off + 1)]]
  | k + 1 => cls ins off l k ++ three ins off k (l.getD k z49)
theorem cls_len (ins off : Int) (l : List A2) : ∀ k, (cls ins off l k).length = 1 + 3 * k
  | 0 => rfl
  | k + 1 => by simp [cls, cls_len ins off l k, three]; omega
theorem good_f {ins : Int} {l : List A2} (h : GoodA ins l) (hl : l.length ≤ 1000) {i : Nat} {x : A2} (hx : l[i]? = some x) : 0 ≤ x.f0 ∧ x.f0 < 4000 ∧ 0 ≤ x.f1 ∧ x.f1 < 4000 := by
  have h1 := h.in_ i x hx
  have h2 := h.ins1
  have h3 := (List.getElem?_eq_some_iff.1 hx).1
  omega
theorem three_eq {ins off : Int} {i : Nat} {x : A2} (hi0 : 0 ≤ ins) (hi1 : ins ≤ 8) (hi : i < 1000) (h2 : 0 ≤ off) (h3 : off < 100000000) (hx : 0 ≤ x.f0 ∧ x.f0 < 4000 ∧ 0 ≤ x.f1 ∧ x.f1 < 4000) : cnf_Clauses.three ins off i x = three ins off i x := by
  obtain ⟨a0, a1, b0, b1⟩ := hx
  have e : cnf_Clauses.of (wrap64 (2 * (wrap64 ((wrap64 (1 + ins)) + (i : Int))))) off = off + 2 + ins + i := by
    rw [w64 (n := 1 + ins) (by omega) (by omega), w64 (n := 1 + ins + (i : Int)) (by omega) (by omega), w64 (n := 2 * (1 + ins + (i : Int))) (by omega) (by omega), of_eq (by omega) (by omega) h2 (by omega)]
    unfold ofv
    rw [if_pos (by omega)]
    omega
  have p0 := ofv_bd (a := x.f0) (off := off) a0 h2
  have p1 := ofv_bd (a := x.f1) (off := off) b0 h2
  unfold cnf_Clauses.three three
  rw [e, of_eq a0 (by omega) h2 (by omega), of_eq b0 (by omega) h2 (by omega), w64 (n := -(off + 2 + ins + (i : Int))) (by omega) (by omega), w64 (n := -(ofv x.f0 off)) (by omega) (by omega), w64 (n := -(ofv x.f1 off)) (by omega) (by omega)]
theorem upto_eq {ins off : Int} {l : List A2} (h : GoodA ins l) (hl : l.length ≤ 1000) (h2 : 0 ≤ off) (h3 : off < 100000000) : ∀ k, k ≤ l.length → cnf_Clauses.upto ins off l k = cls ins off l k
  | 0, _ => by
    unfold cnf_Clauses.upto cls
    rw [of_eq (by omega) (by omega) h2 (by omega)]
    unfold ofv
    rw [if_pos (by omega), w64 (by omega) (by omega)]
    simp
  | k + 1, hk => by
    unfold cnf_Clauses.upto cls
    rw [upto_eq h hl h2 h3 k (by omega)]
    have hx : l[k]? = some l[k] := List.getElem?_eq_getElem (by omega)
    have e : rd_T49 l (k : Int) = l.getD k z49 := by unfold rd_T49; rw [Int.toNat_natCast]
    have e2 : l.getD k z49 = l[k] := by rw [List.getD_eq_getElem?_getD, hx]; rfl
    rw [e, e2, three_eq h.ins0 h.ins1 (by omega) h2 h3 (good_f h hl hx)]
theorem clauses_f {ins off : Int} {l : List A2} (h : GoodA ins l) (hl : l.length ≤ 1000) (h2 : 0 ≤ off) (h3 : off < 100000000) : cnf_Clauses.f ins l off = some (cls ins off l l.length) := by
  unfold cnf_Clauses.f
  rw [if_pos (by omega), upto_eq h hl h2 h3 _ (Nat.le_refl _)]
theorem clausesr_ev {ins off : Int} {l : List A2} (h : GoodA ins l) (hl : l.length ≤ 1000) (h2 : 0 ≤ off) (h3 : off < 100000000) : Ev (fun k => proofmarkref17_Clauses.f k ins l off) (cls ins off l l.length) := by
  have i0 := h.ins0
  have i1 := h.ins1
  have loop : ∀ d i, l.length - i = d → i ≤ l.length → Ev (fun k => proofmarkref17_Clauses.l0 k off (cls ins off l i) (i : Int) ins l) (cls ins off l l.length) := by
    intro d
    induction d with
    | zero =>
      intro i hd hi
      obtain rfl : i = l.length := by omega
      exact Ev.step (fun k => by simp only [proofmarkref17_Clauses.l0]; rw [if_neg (by omega)]) (Ev.now _)
    | succ d ih =>
      intro i hd hi
      have hlt : i < l.length := by omega
      have hx : l[i]? = some l[i] := List.getElem?_eq_getElem hlt
      have e : rd_T49 l (i : Int) = l[i] := by unfold rd_T49; rw [Int.toNat_natCast, List.getD_eq_getElem?_getD, hx]; rfl
      have e2 : l.getD i z49 = l[i] := by rw [List.getD_eq_getElem?_getD, hx]; rfl
      have g := good_f h hl hx
      have p0 := ofv_bd (a := l[i].f0) (off := off) g.1 h2
      have p1 := ofv_bd (a := l[i].f1) (off := off) g.2.2.1 h2
      have hlen := cls_len ins off l i
      have hn := ih (i + 1) (by omega) (by omega)
      refine Ev.step (fun k => ?_) hn
      simp only [proofmarkref17_Clauses.l0]
      rw [if_pos (by omega), if_pos (by omega), e, ofr_f g.1 (by omega) h2 (by omega), ofr_f g.2.2.1 (by omega) h2 (by omega)]
      simp only [Option.bind_some]
      rw [if_pos (by simp [hlen]; omega), succ64 (by omega), w64 (n := off + 2) (by omega) (by omega), w64 (n := off + 2 + ins) (by omega) (by omega), w64 (n := off + 2 + ins + (i : Int)) (by omega) (by omega), w64 (n := -(off + 2 + ins + (i : Int))) (by omega) (by omega), w64 (n := -(ofv l[i].f0 off)) (by omega) (by omega), w64 (n := -(ofv l[i].f1 off)) (by omega) (by omega)]
      simp only [cls, e2, three]
  unfold proofmarkref17_Clauses.f
  rw [w64 (n := off + 1) (by omega) (by omega), w64 (n := -(off + 1)) (by omega) (by omega)]
  exact loop l.length 0 (by omega) (by omega)
/-- Rows that are one are alike. -/
theorem same_ev (a : List (List Int)) (ha : a.length < 1000000000) (hr : ∀ r ∈ a, r.length < 1000000000) : Ev (fun k => proofmarkref11_SameRows.f k a a) true := by
  have get : ∀ i (h : i < a.length), rd_L2 a (i : Int) = a[i] := fun i h => by
    unfold rd_L2
    rw [Int.toNat_natCast, List.getD_eq_getElem?_getD, List.getElem?_eq_getElem h]; rfl
  have outer : ∀ d i, a.length - i = d → i ≤ a.length → Ev (fun k => proofmarkref11_SameRows.l0 k a a (i : Int)) true := by
    intro d
    induction d with
    | zero =>
      intro i hd hi
      exact Ev.step (fun k => by simp only [proofmarkref11_SameRows.l0]; rw [if_neg (by omega)]) (Ev.now _)
    | succ d ih =>
      intro i hd hi
      have hlt : i < a.length := by omega
      have hb := hr _ (List.getElem_mem hlt)
      have inner : ∀ e j, a[i].length - j = e → j ≤ a[i].length → Ev (fun k => proofmarkref11_SameRows.l1 k a a (i : Int) (j : Int)) true := by
        intro e
        induction e with
        | zero =>
          intro j he hj
          have hn := ih (i + 1) (by omega) (by omega)
          refine Ev.step (fun k => ?_) hn
          simp only [proofmarkref11_SameRows.l1]
          rw [get i hlt, if_pos (by omega), if_pos (by omega), if_neg (by omega), succ64 (by omega)]
        | succ e ih2 =>
          intro j he hj
          have hn := ih2 (j + 1) (by omega) (by omega)
          refine Ev.step (fun k => ?_) hn
          simp only [proofmarkref11_SameRows.l1]
          rw [get i hlt, if_pos (by omega), if_pos (by omega), if_pos (by omega), if_pos (by omega), if_pos (by omega), if_pos (by omega), if_pos trivial, succ64 (by omega)]
      have hn := inner a[i].length 0 (by omega) (by omega)
      refine Ev.step (fun k => ?_) hn
      simp only [proofmarkref11_SameRows.l0]
      rw [if_pos (by omega), if_pos (by omega), if_pos (by omega), if_pos trivial]
      rfl
  unfold proofmarkref11_SameRows.f
  exact Ev.ite_pos rfl (outer a.length 0 (by omega) (by omega))
theorem head_1 : cnf_Of.f 5 10 = some (-13) := by rw [of_f (by omega) (by omega) (by omega) (by omega)]; rfl
theorem head_2 : cnf_Of.f 0 0 = some 1 := by rw [of_f (by omega) (by omega) (by omega) (by omega)]; rfl
theorem head_3 : cnf_Vars.f 2 [(⟨2, 5⟩ : A2)] = some 4 := by
  unfold cnf_Vars.f
  rw [w64 (n := 1 + 2) (by omega) (by omega), w64 (by simp) (by simp)]
  rfl
theorem head_g : GoodA 2 [(⟨2, 5⟩ : A2)] := by
  refine ⟨by omega, by omega, fun i x h => ?_, fun i j x h1 h2 => ?_⟩
  · have : i = 0 := by have := (List.getElem?_eq_some_iff.1 h).1; simp at this; exact this
    subst this
    simp at h
    subst h
    decide
  · have a1 := (List.getElem?_eq_some_iff.1 h1).1
    have a2 := (List.getElem?_eq_some_iff.1 h2).1
    simp at a1 a2
    omega
theorem head_4 : cnf_Clauses.f 2 [(⟨2, 5⟩ : A2)] 10 = some [[-11], [-14, 12], [-14, -13], [14, -12, 13]] := by
  rw [clauses_f (off := 10) head_g (by simp) (by omega) (by omega)]
  rfl
theorem head_ev : Ev (fun k => proofmarklaw17_head.f k) true := by
  have h5 : Ev (fun k => proofmarkref11_SameRows.f k [[-11], [-14, 12], [-14, -13], [14, -12, 13]] [[-11], [-14, 12], [-14, -13], [14, -12, 13]]) true := by
    refine same_ev _ (by simp) ?_
    intro r hr
    simp at hr
    rcases hr with rfl | rfl | rfl | rfl <;> simp
  obtain ⟨K, h5⟩ := h5
  refine ⟨K, fun k hk => ?_⟩
  have h6 : proofmarkref11_SameRows.f k [[-11], [-14, 12], [-14, -13], [14, -12, 13]] [[-11], [-14, 12], [-14, -13], [14, -12, 13]] = some true := h5 k hk
  show proofmarklaw17_head.f k = some true
  unfold proofmarklaw17_head.f
  rw [Option.bind_some, head_1, Option.bind_some, if_pos rfl, head_2, Option.bind_some, if_pos rfl, head_3, Option.bind_some, if_pos rfl, head_4, Option.bind_some, h6, Option.bind_some]
theorem vars_f {ins : Int} {l : List A2} (h : GoodA ins l) (hl : l.length ≤ 1000) : cnf_Vars.f ins l = some (1 + ins + l.length) ∧ proofmarkref17_Vars.f ins l = some (1 + ins + l.length) := by
  have i0 := h.ins0
  have i1 := h.ins1
  unfold cnf_Vars.f proofmarkref17_Vars.f
  rw [w64 (n := 1 + ins) (by omega) (by omega), w64 (by omega) (by omega)]
  exact ⟨rfl, rfl⟩
theorem cls_rows (ins off : Int) (l : List A2) : ∀ k, ∀ r ∈ cls ins off l k, r.length < 1000000000
  | 0, r, hr => by simp [cls] at hr; subst hr; simp
  | k + 1, r, hr => by
    simp only [cls, List.mem_append] at hr
    rcases hr with hr | hr
    · exact cls_rows ins off l k r hr
    · simp [three] at hr
      rcases hr with rfl | rfl | rfl <;> simp
theorem rd_get {a : List Int} {j : Nat} (h : j < a.length) : rd a (j : Int) = a[j] := by
  unfold rd
  rw [Int.toNat_natCast, List.getD_eq_getElem?_getD, List.getElem?_eq_getElem h]; rfl
theorem rows_get {a : List (List Int)} {i : Nat} (h : i < a.length) : rd_L2 a (i : Int) = a[i] := by
  unfold rd_L2
  rw [Int.toNat_natCast, List.getD_eq_getElem?_getD, List.getElem?_eq_getElem h]; rfl
/-- All literals of rows are of variables above off, and not above most. -/
def In (rows : List (List Int)) (off most : Int) : Prop := ∀ r ∈ rows, ∀ x ∈ r, off < max x (-x) ∧ max x (-x) ≤ most
theorem In_cls {ins off : Int} {l : List A2} (h : GoodA ins l) (h2 : 0 ≤ off) : ∀ k, k ≤ l.length → In (cls ins off l k) off (off + 1 + ins + k)
  | 0, _ => by
    intro r hr x hx
    simp [cls] at hr
    subst hr
    simp at hx
    subst hx
    have := h.ins0
    omega
  | k + 1, hk => by
    intro r hr x hx
    have i0 := h.ins0
    simp only [cls, List.mem_append] at hr
    rcases hr with hr | hr
    · have := In_cls h h2 k (by omega) r hr x hx
      omega
    · have hg : l[k]? = some l[k] := List.getElem?_eq_getElem (by omega)
      have e2 : l.getD k z49 = l[k] := by rw [List.getD_eq_getElem?_getD, hg]; rfl
      rw [e2] at hr
      obtain ⟨a0, a1, a2, _⟩ := h.in_ k _ hg
      have p0 := ofv_abs (a := l[k].f0) (off := off) (by omega) h2
      have p1 := ofv_abs (a := l[k].f1) (off := off) (by omega) h2
      simp [three] at hr
      rcases hr with rfl | rfl | rfl <;> simp at hx
      · rcases hx with rfl | rfl <;> omega
      · rcases hx with rfl | rfl <;> omega
      · rcases hx with rfl | rfl | rfl <;> omega
end Go.Proofs.Ytdfbnlmjnollnaa.PCnf
