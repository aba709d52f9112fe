/- Slimmed by this session: what nothing names is struck out. -/
import Derived.Test.YteblbknmikieoaaPVec
import Derived.Test.YteblbknmikieoaaXbK4
import Derived.Test.YteblbknmikieoaaXbK3
import Derived.Test.YteblbknmikieoaaXbK2
import Derived.Test.YteblbknmikieoaaXbK5
import Derived.Test.YteblbknmikieoaaXbK6
namespace Go.Proofs.Yteblbknmikieoaa.P9
open Go.RowKit Go.Proofs.YteblbknmikieoaaW.PrintWords Go.Proofs.YteblbknmikieoaaW.PrintMore Go.Proofs.Yteblbknmikieoaa.PBits Go.Proofs.Yteblbknmikieoaa.PVec Go.Proofs.Yteblbknmikieoaa.Xb
set_option linter.unusedVariables false
set_option linter.unusedSimpArgs false
abbrev Nd := S41
abbrev Pn := S47
abbrev Cl := S43
abbrev Pp := S61
abbrev nd (l : List Nd) (i : Int) : Nd := rd_T41 l i
abbrev pn (l : List Pn) (i : Int) : Pn := rd_T47 l i
abbrev cl (l : List Cl) (i : Int) : Cl := rd_T43 l i
abbrev pp (l : List Pp) (i : Int) : Pp := rd_T61 l i
def wid (N : List Nd) (at_ of : Int) : Int := if at_ < 0 ∨ of ≤ at_ then 0 else (nd N at_).f1
def opk (x : Int) : Int := if x = 1 ∨ x = 21 ∨ x = 22 then 0 else if x = 3 ∨ x = 4 ∨ x = 5 ∨ x = 18 then 1 else if (6 ≤ x ∧ x ≤ 15) ∨ x = 17 then 2 else if x = 16 then 3 else -1
def FitP (x : Nd) (a b c : Int) : Prop :=
  (x.f0 = 1 ∧ 0 ≤ x.f5 ∧ x.f5 ≤ P2 x.f1 - 1 ∧ x.f6 = 0) ∨ ((x.f0 = 21 ∨ x.f0 = 22) ∧ x.f5 = 0 ∧ x.f6 = 0) ∨ (x.f0 = 3 ∧ x.f5 = 0 ∧ x.f6 = 0 ∧ a = x.f1) ∨ ((x.f0 = 4 ∨ x.f0 = 5) ∧ x.f5 = 0 ∧ x.f1 = 1 ∧ a = x.f6 ∧ 0 < a) ∨
  ((6 ≤ x.f0 ∧ x.f0 ≤ 11) ∧ x.f5 = 0 ∧ x.f6 = 0 ∧ a = x.f1 ∧ b = x.f1) ∨ ((12 ≤ x.f0 ∧ x.f0 ≤ 15) ∧ x.f5 = 0 ∧ x.f1 = 1 ∧ a = x.f6 ∧ b = x.f6 ∧ 0 < a) ∨ (x.f0 = 16 ∧ x.f5 = 0 ∧ x.f6 = 0 ∧ a = 1 ∧ b = x.f1 ∧ c = x.f1) ∨
  (x.f0 = 17 ∧ x.f5 = 0 ∧ x.f6 = 0 ∧ 0 < a ∧ 0 < b ∧ a + b = x.f1) ∨ (x.f0 = 18 ∧ 0 ≤ x.f6 ∧ x.f6 ≤ x.f5 ∧ x.f5 < a ∧ x.f1 = x.f5 - x.f6 + 1)
structure NodeP (N : List Nd) (i : Int) : Prop where
  w1 : 1 ≤ (nd N i).f1
  w16 : (nd N i).f1 ≤ 16
  op : 0 ≤ opk (nd N i).f0
  a0 : opk (nd N i).f0 < 1 → (nd N i).f2 = 0
  b0 : opk (nd N i).f0 < 2 → (nd N i).f3 = 0
  c0 : opk (nd N i).f0 < 3 → (nd N i).f4 = 0
  fit : FitP (nd N i) (wid N (nd N i).f2 i) (wid N (nd N i).f3 i) (wid N (nd N i).f4 i)
theorem wide_f {N I C P Q} {a b : Int} (hb : b ≤ N.length) : r9_wide.f N I C P Q a b = some (wid N a b) := by
  unfold r9_wide.f wid
  by_cases h : a < 0
  · rw [if_pos h, if_pos (Or.inl h)]
  · rw [if_neg h]
    by_cases h2 : a ≥ b
    · rw [if_pos h2, if_pos (Or.inr h2)]
    · rw [if_neg h2, if_pos (by omega), if_pos (by omega), if_neg (by omega)]
theorem wid_le {N : List Nd} {i : Nat} (h : ∀ j : Nat, j < i → NodeP N j) (a : Int) : 0 ≤ wid N a i ∧ wid N a i ≤ 16 := by
  unfold wid
  split
  · omega
  · have := h a.toNat (by omega)
    have e : ((a.toNat : Nat) : Int) = a := by omega
    rw [e] at this
    exact ⟨by have := this.w1; omega, this.w16⟩
theorem operands_f (x : Int) (k : Nat) : r9_operands.f (k + 3) x = some (opk x) := by
  unfold opk
  simp only [r9_operands.f, r9_operands.j0, r9_operands.j1, r9_operands.j2]
  by_cases h0 : x = 1 ∨ x = 21 ∨ x = 22
  · rw [if_pos h0]
    rcases h0 with rfl | rfl | rfl <;> rfl
  rw [if_neg h0]
  by_cases h1 : x = 3 ∨ x = 4 ∨ x = 5 ∨ x = 18
  · rw [if_pos h1]
    rcases h1 with rfl | rfl | rfl | rfl <;> rfl
  rw [if_neg h1]
  by_cases h2 : (6 ≤ x ∧ x ≤ 15) ∨ x = 17
  · rw [if_pos h2]
    have h3 : x = 6 ∨ x = 7 ∨ x = 8 ∨ x = 9 ∨ x = 10 ∨ x = 11 ∨ x = 12 ∨ x = 13 ∨ x = 14 ∨ x = 15 ∨ x = 17 := by omega
    rcases h3 with rfl | rfl | rfl | rfl | rfl | rfl | rfl | rfl | rfl | rfl | rfl <;> rfl
  rw [if_neg h2]
  have e1 : ¬ x = 1 := by omega
  have e2 : ¬ x = 21 := by omega
  have e3 : ¬ x = 22 := by omega
  have e4 : ¬ x = 3 := by omega
  have e5 : ¬ x = 4 := by omega
  have e6 : ¬ x = 5 := by omega
  have e7 : ¬ x = 18 := by omega
  have e8 : ¬ x = 6 := by omega
  have e9 : ¬ x = 7 := by omega
  have e10 : ¬ x = 8 := by omega
  have e11 : ¬ x = 9 := by omega
  have e12 : ¬ x = 10 := by omega
  have e13 : ¬ x = 11 := by omega
  have e14 : ¬ x = 12 := by omega
  have e15 : ¬ x = 13 := by omega
  have e16 : ¬ x = 14 := by omega
  have e17 : ¬ x = 15 := by omega
  have e18 : ¬ x = 17 := by omega
  simp [e1, e2, e3, e4, e5, e6, e7, e8, e9, e10, e11, e12, e13, e14, e15, e16, e17, e18]
  split <;> rfl
theorem opk_cases {x : Int} (h : 0 ≤ opk x) : x = 1 ∨ x = 21 ∨ x = 22 ∨ x = 3 ∨ x = 4 ∨ x = 5 ∨ x = 18 ∨ x = 6 ∨ x = 7 ∨ x = 8 ∨ x = 9 ∨ x = 10 ∨ x = 11 ∨ x = 12 ∨ x = 13 ∨ x = 14 ∨ x = 15 ∨ x = 17 ∨ x = 16 := by
  unfold opk at h
  repeat' split at h
  all_goals omega
theorem fits_f {N I C P Q} {i : Nat} (hi : i < N.length) (h : ∀ j : Nat, j < i → NodeP N j) (w1 : 1 ≤ (nd N i).f1) (w16 : (nd N i).f1 ≤ 16) (op : 0 ≤ opk (nd N i).f0) (k : Nat) :
    ∃ b : Bool, r9_fits.f (k + 5) N I C P Q (i : Int) = some b ∧ (b = true ↔ FitP (nd N i) (wid N (nd N i).f2 i) (wid N (nd N i).f3 i) (wid N (nd N i).f4 i)) := by
  have ha := wid_le h (nd N i).f2
  have hb := wid_le h (nd N i).f3
  have hc := wid_le h (nd N i).f4
  have hm := rmask_f (k := (nd N i).f1) (by omega) (by omega)
  have hp := p2_16 w16
  unfold r9_fits.f
  rw [if_pos (by omega), if_pos (by omega), wide_f (by omega), wide_f (by omega), wide_f (by omega)]
  simp only [Option.bind_some]
  change ∃ b : Bool, (if (nd N i).f5 = 0 then r9_fits.j0 (k + 5) _ _ _ ((nd N i).f6 == 0) (nd N i).f0 (nd N i).f1 (nd N i).f2 (nd N i).f3 (nd N i).f4 (nd N i).f5 (nd N i).f6 else r9_fits.j0 (k + 5) _ _ _ false (nd N i).f0 (nd N i).f1 (nd N i).f2 (nd N i).f3 (nd N i).f4 (nd N i).f5 (nd N i).f6) = some b ∧ _
  generalize wid N (nd N i).f2 i = a at *
  generalize wid N (nd N i).f3 i = b at *
  generalize wid N (nd N i).f4 i = c at *
  generalize nd N i = x at *
  have e : (if x.f5 = 0 then r9_fits.j0 (k + 5) a b c (x.f6 == 0) x.f0 x.f1 x.f2 x.f3 x.f4 x.f5 x.f6 else r9_fits.j0 (k + 5) a b c false x.f0 x.f1 x.f2 x.f3 x.f4 x.f5 x.f6) = r9_fits.j0 (k + 5) a b c (decide (x.f5 = 0 ∧ x.f6 = 0)) x.f0 x.f1 x.f2 x.f3 x.f4 x.f5 x.f6 := by
    by_cases h5 : x.f5 = 0
    · rw [if_pos h5]
      congr 1
      by_cases h6 : x.f6 = 0 <;> simp [h5, h6]
    · rw [if_neg h5]
      congr 1
      simp [h5]
  rw [e]
  unfold FitP
  have ew : x.f5 - x.f6 + 1 = x.f5 - x.f6 + 1 := rfl
  have hw : wrap64 (a + b) = a + b := w64 (by omega) (by omega)
  rcases opk_cases op with o | o | o | o | o | o | o | o | o | o | o | o | o | o | o | o | o | o | o
  case inr.inr.inr.inr.inr.inr.inl =>
    simp only [r9_fits.j0, r9_fits.j1, r9_fits.j2, r9_fits.j3, r9_fits.j4, o]
    simp
    by_cases h1 : 0 ≤ x.f6
    · by_cases h2 : x.f6 ≤ x.f5
      · by_cases h3 : x.f5 < a
        · rw [w64 (n := x.f5 - x.f6) (by omega) (by omega), w64 (n := x.f5 - x.f6 + 1) (by omega) (by omega)]
          simp [h1, h2, h3]
          omega
        · simp [h1, h2, h3]
      · simp [h1, h2]
    · simp [h1]
  all_goals simp only [r9_fits.j0, r9_fits.j1, r9_fits.j2, r9_fits.j3, r9_fits.j4, o, hm, hw]
  all_goals simp
  all_goals (repeat' split)
  all_goals simp_all
  all_goals omega
theorem node_f {N I C P Q} {i : Nat} (hi : i < N.length) (h : ∀ j : Nat, j < i → NodeP N j) (k : Nat) :
    ∃ b : Bool, r9_node.f (k + 6) N I C P Q (i : Int) = some b ∧ (b = true ↔ NodeP N i) := by
  unfold r9_node.f
  rw [if_pos (by omega), if_pos (by omega)]
  change ∃ b : Bool, ((r9_operands.f (k + 6) (nd N i).f0).bind fun t371 => (if (nd N i).f1 < 1 then r9_node.j0 (k + 6) i true N I C P Q else _)) = some b ∧ _
  rw [operands_f]
  simp only [Option.bind_some]
  have j0 : r9_node.j0 (k + 6) i true N I C P Q = some false := by simp [r9_node.j0]
  have no : ¬ NodeP N i → ∃ b : Bool, some false = some b ∧ (b = true ↔ NodeP N i) := fun z => ⟨false, rfl, by simp [z]⟩
  by_cases h1 : (nd N i).f1 < 1
  · rw [if_pos h1, j0]
    exact no fun z => by have := z.w1; omega
  rw [if_neg h1]
  by_cases h2 : (nd N i).f1 > 16
  · rw [if_pos h2, j0]
    exact no fun z => by have := z.w16; omega
  rw [if_neg h2]
  by_cases h3 : opk (nd N i).f0 < 0
  · rw [if_pos h3, j0]
    exact no fun z => by have := z.op; omega
  rw [if_neg h3]
  obtain ⟨b, hb, hf⟩ := fits_f (I := I) (C := C) (P := P) (Q := Q) hi h (by omega) (by omega) (by omega) k
  have j1 : ∀ z : Bool, r9_node.j0 (k + 6) i z N I C P Q = some (if z = true then false else b) := by
    intro z
    simp only [r9_node.j0]
    cases z
    · simp [hb]
    · simp
  simp only [j1]
  have yes : (opk (nd N i).f0 < 1 → (nd N i).f2 = 0) → (opk (nd N i).f0 < 2 → (nd N i).f3 = 0) → (opk (nd N i).f0 < 3 → (nd N i).f4 = 0) → ∃ c : Bool, some b = some c ∧ (c = true ↔ NodeP N i) := fun a0 b0 c0 => ⟨b, rfl, fun z => ⟨by omega, by omega, by omega, a0, b0, c0, hf.1 z⟩, fun z => hf.2 z.fit⟩
  by_cases g1 : opk (nd N i).f0 < 1
  · rw [if_pos g1]
    by_cases z1 : (nd N i).f2 = 0
    · rw [if_pos z1, if_pos (by omega)]
      by_cases z2 : (nd N i).f3 = 0
      · rw [if_pos z2, if_pos (by omega)]
        by_cases z3 : (nd N i).f4 = 0
        · rw [z3]
          exact yes (fun _ => z1) (fun _ => z2) (fun _ => z3)
        · simp only [bne_iff_ne.mpr z3, if_pos]
          exact no fun z => z3 (z.c0 (by omega))
      · rw [if_neg z2]
        exact no fun z => z2 (z.b0 (by omega))
    · rw [if_neg z1]
      exact no fun z => z1 (z.a0 g1)
  rw [if_neg g1]
  by_cases g2 : opk (nd N i).f0 < 2
  · rw [if_pos g2]
    by_cases z2 : (nd N i).f3 = 0
    · rw [if_pos z2, if_pos (by omega)]
      by_cases z3 : (nd N i).f4 = 0
      · rw [z3]
        exact yes (fun z => absurd z g1) (fun _ => z2) (fun _ => z3)
      · simp only [bne_iff_ne.mpr z3, if_pos]
        exact no fun z => z3 (z.c0 (by omega))
    · rw [if_neg z2]
      exact no fun z => z2 (z.b0 (by omega))
  rw [if_neg g2]
  by_cases g3 : opk (nd N i).f0 < 3
  · rw [if_pos g3]
    by_cases z3 : (nd N i).f4 = 0
    · rw [z3]
      exact yes (fun z => absurd z g1) (fun z => absurd z g2) (fun _ => z3)
    · simp only [bne_iff_ne.mpr z3, if_pos]
      exact no fun z => z3 (z.c0 (by omega))
  · rw [if_neg g3]
    exact yes (fun z => absurd z g1) (fun z => absurd z g2) (fun z => absurd z g3)
theorem drop_cons {α : Type} (l : List α) (d : α) (j : Nat) (h : j < l.length) : l.drop j = l.getD j d :: l.drop (j + 1) := by
  rw [List.drop_eq_getElem_cons h, List.getD_eq_getElem?_getD, List.getElem?_eq_getElem h]
  rfl
theorem pn_cons (l : List Pn) (j : Nat) (h : j < l.length) : l.drop j = pn l (j : Int) :: l.drop (j + 1) := drop_cons l _ j h
theorem cl_cons (l : List Cl) (j : Nat) (h : j < l.length) : l.drop j = cl l (j : Int) :: l.drop (j + 1) := drop_cons l _ j h
theorem pp_cons (l : List Pp) (j : Nat) (h : j < l.length) : l.drop j = pp l (j : Int) :: l.drop (j + 1) := drop_cons l _ j h
def frm (N : List Nd) (op : Int) : Nat → Nat → List Int
  | _, 0 => []
  | i, d + 1 => if (nd N (i : Int)).f0 = op then (i : Int) :: frm N op (i + 1) d else frm N op (i + 1) d
structure Small (N : List Nd) (I : List Pn) (C : List Cl) (P : List Pp) (Q : List Pn) : Prop where
  n : N.length ≤ 100000
  i : I.length ≤ 100000
  c : C.length ≤ 100000
  p : P.length ≤ 100000
  q : Q.length ≤ 100000
theorem great_f {N I C P Q} : ∃ b : Bool, w9_Great.f N I C P Q = some b ∧ (b = false → Small N I C P Q ∧ N.length ≤ 300) := by
  unfold w9_Great.f
  by_cases h1 : (N.length : Int) > 300
  · exact ⟨true, by rw [if_pos h1], by simp⟩
  rw [if_neg h1]
  by_cases h2 : (I.length : Int) > 100
  · exact ⟨true, by rw [if_pos h2], by simp⟩
  rw [if_neg h2]
  by_cases h3 : (C.length : Int) > 300
  · exact ⟨true, by rw [if_pos h3], by simp⟩
  rw [if_neg h3]
  by_cases h4 : (P.length : Int) > 40
  · exact ⟨true, by rw [if_pos h4], by simp⟩
  rw [if_neg h4]
  exact ⟨_, rfl, fun h => by have := of_decide_eq_false h; exact ⟨⟨by omega, by omega, by omega, by omega, by omega⟩, by omega⟩⟩
theorem pins_ev {N I C P Q} (s : Small N I C P Q) : ∃ b : Bool, Ev (fun k => r9_pins.f k N I C P Q) b ∧ (b = true ↔ I.map (·.f1) = frm N 21 0 N.length ∧ C.map (·.f1) = frm N 22 0 N.length) := by
  have loop : ∀ d (i a c : Nat), i + d = N.length → a ≤ I.length → c ≤ C.length → ∃ b : Bool, Ev (fun k => r9_pins.l0 k (a : Int) (c : Int) (i : Int) N I C P Q) b ∧ (b = true ↔ (I.drop a).map (·.f1) = frm N 21 i d ∧ (C.drop c).map (·.f1) = frm N 22 i d) := by
    have s1 := s.n
    have s2 := s.i
    have s3 := s.c
    intro d
    induction d with
    | zero =>
      intro i a c hi ha hc
      have z : ¬ ((i : Int) < (N.length : Int)) := by omega
      by_cases h1 : (a : Int) = (I.length : Int)
      · refine ⟨_, Ev.step (fun k => by simp only [r9_pins.l0]; rw [if_neg z, if_pos h1]) (Ev.now _), ?_⟩
        have e : a = I.length := by omega
        subst e
        simp [frm]
        omega
      · refine ⟨_, Ev.step (fun k => by simp only [r9_pins.l0]; rw [if_neg z, if_neg h1]) (Ev.now _), ?_⟩
        simp [frm]
        omega
    | succ d ih =>
      intro i a c hi ha hc
      have z : (i : Int) < (N.length : Int) := by omega
      have z0 : (0 : Int) ≤ (i : Int) := by omega
      have j1 : ∀ a' : Nat, a' ≤ I.length → ∃ b : Bool, Ev (fun k => r9_pins.j1 k (a' : Int) (c : Int) (i : Int) N I C P Q) b ∧ (b = true ↔ (I.drop a').map (·.f1) = frm N 21 (i + 1) d ∧ (C.drop c).map (·.f1) = frm N 22 i (d + 1)) := by
        intro a' ha'
        by_cases o : (nd N (i : Int)).f0 = 22
        · by_cases h2 : (c : Int) ≥ (C.length : Int)
          · refine ⟨_, Ev.step (fun k => by simp only [r9_pins.j1]; rw [if_pos z0, if_pos z, if_pos o, if_pos h2]) (Ev.now _), ?_⟩
            have e : C.drop c = [] := List.drop_eq_nil_of_le (by omega)
            rw [e]
            simp [frm, o]
          · have h3 : (c : Int) < (C.length : Int) := by omega
            rw [cl_cons C c (by omega)]
            simp only [frm, if_pos o, List.map_cons, List.cons.injEq]
            by_cases h4 : (cl C (c : Int)).f1 = (i : Int)
            · obtain ⟨b, hb, hf⟩ := ih (i + 1) a' (c + 1) (by omega) ha' (by omega)
              refine ⟨b, Ev.step (fun k => by simp only [r9_pins.j1]; rw [if_pos z0, if_pos z, if_pos o, if_neg h2, if_pos (by omega), if_pos h3, if_pos h4, succ64 (by omega), succ64 (by omega)]) hb, ?_⟩
              rw [hf]
              simp [h4]
            · refine ⟨_, Ev.step (fun k => by simp only [r9_pins.j1]; rw [if_pos z0, if_pos z, if_pos o, if_neg h2, if_pos (by omega), if_pos h3, if_neg h4]) (Ev.now _), ?_⟩
              simp [h4]
        · obtain ⟨b, hb, hf⟩ := ih (i + 1) a' c (by omega) ha' hc
          refine ⟨b, Ev.step (fun k => by simp only [r9_pins.j1]; rw [if_pos z0, if_pos z, if_neg o, succ64 (by omega)]) hb, ?_⟩
          rw [hf]
          simp [frm, o]
      by_cases o : (nd N (i : Int)).f0 = 21
      · by_cases h2 : (a : Int) ≥ (I.length : Int)
        · refine ⟨_, Ev.step (fun k => by simp only [r9_pins.l0]; rw [if_pos z, if_pos z0, if_pos o, if_pos h2]) (Ev.now _), ?_⟩
          have e : I.drop a = [] := List.drop_eq_nil_of_le (by omega)
          rw [e]
          simp [frm, o]
        · have h3 : (a : Int) < (I.length : Int) := by omega
          rw [pn_cons I a (by omega)]
          by_cases h4 : (pn I (a : Int)).f1 = (i : Int)
          · obtain ⟨b, hb, hf⟩ := j1 (a + 1) (by omega)
            refine ⟨b, Ev.step (fun k => by simp only [r9_pins.l0]; rw [if_pos z, if_pos z0, if_pos o, if_neg h2, if_pos (by omega), if_pos h3, if_pos h4, succ64 (by omega)]) hb, ?_⟩
            rw [hf]
            simp only [frm, if_pos o, List.map_cons, List.cons.injEq]
            simp [h4]
          · refine ⟨_, Ev.step (fun k => by simp only [r9_pins.l0]; rw [if_pos z, if_pos z0, if_pos o, if_neg h2, if_pos (by omega), if_pos h3, if_neg h4]) (Ev.now _), ?_⟩
            simp only [frm, if_pos o, List.map_cons, List.cons.injEq]
            simp [h4]
      · obtain ⟨b, hb, hf⟩ := j1 a ha
        refine ⟨b, Ev.step (fun k => by simp only [r9_pins.l0]; rw [if_pos z, if_pos z0, if_neg o]) hb, ?_⟩
        rw [hf]
        simp [frm, o]
  obtain ⟨b, hb, hf⟩ := loop N.length 0 0 0 (by omega) (by omega) (by omega)
  exact ⟨b, hb, by simpa using hf⟩
theorem frm_mem {N : List Nd} {op : Int} : ∀ (d i : Nat) (x : Int), x ∈ frm N op i d → (i : Int) ≤ x ∧ x < (i : Int) + d ∧ (nd N x).f0 = op := by
  intro d
  induction d with
  | zero => intro i x h; simp [frm] at h
  | succ d ih =>
    intro i x h
    simp only [frm] at h
    split at h
    · rcases List.mem_cons.1 h with rfl | h
      · exact ⟨by omega, by omega, by assumption⟩
      · have := ih _ _ h
        exact ⟨by omega, by omega, this.2.2⟩
    · have := ih _ _ h
      exact ⟨by omega, by omega, this.2.2⟩
def CellP (N : List Nd) (c : Cl) : Prop := wid N c.f2 N.length = (nd N c.f1).f1 ∧ 0 ≤ c.f3 ∧ c.f3 ≤ P2 (nd N c.f1).f1 - 1
def PropP (N : List Nd) (p : Pp) : Prop := 8 ≤ p.f0 ∧ p.f0 ≤ 10 ∧ wid N p.f2 N.length = 1
def wsum (N : List Nd) (l : List Cl) : Int := (l.map fun c => (nd N c.f1).f1).sum
structure RightP (N : List Nd) (I : List Pn) (C : List Cl) (P : List Pp) (Q : List Pn) : Prop where
  n : N.length ≤ 4000
  i : I.length ≤ 64
  c : C.length ≤ 256
  p : P.length ≤ 16
  nodes : ∀ j : Nat, j < N.length → NodeP N j
  ins : I.map (·.f1) = frm N 21 0 N.length
  cells : C.map (·.f1) = frm N 22 0 N.length
  cell : ∀ c ∈ C, CellP N c
  prop : ∀ p ∈ P, PropP N p
  name : ∀ q ∈ Q, wid N q.f1 N.length ≠ 0
  bits : wsum N C ≤ 256
theorem there_f {N I C P Q} {a : Int} : r9_there.f N I C P Q a = some (wid N a N.length) := by
  unfold r9_there.f
  rw [wide_f (by omega)]
  rfl
theorem l3_ev {N I C P Q} (s : Small N I C P Q) (x : Int) : ∀ d (j : Nat), j + d = Q.length → ∃ b : Bool, Ev (fun k => r9_Right.l3 k x (j : Int) N I C P Q) b ∧ (b = true ↔ (∀ q ∈ Q.drop j, wid N q.f1 N.length ≠ 0) ∧ x ≤ 256) := by
  have s1 := s.q
  intro d
  induction d with
  | zero =>
    intro j hj
    have z : ¬ ((j : Int) < (Q.length : Int)) := by omega
    refine ⟨_, Ev.step (fun k => by simp only [r9_Right.l3]; rw [if_neg z]) (Ev.now _), ?_⟩
    rw [List.drop_eq_nil_of_le (by omega)]
    simp
  | succ d ih =>
    intro j hj
    have z : (j : Int) < (Q.length : Int) := by omega
    rw [pn_cons Q j (by omega)]
    by_cases h : wid N (pn Q (j : Int)).f1 N.length = 0
    · refine ⟨_, Ev.step (fun k => by simp only [r9_Right.l3]; rw [if_pos z, if_pos (by omega), there_f, Option.bind_some, if_pos h]) (Ev.now _), ?_⟩
      simp [h]
    · obtain ⟨b, hb, hf⟩ := ih (j + 1) (by omega)
      refine ⟨b, Ev.step (fun k => by simp only [r9_Right.l3]; rw [if_pos z, if_pos (by omega), there_f, Option.bind_some, if_neg h, succ64 (by omega)]) hb, ?_⟩
      rw [hf]
      simp [h]
theorem l2_ev {N I C P Q} (s : Small N I C P Q) (x : Int) : ∀ d (j : Nat), j + d = P.length → ∃ b : Bool, Ev (fun k => r9_Right.l2 k x (j : Int) N I C P Q) b ∧ (b = true ↔ (∀ p ∈ P.drop j, PropP N p) ∧ (∀ q ∈ Q, wid N q.f1 N.length ≠ 0) ∧ x ≤ 256) := by
  have s1 := s.p
  intro d
  induction d with
  | zero =>
    intro j hj
    have z : ¬ ((j : Int) < (P.length : Int)) := by omega
    obtain ⟨b, hb, hf⟩ := l3_ev s x Q.length 0 (by omega)
    refine ⟨b, Ev.step (fun k => by simp only [r9_Right.l2]; exact if_neg z) hb, ?_⟩
    rw [List.drop_eq_nil_of_le (by omega)]
    simpa using hf
  | succ d ih =>
    intro j hj
    have z : (j : Int) < (P.length : Int) := by omega
    rw [pp_cons P j (by omega)]
    have no : ∀ b : Bool, b = false → ¬ PropP N (pp P (j : Int)) → (b = true ↔ (∀ p ∈ pp P (j : Int) :: P.drop (j + 1), PropP N p) ∧ (∀ q ∈ Q, wid N q.f1 N.length ≠ 0) ∧ x ≤ 256) := fun b hb hn => by subst hb; simp [hn]
    have j5 : Ev (fun k => r9_Right.j5 k x (j : Int) true N I C P Q) false := Ev.step (fun k => by simp only [r9_Right.j5]; rw [if_pos trivial]) (Ev.now _)
    by_cases h1 : (pp P (j : Int)).f0 < 8
    · exact ⟨false, Ev.step (fun k => by simp only [r9_Right.l2]; rw [if_pos z, if_pos (by omega), if_pos h1]) j5, no _ rfl (fun q => by have := q.1; omega)⟩
    by_cases h2 : (pp P (j : Int)).f0 > 10
    · exact ⟨false, Ev.step (fun k => by simp only [r9_Right.l2]; rw [if_pos z, if_pos (by omega), if_neg h1, if_pos h2]) j5, no _ rfl (fun q => by have := q.2.1; omega)⟩
    by_cases h3 : wid N (pp P (j : Int)).f2 N.length = 1
    · obtain ⟨b, hb, hf⟩ := ih (j + 1) (by omega)
      have j5' : Ev (fun k => r9_Right.j5 k x (j : Int) false N I C P Q) b := Ev.step (fun k => by simp only [r9_Right.j5]; rw [if_neg (by decide), succ64 (by omega)]) hb
      refine ⟨b, Ev.step (fun k => by simp only [r9_Right.l2]; rw [if_pos z, if_pos (by omega), if_neg h1, if_neg h2, there_f, Option.bind_some, bne_eq_false_iff_eq.mpr h3]) j5', ?_⟩
      rw [hf]
      have : PropP N (pp P (j : Int)) := ⟨by omega, by omega, h3⟩
      simp [this]
    · refine ⟨false, Ev.step (fun k => by simp only [r9_Right.l2]; rw [if_pos z, if_pos (by omega), if_neg h1, if_neg h2, there_f, Option.bind_some, bne_iff_ne.mpr h3]) j5, no _ rfl (fun q => h3 q.2.2)⟩
theorem rmask_le {x : Int} (h : 1 ≤ x ∧ x ≤ 16) : r8_Mask.f x = some (P2 x - 1) := rmask_f (by omega) (by omega)
theorem l1_ev {N I C P Q} (s : Small N I C P Q) (hn : ∀ j : Nat, j < N.length → NodeP N j) (hc : C.map (·.f1) = frm N 22 0 N.length) : ∀ d (j : Nat) (x : Int), j + d = C.length → 0 ≤ x → x ≤ 16 * j → ∃ b : Bool, Ev (fun k => r9_Right.l1 k x (j : Int) N I C P Q) b ∧ (b = true ↔ (∀ c ∈ C.drop j, CellP N c) ∧ (∀ p ∈ P, PropP N p) ∧ (∀ q ∈ Q, wid N q.f1 N.length ≠ 0) ∧ x + wsum N (C.drop j) ≤ 256) := by
  have s1 := s.c
  intro d
  induction d with
  | zero =>
    intro j x hj hx hx2
    have z : ¬ ((j : Int) < (C.length : Int)) := by omega
    obtain ⟨b, hb, hf⟩ := l2_ev s x P.length 0 (by omega)
    refine ⟨b, Ev.step (fun k => by simp only [r9_Right.l1]; exact if_neg z) hb, ?_⟩
    rw [List.drop_eq_nil_of_le (by omega)]
    simpa [wsum] using hf
  | succ d ih =>
    intro j x hj hx hx2
    have z : (j : Int) < (C.length : Int) := by omega
    have hm : (cl C (j : Int)).f1 ∈ frm N 22 0 N.length := by
      rw [← hc]
      refine List.mem_map.2 ⟨_, ?_, rfl⟩
      have := cl_cons C j (by omega)
      exact List.mem_of_mem_drop (by rw [this]; exact List.mem_cons_self)
    obtain ⟨m0', m1, -⟩ := frm_mem _ _ _ hm
    have m0 : 0 ≤ (cl C (j : Int)).f1 := m0'
    rw [cl_cons C j (by omega)]
    generalize hcc0 : cl C (j : Int) = c at *
    have hcc : rd_T43 C (j : Int) = c := hcc0
    have hw := hn c.f1.toNat (by omega)
    have e0 : ((c.f1.toNat : Nat) : Int) = c.f1 := by omega
    rw [e0] at hw
    have w1 := hw.w1
    have w16 := hw.w16
    have hx' : wrap64 (x + (nd N c.f1).f1) = x + (nd N c.f1).f1 := w64 (by omega) (by omega)
    have no : ¬ CellP N c → (false = true ↔ (∀ d ∈ c :: C.drop (j + 1), CellP N d) ∧ (∀ p ∈ P, PropP N p) ∧ (∀ q ∈ Q, wid N q.f1 N.length ≠ 0) ∧ x + wsum N (c :: C.drop (j + 1)) ≤ 256) := fun h => by simp [h]
    have j3 : ∀ y, Ev (fun k => r9_Right.j3 k y (j : Int) true N I C P Q) false := fun y => Ev.step (fun k => by simp only [r9_Right.j3]; rw [if_pos trivial]) (Ev.now _)
    by_cases h1 : wid N c.f2 N.length = (nd N c.f1).f1
    · by_cases h2 : c.f3 < 0
      · exact ⟨false, Ev.step (fun k => by simp only [r9_Right.l1]; rw [if_pos z, if_pos (by omega), hcc, if_pos m0, if_pos (by omega), there_f, Option.bind_some, if_pos h1, if_pos h2]) (j3 _), no fun q => by have := q.2.1; omega⟩
      · by_cases h3 : c.f3 > P2 (nd N c.f1).f1 - 1
        · exact ⟨false, Ev.step (fun k => by simp only [r9_Right.l1]; rw [if_pos z, if_pos (by omega), hcc, if_pos m0, if_pos (by omega), there_f, Option.bind_some, if_pos h1, if_neg h2, rmask_le ⟨w1, w16⟩, Option.bind_some, decide_eq_true h3]) (j3 _), no fun q => by have := q.2.2; omega⟩
        · obtain ⟨b, hb, hf⟩ := ih (j + 1) (x + (nd N c.f1).f1) (by omega) (by omega) (by omega)
          have j3' : Ev (fun k => r9_Right.j3 k (x + (nd N c.f1).f1) (j : Int) false N I C P Q) b := Ev.step (fun k => by simp only [r9_Right.j3]; rw [if_neg (by decide), succ64 (by omega)]) hb
          refine ⟨b, Ev.step (fun k => by simp only [r9_Right.l1]; rw [if_pos z, if_pos (by omega), hcc, if_pos m0, if_pos (by omega), there_f, Option.bind_some, if_pos h1, if_neg h2, rmask_le ⟨w1, w16⟩, Option.bind_some, decide_eq_false h3, hx']) j3', ?_⟩
          rw [hf]
          have : CellP N c := ⟨h1, by omega, by omega⟩
          simp only [List.mem_cons, forall_eq_or_imp, this, true_and, wsum, List.map_cons, List.sum_cons, Int.add_assoc]
    · exact ⟨false, Ev.step (fun k => by simp only [r9_Right.l1]; rw [if_pos z, if_pos (by omega), hcc, if_pos m0, if_pos (by omega), there_f, Option.bind_some, if_neg h1]) (j3 _), no fun q => h1 q.1⟩
theorem l0_ev {N I C P Q} (s : Small N I C P Q) : ∀ d (j : Nat), j + d = N.length → (∀ i : Nat, i < j → NodeP N i) → ∃ b : Bool, Ev (fun k => r9_Right.l0 k (j : Int) N I C P Q) b ∧ (b = true ↔ (∀ i : Nat, i < N.length → NodeP N i) ∧ (I.map (·.f1) = frm N 21 0 N.length ∧ C.map (·.f1) = frm N 22 0 N.length) ∧ (∀ c ∈ C, CellP N c) ∧ (∀ p ∈ P, PropP N p) ∧ (∀ q ∈ Q, wid N q.f1 N.length ≠ 0) ∧ wsum N C ≤ 256) := by
  have s1 := s.n
  intro d
  induction d with
  | zero =>
    intro j hj hn
    have z : ¬ ((j : Int) < (N.length : Int)) := by omega
    have hn' : ∀ i : Nat, i < N.length → NodeP N i := fun i hi => hn i (by omega)
    obtain ⟨b, hb, hf⟩ := pins_ev (P := P) (Q := Q) s
    have st : ∀ r, Ev (fun k => (r9_pins.f k N I C P Q).bind fun t => if t = true then r9_Right.l1 k 0 0 N I C P Q else some false) r → Ev (fun k => r9_Right.l0 k (j : Int) N I C P Q) r := fun r h => Ev.step (fun k => by simp only [r9_Right.l0]; rw [if_neg z]) h
    cases b with
    | false =>
      refine ⟨false, st _ (Ev.bind (f := fun k t => if t = true then r9_Right.l1 k 0 0 N I C P Q else some false) hb (Ev.ite_neg (by decide) (Ev.now _))), ?_⟩
      have : ¬ (I.map (·.f1) = frm N 21 0 N.length ∧ C.map (·.f1) = frm N 22 0 N.length) := fun q => by have := hf.2 q; simp at this
      simp [this]
    | true =>
      have hp := hf.1 rfl
      obtain ⟨b, hb2, hf2⟩ := l1_ev (I := I) s hn' hp.2 C.length 0 0 (by omega) (by omega) (by omega)
      refine ⟨b, st _ (Ev.bind (f := fun k t => if t = true then r9_Right.l1 k 0 0 N I C P Q else some false) hb (Ev.ite_pos rfl hb2)), ?_⟩
      rw [hf2]
      simp only [hp, List.drop_zero, Int.zero_add, true_and, and_true]
      exact ⟨fun q => ⟨hn', q⟩, fun q => q.2⟩
  | succ d ih =>
    intro j hj hn
    have z : (j : Int) < (N.length : Int) := by omega
    obtain ⟨b, hb, hf⟩ := node_f (I := I) (C := C) (P := P) (Q := Q) (i := j) (by omega) hn 0
    have hb' : Ev (fun k => r9_node.f k N I C P Q (j : Int)) b := Ev.of (fun k => r9_node.mono _ _ _ _ _ _ k) hb
    have st : ∀ r, Ev (fun k => (r9_node.f k N I C P Q (j : Int)).bind fun t => if t = true then r9_Right.l0 k (((j + 1 : Nat)) : Int) N I C P Q else some false) r → Ev (fun k => r9_Right.l0 k (j : Int) N I C P Q) r := fun r h => Ev.step (fun k => by simp only [r9_Right.l0]; rw [if_pos z, succ64 (i := j) (by omega)]) h
    cases b with
    | false =>
      refine ⟨false, st _ (Ev.bind (f := fun k t => if t = true then r9_Right.l0 k (((j + 1 : Nat)) : Int) N I C P Q else some false) hb' (Ev.ite_neg (by decide) (Ev.now _))), ?_⟩
      have : ¬ (∀ i : Nat, i < N.length → NodeP N i) := fun q => by have := hf.2 (q j (by omega)); simp at this
      simp [this]
    | true =>
      obtain ⟨b, hb2, hf2⟩ := ih (j + 1) (by omega) (fun i hi => by
        rcases Nat.lt_or_ge i j with h | h
        · exact hn i h
        · obtain rfl : i = j := by omega
          exact hf.1 rfl)
      exact ⟨b, st _ (Ev.bind (f := fun k t => if t = true then r9_Right.l0 k (((j + 1 : Nat)) : Int) N I C P Q else some false) hb' (Ev.ite_pos rfl hb2)), hf2⟩
theorem right_ev {N I C P Q} (s : Small N I C P Q) : ∃ b : Bool, Ev (fun k => r9_Right.f k N I C P Q) b ∧ (b = true ↔ RightP N I C P Q) := by
  have s1 := s.n
  unfold r9_Right.f
  have j0 : Ev (fun k => r9_Right.j0 k true N I C P Q) false := Ev.step (fun k => by simp only [r9_Right.j0]; rw [if_pos trivial]) (Ev.now _)
  by_cases h1 : (N.length : Int) > 4000
  · exact ⟨false, Ev.ite_pos h1 j0, by simp; intro q; have := q.n; omega⟩
  by_cases h2 : (I.length : Int) > 64
  · exact ⟨false, Ev.ite_neg h1 (Ev.ite_pos h2 j0), by simp; intro q; have := q.i; omega⟩
  by_cases h3 : (C.length : Int) > 256
  · exact ⟨false, Ev.ite_neg h1 (Ev.ite_neg h2 (Ev.ite_pos h3 j0)), by simp; intro q; have := q.c; omega⟩
  by_cases h4 : (P.length : Int) > 16
  · refine ⟨false, Ev.ite_neg h1 (Ev.ite_neg h2 (Ev.ite_neg h3 ?_)), by simp; intro q; have := q.p; omega⟩
    rw [decide_eq_true h4]
    exact j0
  · obtain ⟨b, hb, hf⟩ := l0_ev s N.length 0 (by omega) (fun i hi => by omega)
    refine ⟨b, Ev.ite_neg h1 (Ev.ite_neg h2 (Ev.ite_neg h3 ?_)), ?_⟩
    · rw [decide_eq_false h4]
      exact Ev.step (fun k => by simp only [r9_Right.j0]; exact if_neg (by decide)) hb
    · rw [hf]
      exact ⟨fun ⟨q1, q2, q3, q4, q5, q6⟩ => ⟨by omega, by omega, by omega, by omega, q1, q2.1, q2.2, q3, q4, q5, q6⟩, fun q => ⟨q.nodes, ⟨q.ins, q.cells⟩, q.cell, q.prop, q.name, q.bits⟩⟩
theorem cat_lt {W wb x y : Int} (h0 : 0 ≤ wb) (h1 : wb ≤ W) (hx : Num_ (W - wb) x) (hy : Num_ wb y) : 0 ≤ x * P2 wb ∧ x * P2 wb + y < P2 W := by
  have e : P2 W = P2 (W - wb) * P2 wb := by rw [← p2_add (by omega) h0]; congr 1; omega
  have h2 := p2_pos wb
  have h3 : (x + 1) * P2 wb ≤ P2 (W - wb) * P2 wb := Int.mul_le_mul_of_nonneg_right (by have := hx.2; omega) (by omega)
  rw [Int.add_mul, Int.one_mul] at h3
  exact ⟨Int.mul_nonneg hx.1 (by omega), by rw [e]; have := hy.2; omega⟩
theorem wid_pos {N : List Nd} {a : Int} {i : Nat} (h : 0 < wid N a i) : 0 ≤ a ∧ a < i ∧ wid N a i = (nd N a).f1 := by
  unfold wid at h ⊢
  split at h
  · omega
  · rename_i hn
    exact ⟨by omega, by omega, by rw [if_neg hn]⟩
theorem bit01 {P : Prop} [Decidable P] : Num_ 1 (if P then (1 : Int) else 0) := by unfold Num_; rw [p2_one]; split <;> omega
theorem bit10 {P : Prop} [Decidable P] : Num_ 1 (if P then (0 : Int) else 1) := by unfold Num_; rw [p2_one]; split <;> omega
theorem do_ok {N : List Nd} {i : Nat} (hall : ∀ j : Nat, j < i → NodeP N j) (h : NodeP N i) (ho : ¬ ((nd N i).f0 = 21 ∨ (nd N i).f0 = 22)) {v : List Int} (hv : ∀ j : Int, 0 ≤ j → j < i → Num_ (nd N j).f1 (rd v j)) :
    ∃ y, vec_Do.f (nd N i).f0 (nd N i).f1 (nd N i).f2 (nd N i).f3 (nd N i).f4 (nd N i).f5 (nd N i).f6 (rd v (nd N i).f2) (rd v (nd N i).f3) (rd v (nd N i).f4) (nd N (nd N i).f3).f1 = some y ∧ Num_ (nd N i).f1 y := by
  have w1 := h.w1
  have w16 := h.w16
  have ha := wid_le hall (nd N i).f2
  have hb := wid_le hall (nd N i).f3
  have hc := wid_le hall (nd N i).f4
  have num : ∀ {a : Int}, 0 < wid N a i → Num_ (wid N a i) (rd v a) := fun {a} q => by
    obtain ⟨q0, q1, q2⟩ := wid_pos q
    rw [q2]
    exact hv a q0 q1
  rcases h.fit with ⟨o, f1, f2, f3⟩ | ⟨o, -⟩ | ⟨o, f1, f2, f3⟩ | ⟨o, f1, f2, f3, f4⟩ | ⟨o, f1, f2, f3, f4⟩ | ⟨o, f1, f2, f3, f4, f5⟩ | ⟨o, f1, f2, f3, f4, f5⟩ | ⟨o, f1, f2, f3, f4, f5⟩ | ⟨o, f1, f2, f3, f4⟩
  · rw [o]
    exact ⟨_, do_lit, by omega, by omega⟩
  · exact absurd o ho
  · have hx := num (a := (nd N i).f2) (by omega)
    rw [f3] at hx
    rw [o]
    exact ⟨_, do_inv (by omega) (by omega) hx, by have := hx.2; omega, by have := hx.1; omega⟩
  · rw [f2]
    rcases o with o | o
    · rw [o]
      exact ⟨_, do_redor, bit10⟩
    · rw [o]
      exact ⟨_, do_redand (by omega) (by omega), bit01⟩
  · have o' : (nd N i).f0 = 6 ∨ (nd N i).f0 = 7 ∨ (nd N i).f0 = 8 ∨ (nd N i).f0 = 9 ∨ (nd N i).f0 = 10 ∨ (nd N i).f0 = 11 := by omega
    rcases o' with o | o | o | o | o | o <;> rw [o]
    · exact ⟨_, do_and (by omega) (by omega), num_mod _ _⟩
    · exact ⟨_, do_or (by omega) (by omega), num_mod _ _⟩
    · exact ⟨_, do_xor (by omega) (by omega), num_mod _ _⟩
    · exact ⟨_, do_add (by omega) (by omega), num_mod _ _⟩
    · exact ⟨_, do_sub (by omega) (by omega), num_mod _ _⟩
    · exact ⟨_, do_mul (by omega) (by omega), num_mod _ _⟩
  · have o' : (nd N i).f0 = 12 ∨ (nd N i).f0 = 13 ∨ (nd N i).f0 = 14 ∨ (nd N i).f0 = 15 := by omega
    rw [f2]
    rcases o' with o | o | o | o <;> rw [o]
    · exact ⟨_, do_eq, bit01⟩
    · exact ⟨_, do_ne, bit10⟩
    · exact ⟨_, do_lt, bit01⟩
    · exact ⟨_, do_le, bit01⟩
  · have hy := num (a := (nd N i).f3) (by omega)
    have hz := num (a := (nd N i).f4) (by omega)
    rw [f4] at hy
    rw [f5] at hz
    rw [o]
    refine ⟨_, do_mux, ?_⟩
    split
    · exact hy
    · exact hz
  · have hx := num (a := (nd N i).f2) (by omega)
    have hy := num (a := (nd N i).f3) (by omega)
    obtain ⟨-, -, e⟩ := wid_pos (N := N) (a := (nd N i).f3) (i := i) (by omega)
    have e2 : wid N (nd N i).f2 i = (nd N i).f1 - wid N (nd N i).f3 i := by omega
    rw [e2] at hx
    have hl := cat_lt (by omega) (by omega) hx hy
    have hp := p2_16 w16
    rw [o, ← e]
    exact ⟨_, do_cat (by omega) (by omega) hx.1 hy (by omega), by have := hy.1; omega, hl.2⟩
  · rw [o]
    refine ⟨_, do_slice (by omega) (by omega) (by omega) (by omega) (by omega), ?_⟩
    rw [← f4]
    exact num_mod _ _
def setS (l ps xs : List Int) : Nat → List Int
  | 0 => l
  | i + 1 => (setS l ps xs i).set (rd ps i).toNat (rd xs i)
theorem setS_len (l ps xs : List Int) : ∀ i, (setS l ps xs i).length = l.length
  | 0 => rfl
  | i + 1 => by rw [setS, List.length_set, setS_len l ps xs i]
def doV (N : List Nd) (v : List Int) (x : Nd) : Int := (vec_Do.f x.f0 x.f1 x.f2 x.f3 x.f4 x.f5 x.f6 (rd v x.f2) (rd v x.f3) (rd v x.f4) (nd N x.f3).f1).getD 0
def evN (N : List Nd) (l : List Int) : Nat → List Int
  | 0 => l
  | i + 1 => if (nd N i).f0 = 21 ∨ (nd N i).f0 = 22 then evN N l i else (evN N l i).set i (doV N (evN N l i) (nd N i))
theorem evN_len (N : List Nd) (l : List Int) : ∀ i, (evN N l i).length = l.length
  | 0 => rfl
  | i + 1 => by
    rw [evN]
    split
    · exact evN_len N l i
    · rw [List.length_set, evN_len N l i]
def insV (N : List Nd) (ins : List Int) : List Int := setS (List.replicate N.length 0) (frm N 21 0 N.length) ins (frm N 21 0 N.length).length
def stV (N : List Nd) (st ins : List Int) : List Int := setS (insV N ins) (frm N 22 0 N.length) st (frm N 22 0 N.length).length
def evalV (N : List Nd) (st ins : List Int) : List Int := evN N (stV N st ins) N.length
theorem evalV_len (N : List Nd) (st ins : List Int) : (evalV N st ins).length = N.length := by
  unfold evalV stV insV
  rw [evN_len, setS_len, setS_len, List.length_replicate]
theorem rd_set {l : List Int} {i j : Nat} {x : Int} (hi : i < l.length) : rd (l.set i x) (j : Int) = if i = j then x else rd l (j : Int) := by
  unfold rd
  simp only [Int.toNat_natCast, List.getD_eq_getElem?_getD, List.getElem?_set]
  split
  · rename_i e
    subst e
    simp [hi]
  · rfl
def Nums (N : List Nd) (v : List Int) : Prop := v.length = N.length ∧ ∀ j : Nat, j < N.length → Num_ (nd N (j : Int)).f1 (rd v (j : Int))
theorem nums_set {N : List Nd} {v : List Int} (h : Nums N v) {i : Nat} {x : Int} (hx : i < N.length → Num_ (nd N (i : Int)).f1 x) : Nums N (v.set i x) := by
  refine ⟨by rw [List.length_set]; exact h.1, fun j hj => ?_⟩
  by_cases c : i < v.length
  · rw [rd_set c]
    split
    · rename_i e
      subst e
      exact hx hj
    · exact h.2 j hj
  · rw [List.set_eq_of_length_le (by omega)]
    exact h.2 j hj
theorem nums_zero (N : List Nd) : Nums N (List.replicate N.length 0) := by
  refine ⟨List.length_replicate, fun j hj => ?_⟩
  have : rd (List.replicate N.length 0) (j : Int) = 0 := by
    unfold rd
    simp [List.getD_eq_getElem?_getD, List.getElem?_replicate]
    split <;> rfl
  rw [this]
  exact num_zero _
def Fits (N : List Nd) (ps xs : List Int) : Prop := xs.length = ps.length ∧ ∀ j : Nat, j < ps.length → Num_ (nd N (rd ps (j : Int))).f1 (rd xs (j : Int))
theorem rd_mem {l : List Int} {j : Nat} (h : j < l.length) : rd l (j : Int) ∈ l := by
  unfold rd
  rw [Int.toNat_natCast, List.getD_eq_getElem?_getD, List.getElem?_eq_getElem h]
  exact List.getElem_mem h
theorem nums_setS {N : List Nd} {l xs : List Int} {op : Int} (h : Nums N l) (hf : Fits N (frm N op 0 N.length) xs) : ∀ i, i ≤ (frm N op 0 N.length).length → Nums N (setS l (frm N op 0 N.length) xs i)
  | 0, _ => h
  | i + 1, hi => by
    rw [setS]
    obtain ⟨m0, m1, -⟩ := frm_mem _ _ _ (rd_mem (l := frm N op 0 N.length) (j := i) (by omega))
    refine nums_set (nums_setS h hf i (by omega)) fun _ => ?_
    have e : (((rd (frm N op 0 N.length) (i : Int)).toNat : Nat) : Int) = rd (frm N op 0 N.length) (i : Int) := by omega
    rw [e]
    exact hf.2 i (by omega)
theorem nums_evN {N : List Nd} (hall : ∀ j : Nat, j < N.length → NodeP N j) {l : List Int} (h : Nums N l) : ∀ i, i ≤ N.length → Nums N (evN N l i)
  | 0, _ => h
  | i + 1, hi => by
    have ih := nums_evN hall h i (by omega)
    rw [evN]
    split
    · exact ih
    · rename_i o
      refine nums_set ih fun _ => ?_
      obtain ⟨y, hy, hn⟩ := do_ok (fun j hj => hall j (by omega)) (hall i (by omega)) o (v := evN N l i) (fun j h0 h1 => by
        have := ih.2 j.toNat (by omega)
        have e : ((j.toNat : Nat) : Int) = j := by omega
        rw [e] at this
        exact this)
      unfold doV
      rw [hy]
      exact hn
theorem nums_stV {N : List Nd} {st ins : List Int} (hi : Fits N (frm N 21 0 N.length) ins) (hs : Fits N (frm N 22 0 N.length) st) : Nums N (stV N st ins) := nums_setS (nums_setS (nums_zero N) hi _ (Nat.le_refl _)) hs _ (Nat.le_refl _)
theorem rd_pin {I : List Pn} {j : Nat} (h : j < I.length) : rd (I.map (·.f1)) (j : Int) = (pn I (j : Int)).f1 := by
  unfold rd pn rd_T47
  simp [List.getD_eq_getElem?_getD, h]
theorem rd_cell {C : List Cl} {j : Nat} (h : j < C.length) : rd (C.map (·.f1)) (j : Int) = (cl C (j : Int)).f1 := by
  unfold rd cl rd_T43
  simp [List.getD_eq_getElem?_getD, h]
theorem opnds {N : List Nd} {i : Nat} (hi : i < N.length) (h : NodeP N i) : (0 ≤ (nd N i).f2 ∧ (nd N i).f2 < N.length) ∧ (0 ≤ (nd N i).f3 ∧ (nd N i).f3 < N.length) ∧ (0 ≤ (nd N i).f4 ∧ (nd N i).f4 < N.length) := by
  have w1 := h.w1
  have pos : ∀ a : Int, a = 0 ∨ 0 < wid N a i → 0 ≤ a ∧ a < N.length := fun a q => by
    rcases q with q | q
    · omega
    · have := wid_pos q
      omega
  have k : ((nd N i).f2 = 0 ∨ 0 < wid N (nd N i).f2 i) ∧ ((nd N i).f3 = 0 ∨ 0 < wid N (nd N i).f3 i) ∧ ((nd N i).f4 = 0 ∨ 0 < wid N (nd N i).f4 i) := by
    have a0 := h.a0
    have b0 := h.b0
    have c0 := h.c0
    have hf := h.fit
    unfold opk at a0 b0 c0
    unfold FitP at hf
    generalize (nd N i).f0 = op at *
    refine ⟨?_, ?_, ?_⟩
    · by_cases q : op = 1 ∨ op = 21 ∨ op = 22
      · rw [if_pos q] at a0
        exact Or.inl (a0 (by omega))
      · right
        omega
    · by_cases q : op = 1 ∨ op = 21 ∨ op = 22
      · rw [if_pos q] at b0
        exact Or.inl (b0 (by omega))
      · by_cases q2 : op = 3 ∨ op = 4 ∨ op = 5 ∨ op = 18
        · rw [if_neg q, if_pos q2] at b0
          exact Or.inl (b0 (by omega))
        · right
          omega
    · by_cases q : op = 16
      · right
        omega
      · left
        refine c0 ?_
        (repeat' split) <;> omega
  exact ⟨pos _ k.1, pos _ k.2.1, pos _ k.2.2⟩
theorem frm_len {N : List Nd} {op : Int} : ∀ d i, (frm N op i d).length ≤ d
  | 0, _ => by simp [frm]
  | d + 1, i => by
    rw [frm]
    split
    · have := @frm_len N op d (i + 1)
      simp only [List.length_cons]
      omega
    · have := @frm_len N op d (i + 1)
      omega
theorem eval_ev {N I C P Q} {st ins : List Int} (s : Small N I C P Q) (r : RightP N I C P Q) (hi : Fits N (frm N 21 0 N.length) ins) (hs : Fits N (frm N 22 0 N.length) st) : Ev (fun k => net_Eval.f k N I C P Q st ins) (evalV N st ins) := by
  have s1 := s.n
  have s2 := s.i
  have s3 := s.c
  have lI : (frm N 21 0 N.length).length = I.length := by rw [← r.ins, List.length_map]
  have lC : (frm N 22 0 N.length).length = C.length := by rw [← r.cells, List.length_map]
  have hl0 := nums_stV hi hs
  have l2 : ∀ d (i : Nat), i + d = N.length → Ev (fun k => net_Eval.l2 k (evN N (stV N st ins) i) N (N.length : Int) (i : Int) N I C P Q) (evalV N st ins) := by
    intro d
    induction d with
    | zero =>
      intro i h
      have z : ¬ ((i : Int) < (N.length : Int)) := by omega
      obtain rfl : i = N.length := by omega
      exact Ev.step (fun k => by simp only [net_Eval.l2]; rw [if_neg z]; rfl) (Ev.now _)
    | succ d ih =>
      intro i h
      have z : (i : Int) < (N.length : Int) := by omega
      have z0 : (0 : Int) ≤ (i : Int) := by omega
      have hd := ih (i + 1) (by omega)
      rw [evN] at hd
      by_cases o1 : (nd N (i : Int)).f0 = 21
      · rw [if_pos (Or.inl o1)] at hd
        exact Ev.step (fun k => by simp only [net_Eval.l2]; rw [if_pos z, if_pos z0, if_pos z, if_pos o1, succ64 (by omega)]) hd
      by_cases o2 : (nd N (i : Int)).f0 = 22
      · rw [if_pos (Or.inr o2)] at hd
        exact Ev.step (fun k => by simp only [net_Eval.l2]; rw [if_pos z, if_pos z0, if_pos z, if_neg o1, if_pos o2, succ64 (by omega)]) hd
      rw [if_neg (by omega)] at hd
      have hi' := r.nodes i (by omega)
      obtain ⟨⟨a0, a1⟩, ⟨b0, b1⟩, ⟨c0, c1⟩⟩ := opnds (by omega) hi'
      have hn := nums_evN r.nodes hl0 i (by omega)
      obtain ⟨y, hy, -⟩ := do_ok (fun j hj => r.nodes j (by omega)) hi' (by omega) (v := evN N (stV N st ins) i) (fun j h0 h1 => by
        have := hn.2 j.toNat (by omega)
        have e : ((j.toNat : Nat) : Int) = j := by omega
        rw [e] at this
        exact this)
      have ed : doV N (evN N (stV N st ins) i) (nd N (i : Int)) = y := by
        unfold doV
        rw [hy]
        rfl
      rw [ed] at hd
      have hl := hn.1
      generalize evN N (stV N st ins) i = v at *
      have a2 : (nd N (i : Int)).f2 < (v.length : Int) := by omega
      have b2 : (nd N (i : Int)).f3 < (v.length : Int) := by omega
      have c2 : (nd N (i : Int)).f4 < (v.length : Int) := by omega
      exact Ev.step (fun k => by simp only [net_Eval.l2]; rw [if_pos z, if_pos z0, if_pos z, if_neg o1, if_neg o2, if_pos a0, if_pos a2, if_pos b0, if_pos b2, if_pos c0, if_pos c2, if_pos b1, hy, Option.bind_some, if_pos (by omega), Int.toNat_natCast, succ64 (by omega)]) hd
  have l1 : ∀ d (i : Nat), i + d = C.length → Ev (fun k => net_Eval.l1 k st (setS (insV N ins) (frm N 22 0 N.length) st i) C (C.length : Int) (i : Int) N I C P Q) (evalV N st ins) := by
    intro d
    induction d with
    | zero =>
      intro i h
      have z : ¬ ((i : Int) < (C.length : Int)) := by omega
      obtain rfl : i = C.length := by omega
      have hd := l2 N.length 0 (by omega)
      rw [evN, stV, lC] at hd
      exact Ev.step (fun k => by simp only [net_Eval.l1]; exact if_neg z) hd
    | succ d ih =>
      intro i h
      have z : (i : Int) < (C.length : Int) := by omega
      have z0 : (0 : Int) ≤ (i : Int) := by omega
      have hd := ih (i + 1) (by omega)
      have hm := rd_mem (l := frm N 22 0 N.length) (j := i) (by omega)
      have e : rd (frm N 22 0 N.length) (i : Int) = (cl C (i : Int)).f1 := by rw [← r.cells]; exact rd_cell (by omega)
      obtain ⟨m0', m1, -⟩ := frm_mem _ _ _ hm
      rw [e] at m0' m1
      have m0 : 0 ≤ (cl C (i : Int)).f1 := m0'
      rw [setS, e] at hd
      have hl := setS_len (insV N ins) (frm N 22 0 N.length) st i
      have hl2 : (insV N ins).length = N.length := by rw [insV, setS_len, List.length_replicate]
      have hs1 := hs.1
      generalize setS (insV N ins) (frm N 22 0 N.length) st i = v at *
      have m2 : (cl C (i : Int)).f1 < (v.length : Int) := by omega
      exact Ev.step (fun k => by simp only [net_Eval.l1]; rw [if_pos z, if_pos z0, if_pos z, if_pos (by omega), if_pos m0, if_pos m2, succ64 (by omega)]) hd
  have l0 : ∀ d (i : Nat), i + d = I.length → Ev (fun k => net_Eval.l0 k st ins (setS (List.replicate N.length 0) (frm N 21 0 N.length) ins i) I (I.length : Int) (i : Int) N I C P Q) (evalV N st ins) := by
    intro d
    induction d with
    | zero =>
      intro i h
      have z : ¬ ((i : Int) < (I.length : Int)) := by omega
      obtain rfl : i = I.length := by omega
      have hd := l1 C.length 0 (by omega)
      rw [setS, insV, lI] at hd
      exact Ev.step (fun k => by simp only [net_Eval.l0]; exact if_neg z) hd
    | succ d ih =>
      intro i h
      have z : (i : Int) < (I.length : Int) := by omega
      have z0 : (0 : Int) ≤ (i : Int) := by omega
      have hd := ih (i + 1) (by omega)
      have hm := rd_mem (l := frm N 21 0 N.length) (j := i) (by omega)
      have e : rd (frm N 21 0 N.length) (i : Int) = (pn I (i : Int)).f1 := by rw [← r.ins]; exact rd_pin (by omega)
      obtain ⟨m0', m1, -⟩ := frm_mem _ _ _ hm
      rw [e] at m0' m1
      have m0 : 0 ≤ (pn I (i : Int)).f1 := m0'
      rw [setS, e] at hd
      have hl := setS_len (List.replicate N.length 0) (frm N 21 0 N.length) ins i
      rw [List.length_replicate] at hl
      have hs1 := hi.1
      generalize setS (List.replicate N.length 0) (frm N 21 0 N.length) ins i = v at *
      have m2 : (pn I (i : Int)).f1 < (v.length : Int) := by omega
      exact Ev.step (fun k => by simp only [net_Eval.l0]; rw [if_pos z, if_pos z0, if_pos z, if_pos (by omega), if_pos m0, if_pos m2, succ64 (by omega)]) hd
  unfold net_Eval.f
  refine Ev.ite_pos (by omega) (Ev.ite_pos (by omega) ?_)
  exact l0 I.length 0 (by omega)
def fillS (l : List Int) (g : Nat → Int) : Nat → List Int
  | 0 => l
  | i + 1 => (fillS l g i).set i (g i)
theorem fillS_len (l : List Int) (g : Nat → Int) : ∀ i, (fillS l g i).length = l.length
  | 0 => rfl
  | i + 1 => by rw [fillS, List.length_set, fillS_len l g i]
theorem fillS_rd (l : List Int) (g : Nat → Int) : ∀ i, i ≤ l.length → ∀ j : Nat, j < i → rd (fillS l g i) (j : Int) = g j
  | 0, _, j, h => by omega
  | i + 1, hi, j, h => by
    rw [fillS, rd_set (by rw [fillS_len]; omega)]
    split
    · rename_i e
      rw [e]
    · exact fillS_rd l g i (by omega) j (by omega)
def firstV (C : List Cl) : List Int := fillS (List.replicate C.length 0) (fun j => (cl C (j : Int)).f3) C.length
def afterV (C : List Cl) (v : List Int) : List Int := fillS (List.replicate C.length 0) (fun j => rd v (cl C (j : Int)).f2) C.length
theorem first_ev {N I C P Q} (s : Small N I C P Q) : Ev (fun k => net_First.f k N I C P Q) (firstV C) := by
  have s3 := s.c
  have l0 : ∀ d (i : Nat), i + d = C.length → Ev (fun k => net_First.l0 k (fillS (List.replicate C.length 0) (fun j => (cl C (j : Int)).f3) i) C (C.length : Int) (i : Int)) (firstV C) := by
    intro d
    induction d with
    | zero =>
      intro i h
      have z : ¬ ((i : Int) < (C.length : Int)) := by omega
      obtain rfl : i = C.length := by omega
      exact Ev.step (fun k => by simp only [net_First.l0]; rw [if_neg z]; rfl) (Ev.now _)
    | succ d ih =>
      intro i h
      have z : (i : Int) < (C.length : Int) := by omega
      have hd := ih (i + 1) (by omega)
      rw [fillS] at hd
      have hl := fillS_len (List.replicate C.length 0) (fun j => (cl C (j : Int)).f3) i
      rw [List.length_replicate] at hl
      generalize fillS (List.replicate C.length 0) (fun j => (cl C (j : Int)).f3) i = v at *
      exact Ev.step (fun k => by simp only [net_First.l0]; rw [if_pos z, if_pos (by omega), if_pos z, if_pos (by omega), Int.toNat_natCast, succ64 (by omega)]) hd
  unfold net_First.f
  refine Ev.ite_pos (by omega) (Ev.ite_pos (by omega) ?_)
  exact l0 C.length 0 (by omega)
theorem next_pos {N I C P Q} (r : RightP N I C P Q) {j : Nat} (h : j < C.length) : 0 ≤ (cl C (j : Int)).f2 ∧ (cl C (j : Int)).f2 < N.length ∧ (nd N (cl C (j : Int)).f2).f1 = (nd N (cl C (j : Int)).f1).f1 ∧ CellP N (cl C (j : Int)) ∧ 0 ≤ (cl C (j : Int)).f1 ∧ (cl C (j : Int)).f1 < N.length ∧ 1 ≤ (nd N (cl C (j : Int)).f1).f1 ∧ (nd N (cl C (j : Int)).f1).f1 ≤ 16 := by
  have hm : cl C (j : Int) ∈ C := List.mem_of_mem_drop (i := j) (by rw [cl_cons C j h]; exact List.mem_cons_self)
  have hc := r.cell _ hm
  have hf : (cl C (j : Int)).f1 ∈ frm N 22 0 N.length := by rw [← r.cells]; exact List.mem_map.2 ⟨_, hm, rfl⟩
  obtain ⟨m0, m1, -⟩ := frm_mem _ _ _ hf
  generalize cl C (j : Int) = c at *
  have hw := r.nodes c.f1.toNat (by omega)
  have e0 : ((c.f1.toNat : Nat) : Int) = c.f1 := by omega
  rw [e0] at hw
  have w1 := hw.w1
  have w16 := hw.w16
  have h1 := hc.1
  obtain ⟨q0, q1, q2⟩ := wid_pos (N := N) (a := c.f2) (i := N.length) (by omega)
  exact ⟨q0, q1, by omega, hc, by omega, by omega, w1, w16⟩
theorem after_ev {N I C P Q} {st ins : List Int} (s : Small N I C P Q) (r : RightP N I C P Q) (hi : Fits N (frm N 21 0 N.length) ins) (hs : Fits N (frm N 22 0 N.length) st) : Ev (fun k => net_After.f k N I C P Q st ins) (afterV C (evalV N st ins)) := by
  have s3 := s.c
  have hlen := evalV_len N st ins
  unfold net_After.f
  refine Ev.bind (f := fun k t => if 0 ≤ (C.length : Int) then (if ((C.length : Int) : Int).toNat ≤ 35184372088832 then (net_After.l0 k t (List.replicate ((C.length : Int) : Int).toNat 0) C (C.length : Int) 0) else (none)) else (none)) (eval_ev s r hi hs) ?_
  generalize evalV N st ins = v at *
  have l0 : ∀ d (i : Nat), i + d = C.length → Ev (fun k => net_After.l0 k v (fillS (List.replicate C.length 0) (fun j => rd v (cl C (j : Int)).f2) i) C (C.length : Int) (i : Int)) (afterV C v) := by
    intro d
    induction d with
    | zero =>
      intro i h
      have z : ¬ ((i : Int) < (C.length : Int)) := by omega
      obtain rfl : i = C.length := by omega
      exact Ev.step (fun k => by simp only [net_After.l0]; rw [if_neg z]; rfl) (Ev.now _)
    | succ d ih =>
      intro i h
      have z : (i : Int) < (C.length : Int) := by omega
      have hd := ih (i + 1) (by omega)
      rw [fillS] at hd
      have hl := fillS_len (List.replicate C.length 0) (fun j => rd v (cl C (j : Int)).f2) i
      rw [List.length_replicate] at hl
      obtain ⟨q0, q1', -⟩ := next_pos r (j := i) (by omega)
      have q1 : (cl C (i : Int)).f2 < (v.length : Int) := by omega
      generalize fillS (List.replicate C.length 0) (fun j => rd v (cl C (j : Int)).f2) i = o at *
      exact Ev.step (fun k => by simp only [net_After.l0]; rw [if_pos z, if_pos (by omega), if_pos z, if_pos q0, if_pos q1, if_pos (by omega), Int.toNat_natCast, succ64 (by omega)]) hd
  refine Ev.ite_pos (by omega) (Ev.ite_pos (by omega) ?_)
  exact l0 C.length 0 (by omega)
theorem rd_app {l : List Int} {x : Int} {j : Nat} (h : j ≤ l.length) : rd (l ++ [x]) (j : Int) = if j < l.length then rd l (j : Int) else x := by
  unfold rd
  simp only [Int.toNat_natCast, List.getD_eq_getElem?_getD]
  split
  · rename_i c
    rw [List.getElem?_append_left c]
  · rename_i c
    obtain rfl : j = l.length := by omega
    simp
theorem num_and {x w : Int} (hx : 0 ≤ x ∧ x ≤ 65535) (h1 : 1 ≤ w) (h2 : w ≤ 16) : Num_ w (Go.bits .and .i64 (wrap64 x) (P2 w - 1)) := by
  rw [w64 (by omega) (by omega), and_mask (by omega) (by omega)]
  exact num_mod _ _
theorem rows_ev {N I C P Q} {a b : List Int} (s : Small N I C P Q) (r : RightP N I C P Q) (ha : ∀ z ∈ a, 0 ≤ z ∧ z ≤ 65535) (hb : ∀ z ∈ b, 0 ≤ z ∧ z ≤ 65535) :
    ∃ st ins, Ev (fun k => w9_Rows.f k N I C P Q a b) (st, ins) ∧ Fits N (frm N 21 0 N.length) ins ∧ Fits N (frm N 22 0 N.length) st := by
  have s2 := s.i
  have s3 := s.c
  have lI : (frm N 21 0 N.length).length = I.length := by rw [← r.ins, List.length_map]
  have lC : (frm N 22 0 N.length).length = C.length := by rw [← r.cells, List.length_map]
  have app : ∀ (ps l : List Int) (x : Int) (i : Nat), l.length = i → (∀ j : Nat, j < i → Num_ (nd N (rd ps (j : Int))).f1 (rd l (j : Int))) → Num_ (nd N (rd ps (i : Int))).f1 x → ∀ j : Nat, j < i + 1 → Num_ (nd N (rd ps (j : Int))).f1 (rd (l ++ [x]) (j : Int)) := by
    intro ps l x i hl h hx j hj
    rw [rd_app (by omega)]
    split
    · exact h j (by omega)
    · obtain rfl : j = i := by omega
      exact hx
  have l1 : ∀ d (i : Nat) (st ins : List Int), i + d = I.length → ins.length = i → (∀ j : Nat, j < i → Num_ (nd N (rd (frm N 21 0 N.length) (j : Int))).f1 (rd ins (j : Int))) → Fits N (frm N 22 0 N.length) st →
      ∃ st' ins', Ev (fun k => w9_Rows.l1 k b st ins (i : Int) N I C P Q) (st', ins') ∧ Fits N (frm N 21 0 N.length) ins' ∧ Fits N (frm N 22 0 N.length) st' := by
    intro d
    induction d with
    | zero =>
      intro i st ins h hl hn hs
      have z : ¬ ((i : Int) < (I.length : Int)) := by omega
      exact ⟨st, ins, Ev.step (fun k => by simp only [w9_Rows.l1]; rw [if_neg z]) (Ev.now _), ⟨by omega, fun j hj => hn j (by omega)⟩, hs⟩
    | succ d ih =>
      intro i st ins h hl hn hs
      have z : (i : Int) < (I.length : Int) := by omega
      have z0 : (0 : Int) ≤ (i : Int) := by omega
      have hm := rd_mem (l := frm N 21 0 N.length) (j := i) (by omega)
      have e : rd (frm N 21 0 N.length) (i : Int) = (pn I (i : Int)).f1 := by rw [← r.ins]; exact rd_pin (by omega)
      obtain ⟨m0', m1', -⟩ := frm_mem _ _ _ hm
      rw [e] at m0' m1'
      have m0 : 0 ≤ (pn I (i : Int)).f1 := m0'
      have m1 : (pn I (i : Int)).f1 < (N.length : Int) := by omega
      have hw := r.nodes (pn I (i : Int)).f1.toNat (by omega)
      have e0 : (((pn I (i : Int)).f1.toNat : Nat) : Int) = (pn I (i : Int)).f1 := by omega
      rw [e0] at hw
      by_cases c : (i : Int) < (b.length : Int)
      · obtain ⟨st', ins', h1, h2⟩ := ih (i + 1) st (ins ++ [Go.bits .and .i64 (wrap64 (rd b (i : Int))) (P2 (nd N (pn I (i : Int)).f1).f1 - 1)]) (by omega) (by simp [hl]) (app _ _ _ _ hl hn (by rw [e]; exact num_and (hb _ (rd_mem (by omega))) hw.w1 hw.w16)) hs
        exact ⟨st', ins', Ev.step (fun k => by simp only [w9_Rows.l1]; rw [if_pos z, if_pos c, if_pos z0, if_pos m0, if_pos m1, rmask_le ⟨hw.w1, hw.w16⟩, Option.bind_some, if_pos (by omega), succ64 (by omega)]) h1, h2⟩
      · obtain ⟨st', ins', h1, h2⟩ := ih (i + 1) st (ins ++ [0]) (by omega) (by simp [hl]) (app _ _ _ _ hl hn (num_zero _)) hs
        exact ⟨st', ins', Ev.step (fun k => by simp only [w9_Rows.l1]; rw [if_pos z, if_neg c, if_pos (by omega), succ64 (by omega)]) h1, h2⟩
  have l0 : ∀ d (i : Nat) (st : List Int), i + d = C.length → st.length = i → (∀ j : Nat, j < i → Num_ (nd N (rd (frm N 22 0 N.length) (j : Int))).f1 (rd st (j : Int))) →
      ∃ st' ins', Ev (fun k => w9_Rows.l0 k a b st (i : Int) N I C P Q) (st', ins') ∧ Fits N (frm N 21 0 N.length) ins' ∧ Fits N (frm N 22 0 N.length) st' := by
    intro d
    induction d with
    | zero =>
      intro i st h hl hn
      have z : ¬ ((i : Int) < (C.length : Int)) := by omega
      obtain ⟨st', ins', h1, h2⟩ := l1 I.length 0 st [] (by omega) rfl (fun j hj => by omega) ⟨by omega, fun j hj => hn j (by omega)⟩
      exact ⟨st', ins', Ev.step (fun k => by simp only [w9_Rows.l0]; exact if_neg z) h1, h2⟩
    | succ d ih =>
      intro i st h hl hn
      have z : (i : Int) < (C.length : Int) := by omega
      have z0 : (0 : Int) ≤ (i : Int) := by omega
      have e : rd (frm N 22 0 N.length) (i : Int) = (cl C (i : Int)).f1 := by rw [← r.cells]; exact rd_cell (by omega)
      obtain ⟨-, -, -, -, m0, m1, w1, w16⟩ := next_pos r (j := i) (by omega)
      by_cases c : (i : Int) < (a.length : Int)
      · obtain ⟨st', ins', h1, h2⟩ := ih (i + 1) (st ++ [Go.bits .and .i64 (wrap64 (rd a (i : Int))) (P2 (nd N (cl C (i : Int)).f1).f1 - 1)]) (by omega) (by simp [hl]) (app _ _ _ _ hl hn (by rw [e]; exact num_and (ha _ (rd_mem (by omega))) w1 w16))
        exact ⟨st', ins', Ev.step (fun k => by simp only [w9_Rows.l0]; rw [if_pos z, if_pos c, if_pos z0, if_pos m0, if_pos m1, rmask_le ⟨w1, w16⟩, Option.bind_some, if_pos (by omega), succ64 (by omega)]) h1, h2⟩
      · obtain ⟨st', ins', h1, h2⟩ := ih (i + 1) (st ++ [0]) (by omega) (by simp [hl]) (app _ _ _ _ hl hn (num_zero _))
        exact ⟨st', ins', Ev.step (fun k => by simp only [w9_Rows.l0]; rw [if_pos z, if_neg c, if_pos (by omega), succ64 (by omega)]) h1, h2⟩
  obtain ⟨st, ins, h1, h2⟩ := l0 C.length 0 [] (by omega) rfl (fun j hj => by omega)
  exact ⟨st, ins, h1, h2⟩
theorem width_f {N I C P Q} {a b : Int} (hb : b ≤ N.length) : net_width.f N I C P Q a b = some (wid N a b) := by
  unfold net_width.f wid
  by_cases h : a < 0
  · rw [if_pos h, if_pos (Or.inl h)]
  · rw [if_neg h]
    by_cases h2 : a ≥ b
    · rw [if_pos h2, if_pos (Or.inr h2)]
    · rw [if_neg h2, if_pos (by omega), if_pos (by omega), if_neg (by omega)]
theorem places_ev {N I C P Q} (s : Small N I C P Q) (op : Int) : Ev (fun k => net_places.f k N I C P Q op) (frm N op 0 N.length) := by
  have s1 := s.n
  have loop : ∀ d (i : Nat) (l : List Int), i + d = N.length → l.length ≤ i → Ev (fun k => net_places.l0 k op l N (N.length : Int) (i : Int)) (l ++ frm N op i d) := by
    intro d
    induction d with
    | zero =>
      intro i l hi hl
      have z : ¬ ((i : Int) < (N.length : Int)) := by omega
      rw [frm, List.append_nil]
      exact Ev.step (fun k => by simp only [net_places.l0]; rw [if_neg z]) (Ev.now _)
    | succ d ih =>
      intro i l hi hl
      have z : (i : Int) < (N.length : Int) := by omega
      rw [frm]
      by_cases o : (nd N (i : Int)).f0 = op
      · rw [if_pos o]
        have hd := ih (i + 1) (l ++ [(i : Int)]) (by omega) (by simp; omega)
        rw [List.append_assoc] at hd
        exact Ev.step (fun k => by simp only [net_places.l0]; rw [if_pos z, if_pos (by omega), if_pos z, if_pos o, if_pos (by omega), succ64 (by omega)]) hd
      · rw [if_neg o]
        exact Ev.step (fun k => by simp only [net_places.l0]; rw [if_pos z, if_pos (by omega), if_pos z, if_neg o, succ64 (by omega)]) (ih (i + 1) l (by omega) (by omega))
  exact loop N.length 0 [] (by omega) (by simp)
theorem same_ev {l : List Int} (hl : l.length ≤ 100000) : Ev (fun k => r4_SameInts.f k l l) true := by
  have loop : ∀ d (i : Nat), i + d = l.length → Ev (fun k => r4_SameInts.l0 k l l (i : Int)) true := by
    intro d
    induction d with
    | zero =>
      intro i hi
      have z : ¬ ((i : Int) < (l.length : Int)) := by omega
      exact Ev.step (fun k => by simp only [r4_SameInts.l0]; rw [if_neg z]) (Ev.now _)
    | succ d ih =>
      intro i hi
      have z : (i : Int) < (l.length : Int) := by omega
      exact Ev.step (fun k => by simp only [r4_SameInts.l0]; rw [if_pos z, if_pos (by omega), if_pos z, if_pos trivial, succ64 (by omega)]) (ih (i + 1) (by omega))
  unfold r4_SameInts.f
  exact Ev.ite_pos rfl (loop l.length 0 (by omega))
theorem frm_snoc {N : List Nd} {op : Int} : ∀ d i, frm N op i (d + 1) = frm N op i d ++ (if (nd N ((i + d : Nat) : Int)).f0 = op then [((i + d : Nat) : Int)] else [])
  | 0, i => by
    simp only [frm, Nat.add_zero, List.nil_append]
  | d + 1, i => by
    rw [frm, frm_snoc d (i + 1), frm]
    have e : i + 1 + d = i + (d + 1) := by omega
    rw [e]
    split <;> rfl
theorem opnds_lt {N : List Nd} {i : Nat} (h : NodeP N i) (o : ¬ ((nd N (i : Int)).f0 = 1 ∨ (nd N (i : Int)).f0 = 21 ∨ (nd N (i : Int)).f0 = 22)) : (0 ≤ (nd N i).f2 ∧ (nd N i).f2 < i) ∧ (0 ≤ (nd N i).f3 ∧ (nd N i).f3 < i) ∧ (0 ≤ (nd N i).f4 ∧ (nd N i).f4 < i) := by
  have w1 := h.w1
  have hf := h.fit
  have a1 : 0 < wid N (nd N i).f2 i := by
    unfold FitP at hf
    omega
  obtain ⟨p0, p1, -⟩ := wid_pos a1
  have pos : ∀ a : Int, a = 0 ∨ 0 < wid N a i → 0 ≤ a ∧ a < i := fun a q => by
    rcases q with q | q
    · omega
    · have := wid_pos q
      omega
  have k : ((nd N i).f3 = 0 ∨ 0 < wid N (nd N i).f3 i) ∧ ((nd N i).f4 = 0 ∨ 0 < wid N (nd N i).f4 i) := by
    have b0 := h.b0
    have c0 := h.c0
    unfold opk at b0 c0
    unfold FitP at hf
    generalize (nd N i).f0 = op at *
    refine ⟨?_, ?_⟩
    · by_cases q2 : op = 3 ∨ op = 4 ∨ op = 5 ∨ op = 18
      · rw [if_neg o, if_pos q2] at b0
        exact Or.inl (b0 (by omega))
      · right
        omega
    · by_cases q : op = 16
      · right
        omega
      · left
        refine c0 ?_
        (repeat' split) <;> omega
  exact ⟨⟨p0, p1⟩, pos _ k.1, pos _ k.2⟩
theorem rd_set_ne {l : List Int} {i j : Nat} {x : Int} (h : i ≠ j) : rd (l.set i x) (j : Int) = rd l (j : Int) := by
  unfold rd
  simp only [Int.toNat_natCast, List.getD_eq_getElem?_getD, List.getElem?_set, if_neg h]
theorem evN_stable {N : List Nd} {l : List Int} {j : Nat} : ∀ d i, j < i → rd (evN N l (i + d)) (j : Int) = rd (evN N l i) (j : Int)
  | 0, _, _ => rfl
  | d + 1, i, h => by
    rw [← Nat.add_assoc, evN]
    split
    · exact evN_stable d i h
    · rw [rd_set_ne (by omega)]
      exact evN_stable d i h
theorem evalV_at {N : List Nd} {st ins : List Int} {i : Nat} (hi : i < N.length) (o : ¬ ((nd N (i : Int)).f0 = 21 ∨ (nd N (i : Int)).f0 = 22)) : rd (evalV N st ins) (i : Int) = doV N (evN N (stV N st ins) i) (nd N (i : Int)) := by
  have e : N.length = (i + 1) + (N.length - (i + 1)) := by omega
  have hl : (stV N st ins).length = N.length := by unfold stV insV; rw [setS_len, setS_len, List.length_replicate]
  unfold evalV
  rw [e, evN_stable _ _ (by omega), evN, if_neg o, rd_set (by rw [evN_len]; omega), if_pos rfl]
theorem one_f (b : Bool) : r8_one.f b = some (if b = true then 1 else 0) := by
  unfold r8_one.f
  split <;> rfl
section
variable {k p q r n lo x y c wb : Int}
theorem rdo_lit : r8_Do.f 1 k p q r n lo x y c wb = some n := rfl
theorem rdo_inv (hk0 : 0 ≤ k) (hk : k ≤ 62) (hx : Num_ k x) : r8_Do.f 3 k p q r n lo x y c wb = some (P2 k - 1 - x) := by
  have h := p2_62 hk
  have h1 := hx.1
  have h2 := hx.2
  show (r8_Mask.f k).bind (fun t => some (wrap64 (t - x))) = _
  rw [rmask_f hk0 hk, Option.bind_some, w64 (by omega) (by omega)]
theorem rdo_redor : r8_Do.f 4 k p q r n lo x y c wb = some (if x = 0 then 0 else 1) := by
  show (r8_one.f (x != 0)).bind (fun t => some t) = _
  rw [one_f, Option.bind_some]
  by_cases h : x = 0
  · rw [if_pos h, h]
    rfl
  · rw [if_neg h, if_pos (by simpa using h)]
theorem rdo_redand (h0 : 0 ≤ lo) (h1 : lo ≤ 62) : r8_Do.f 5 k p q r n lo x y c wb = some (if x = P2 lo - 1 then 1 else 0) := by
  show (r8_Mask.f lo).bind (fun t => (r8_one.f (x == t)).bind fun t => some t) = _
  rw [rmask_f h0 h1, Option.bind_some, one_f, Option.bind_some]
  simp only [beq_iff_eq]
theorem rdo_and : r8_Do.f 6 k p q r n lo x y c wb = some (Go.bits .and .i64 x y) := rfl
theorem rdo_or : r8_Do.f 7 k p q r n lo x y c wb = some (Go.bits .or .i64 x y) := rfl
theorem rdo_xor : r8_Do.f 8 k p q r n lo x y c wb = some (Go.bits .xor .i64 x y) := rfl
theorem rdo_add (hk0 : 0 ≤ k) (hk : k ≤ 62) : r8_Do.f 9 k p q r n lo x y c wb = some (wrap64 (x + y) % P2 k) := by
  show (r8_Mask.f k).bind (fun t => some (Go.bits .and .i64 (wrap64 (x + y)) t)) = _
  rw [rmask_f hk0 hk, Option.bind_some, and_mask hk0 hk]
theorem rdo_sub (hk0 : 0 ≤ k) (hk : k ≤ 62) : r8_Do.f 10 k p q r n lo x y c wb = some (wrap64 (x - y) % P2 k) := by
  show (r8_Mask.f k).bind (fun t => some (Go.bits .and .i64 (wrap64 (x - y)) t)) = _
  rw [rmask_f hk0 hk, Option.bind_some, and_mask hk0 hk]
theorem rdo_mul (hk0 : 0 ≤ k) (hk : k ≤ 62) : r8_Do.f 11 k p q r n lo x y c wb = some (wrap64 (x * y) % P2 k) := by
  show (r8_Mask.f k).bind (fun t => some (Go.bits .and .i64 (wrap64 (x * y)) t)) = _
  rw [rmask_f hk0 hk, Option.bind_some, and_mask hk0 hk]
theorem rdo_eq : r8_Do.f 12 k p q r n lo x y c wb = some (if x = y then 1 else 0) := by
  show ((r8_one.f (x == y)).bind (fun t => some t)).bind (fun t => some t) = _
  rw [one_f]
  simp only [Option.bind_some, beq_iff_eq]
theorem rdo_ne : r8_Do.f 13 k p q r n lo x y c wb = some (if x = y then 0 else 1) := by
  show ((r8_one.f (x != y)).bind (fun t => some t)).bind (fun t => some t) = _
  rw [one_f]
  simp only [Option.bind_some, bne_iff_ne]
  by_cases h : x = y
  · rw [if_pos h, if_neg (by simpa using h)]
  · rw [if_neg h, if_pos h]
theorem rdo_lt : r8_Do.f 14 k p q r n lo x y c wb = some (if x < y then 1 else 0) := by
  show ((r8_one.f (decide (x < y))).bind (fun t => some t)).bind (fun t => some t) = _
  rw [one_f]
  simp only [Option.bind_some, decide_eq_true_eq]
theorem rdo_le : r8_Do.f 15 k p q r n lo x y c wb = some (if x ≤ y then 1 else 0) := by
  show ((r8_one.f (decide (x ≤ y))).bind (fun t => some t)).bind (fun t => some t) = _
  rw [one_f]
  simp only [Option.bind_some, decide_eq_true_eq]
theorem rdo_mux : r8_Do.f 16 k p q r n lo x y c wb = some (if x = 1 then y else c) := by
  show (if x = 1 then some y else some c).bind (fun t => some t) = _
  split <;> rfl
theorem rdo_cat (hw0 : 0 ≤ wb) (hw : wb ≤ 62) (hx : 0 ≤ x) (hy : 0 ≤ y) (hs : x * P2 wb + y < 9223372036854775808) : r8_Do.f 17 k p q r n lo x y c wb = some (x * P2 wb + y) := by
  have h := p2_pos wb
  have h2 : 0 ≤ x * P2 wb := Int.mul_nonneg hx (by omega)
  show (if 0 ≤ wb then some (wrap64 (shl .i64 x wb + y)) else none).bind (fun t => some t) = _
  rw [if_pos hw0, shl_p2 hw hx (by omega), w64 (by omega) (by omega)]
  rfl
theorem rdo_slice (h0 : 0 ≤ lo) (h1 : lo ≤ 62) (hn0 : lo ≤ n + 1) (hn : n - lo ≤ 61) (_hn1 : n ≤ 1000) : r8_Do.f 18 k p q r n lo x y c wb = some (x / P2 lo % P2 (n - lo + 1)) := by
  show (if 0 ≤ lo then (r8_Mask.f (wrap64 (wrap64 (n - lo) + 1))).bind (fun t => some (Go.bits .and .i64 (shr .i64 x lo) t)) else none).bind (fun t => some t) = _
  rw [if_pos h0, w64 (n := n - lo) (by omega) (by omega), w64 (n := n - lo + 1) (by omega) (by omega), rmask_f (by omega) (by omega), shr_p2 h1]
  simp only [Option.bind_some]
  rw [and_mask (by omega) (by omega)]
end
theorem nats {w a : Int} (h : 1 ≤ w ∧ w ≤ 16) (ha : Num_ w a) : ∃ n : Nat, a = n ∧ n < 2 ^ w.toNat ∧ 2 ^ w.toNat ≤ 65536 := by
  obtain ⟨n, rfl⟩ := Int.eq_ofNat_of_zero_le ha.1
  have h1 := ha.2
  have h2 := p2_16 h.2
  unfold P2 at h1 h2
  exact ⟨n, rfl, by omega, by omega⟩
theorem num_lt {w a : Int} (h : Num_ w a) : a % P2 w = a := Int.emod_eq_of_lt h.1 h.2
theorem do_both {N : List Nd} {i : Nat} (hall : ∀ j : Nat, j < i → NodeP N j) (h : NodeP N i) (ho : ¬ ((nd N i).f0 = 21 ∨ (nd N i).f0 = 22)) {v : List Int} (hv : ∀ j : Int, 0 ≤ j → j < i → Num_ (nd N j).f1 (rd v j)) :
    r8_Do.f (nd N i).f0 (nd N i).f1 (nd N i).f2 (nd N i).f3 (nd N i).f4 (nd N i).f5 (nd N i).f6 (rd v (nd N i).f2) (rd v (nd N i).f3) (rd v (nd N i).f4) (nd N (nd N i).f3).f1 = some (doV N v (nd N i)) := by
  have w1 := h.w1
  have w16 := h.w16
  have ha := wid_le hall (nd N i).f2
  have hb := wid_le hall (nd N i).f3
  have hc := wid_le hall (nd N i).f4
  have num : ∀ {a : Int}, 0 < wid N a i → Num_ (wid N a i) (rd v a) := fun {a} q => by
    obtain ⟨q0, q1, q2⟩ := wid_pos q
    rw [q2]
    exact hv a q0 q1
  unfold doV
  rcases h.fit with ⟨o, f1, f2, f3⟩ | ⟨o, -⟩ | ⟨o, f1, f2, f3⟩ | ⟨o, f1, f2, f3, f4⟩ | ⟨o, f1, f2, f3, f4⟩ | ⟨o, f1, f2, f3, f4, f5⟩ | ⟨o, f1, f2, f3, f4, f5⟩ | ⟨o, f1, f2, f3, f4, f5⟩ | ⟨o, f1, f2, f3, f4⟩
  · rw [o, do_lit, rdo_lit]
    rfl
  · exact absurd o ho
  · have hx := num (a := (nd N i).f2) (by omega)
    rw [f3] at hx
    rw [o, do_inv (by omega) (by omega) hx, rdo_inv (by omega) (by omega) hx]
    rfl
  · rcases o with o | o
    · rw [o, do_redor, rdo_redor]
      rfl
    · rw [o, do_redand (by omega) (by omega), rdo_redand (by omega) (by omega)]
      rfl
  · have hx := num (a := (nd N i).f2) (by omega)
    have hy := num (a := (nd N i).f3) (by omega)
    rw [f3] at hx
    rw [f4] at hy
    obtain ⟨n, en, hn, hp⟩ := nats ⟨w1, w16⟩ hx
    obtain ⟨m, em, hm, -⟩ := nats ⟨w1, w16⟩ hy
    have o' : (nd N i).f0 = 6 ∨ (nd N i).f0 = 7 ∨ (nd N i).f0 = 8 ∨ (nd N i).f0 = 9 ∨ (nd N i).f0 = 10 ∨ (nd N i).f0 = 11 := by omega
    rcases o' with o | o | o | o | o | o
    · have hr : n &&& m < 2 ^ (nd N i).f1.toNat := Nat.and_lt_two_pow n hm
      have e : Go.bits .and .i64 (n : Int) (m : Int) = ((n &&& m : Nat) : Int) := and_nat _ _ (by omega) (by omega)
      have hl : Num_ (nd N i).f1 ((n &&& m : Nat) : Int) := ⟨by omega, by unfold P2; omega⟩
      rw [o, do_and (by omega) (by omega), rdo_and, en, em, e, num_lt hl]
      rfl
    · have hr : n ||| m < 2 ^ (nd N i).f1.toNat := Nat.or_lt_two_pow hn hm
      have e : Go.bits .or .i64 (n : Int) (m : Int) = ((n ||| m : Nat) : Int) := or_nat _ _ (by omega) (by omega)
      have hl : Num_ (nd N i).f1 ((n ||| m : Nat) : Int) := ⟨by omega, by unfold P2; omega⟩
      rw [o, do_or (by omega) (by omega), rdo_or, en, em, e, num_lt hl]
      rfl
    · have hr : n ^^^ m < 2 ^ (nd N i).f1.toNat := Nat.xor_lt_two_pow hn hm
      have e : Go.bits .xor .i64 (n : Int) (m : Int) = ((n ^^^ m : Nat) : Int) := xor_nat _ _ (by omega) (by omega)
      have hl : Num_ (nd N i).f1 ((n ^^^ m : Nat) : Int) := ⟨by omega, by unfold P2; omega⟩
      rw [o, do_xor (by omega) (by omega), rdo_xor, en, em, e, num_lt hl]
      rfl
    · rw [o, do_add (by omega) (by omega), rdo_add (by omega) (by omega)]
      rfl
    · rw [o, do_sub (by omega) (by omega), rdo_sub (by omega) (by omega)]
      rfl
    · rw [o, do_mul (by omega) (by omega), rdo_mul (by omega) (by omega)]
      rfl
  · have o' : (nd N i).f0 = 12 ∨ (nd N i).f0 = 13 ∨ (nd N i).f0 = 14 ∨ (nd N i).f0 = 15 := by omega
    rcases o' with o | o | o | o
    · rw [o, do_eq, rdo_eq]
      rfl
    · rw [o, do_ne, rdo_ne]
      rfl
    · rw [o, do_lt, rdo_lt]
      rfl
    · rw [o, do_le, rdo_le]
      rfl
  · rw [o, do_mux, rdo_mux]
    rfl
  · have hx := num (a := (nd N i).f2) (by omega)
    have hy := num (a := (nd N i).f3) (by omega)
    obtain ⟨-, -, e⟩ := wid_pos (N := N) (a := (nd N i).f3) (i := i) (by omega)
    have e2 : wid N (nd N i).f2 i = (nd N i).f1 - wid N (nd N i).f3 i := by omega
    rw [e2] at hx
    have hl := cat_lt (by omega) (by omega) hx hy
    have hp := p2_16 w16
    rw [o, ← e, do_cat (by omega) (by omega) hx.1 hy (by omega), rdo_cat (by omega) (by omega) hx.1 hy.1 (by omega)]
    rfl
  · rw [o, do_slice (by omega) (by omega) (by omega) (by omega) (by omega), rdo_slice (by omega) (by omega) (by omega) (by omega) (by omega)]
    rfl
theorem frm_split {N : List Nd} {op : Int} (e : Nat) : ∀ d i, frm N op i (d + e) = frm N op i d ++ frm N op (i + d) e
  | 0, i => by simp [frm]
  | d + 1, i => by
    have h := frm_split (N := N) (op := op) e d (i + 1)
    have e1 : d + 1 + e = (d + e) + 1 := by omega
    have e2 : i + (d + 1) = i + 1 + d := by omega
    rw [e1, frm, frm, h, e2]
    split <;> rfl
def Agree (k : Nat) (l m : List Int) : Prop := ∀ j : Nat, j < k → rd l (j : Int) = rd m (j : Int)
theorem rd_app_r {A B : List Int} {j : Nat} (h : A.length ≤ j) (h2 : j < (A ++ B).length) : rd (A ++ B) (j : Int) ∈ B := by
  unfold rd
  rw [Int.toNat_natCast, List.getD_eq_getElem?_getD, List.getElem?_append_right h]
  rw [List.length_append] at h2
  rw [List.getElem?_eq_getElem (by omega)]
  exact List.getElem_mem _
theorem list_eq {l m : List Int} (hl : l.length = m.length) (h : Agree l.length l m) : l = m := by
  refine List.ext_getElem hl fun i h1 h2 => ?_
  have := h i h1
  unfold rd at this
  simpa [List.getD_eq_getElem?_getD, h1, h2] using this
theorem firstV_len (C : List Cl) : (firstV C).length = C.length := by unfold firstV; rw [fillS_len, List.length_replicate]
theorem afterV_len (C : List Cl) (v : List Int) : (afterV C v).length = C.length := by unfold afterV; rw [fillS_len, List.length_replicate]
theorem firstV_rd {C : List Cl} {j : Nat} (h : j < C.length) : rd (firstV C) (j : Int) = (cl C (j : Int)).f3 := fillS_rd _ _ _ (by rw [List.length_replicate]; omega) j h
theorem afterV_rd {C : List Cl} {v : List Int} {j : Nat} (h : j < C.length) : rd (afterV C v) (j : Int) = rd v (cl C (j : Int)).f2 := fillS_rd _ _ _ (by rw [List.length_replicate]; omega) j h
theorem agree_snoc {l m : List Int} {x : Int} (h : Agree l.length l m) (hx : x = rd m (l.length : Int)) : Agree (l ++ [x]).length (l ++ [x]) m := by
  intro j hj
  rw [List.length_append, List.length_singleton] at hj
  rw [rd_app (by omega)]
  split
  · rename_i c
    exact h j c
  · obtain rfl : j = l.length := by omega
    exact hx
theorem rfirst_ev {N I C P Q} (s : Small N I C P Q) : Ev (fun k => r9_First.f k N I C P Q) (firstV C) := by
  have s3 := s.c
  have loop : ∀ d (i : Nat) (l : List Int), i + d = C.length → l.length = i → Agree l.length l (firstV C) → Ev (fun k => r9_First.l0 k l (i : Int) N I C P Q) (firstV C) := by
    intro d
    induction d with
    | zero =>
      intro i l h hl ha
      have z : ¬ ((i : Int) < (C.length : Int)) := by omega
      have e : l = firstV C := list_eq (by rw [firstV_len]; omega) ha
      rw [← e]
      exact Ev.step (fun k => by simp only [r9_First.l0]; rw [if_neg z]) (Ev.now _)
    | succ d ih =>
      intro i l h hl ha
      have z : (i : Int) < (C.length : Int) := by omega
      have hd := ih (i + 1) (l ++ [(cl C (i : Int)).f3]) (by omega) (by simp [hl]) (agree_snoc ha (by rw [hl, firstV_rd (by omega)]))
      exact Ev.step (fun k => by simp only [r9_First.l0]; rw [if_pos z, if_pos (by omega), if_pos (by omega), succ64 (by omega)]) hd
  exact loop C.length 0 [] (by omega) rfl (fun j hj => by simp at hj)
theorem rafter_loop {N I C P Q} {v : List Int} (s : Small N I C P Q) (r : RightP N I C P Q) (hv : v.length = N.length) : Ev (fun k => r9_After.l0 k v ([] : List Int) 0 N I C P Q) (afterV C v) := by
  have s3 := s.c
  have loop : ∀ d (i : Nat) (l : List Int), i + d = C.length → l.length = i → Agree l.length l (afterV C v) → Ev (fun k => r9_After.l0 k v l (i : Int) N I C P Q) (afterV C v) := by
    intro d
    induction d with
    | zero =>
      intro i l h hl ha
      have z : ¬ ((i : Int) < (C.length : Int)) := by omega
      have e : l = afterV C v := list_eq (by rw [afterV_len]; omega) ha
      rw [← e]
      exact Ev.step (fun k => by simp only [r9_After.l0]; rw [if_neg z]) (Ev.now _)
    | succ d ih =>
      intro i l h hl ha
      have z : (i : Int) < (C.length : Int) := by omega
      obtain ⟨q0, q1', -⟩ := next_pos r (j := i) (by omega)
      have q1 : (cl C (i : Int)).f2 < (v.length : Int) := by omega
      have hd := ih (i + 1) (l ++ [rd v (cl C (i : Int)).f2]) (by omega) (by simp [hl]) (agree_snoc ha (by rw [hl, afterV_rd (by omega)]))
      exact Ev.step (fun k => by simp only [r9_After.l0]; rw [if_pos z, if_pos (by omega), if_pos q0, if_pos q1, if_pos (by omega), succ64 (by omega)]) hd
  exact loop C.length 0 [] (by omega) rfl (fun j hj => by simp at hj)
theorem rd_set_far {l : List Int} {i j : Nat} {x : Int} (h : ¬ i = j) : rd (l.set i x) (j : Int) = rd l (j : Int) := by
  unfold rd
  simp only [Int.toNat_natCast, List.getD_eq_getElem?_getD, List.getElem?_set, if_neg h]
theorem rd_mid {A B : List Int} {x : Int} : rd (A ++ x :: B) (A.length : Int) = x := by
  unfold rd
  simp [List.getD_eq_getElem?_getD]
theorem setS_at {l A B xs : List Int} {i : Nat} (hi : i < l.length) (hB : ∀ p ∈ B, (i : Int) < p) : rd (setS l (A ++ (i : Int) :: B) xs (A ++ (i : Int) :: B).length) (i : Int) = rd xs (A.length : Int) := by
  have h : ∀ d, A.length + 1 + d ≤ (A ++ (i : Int) :: B).length → rd (setS l (A ++ (i : Int) :: B) xs (A.length + 1 + d)) (i : Int) = rd xs (A.length : Int) := by
    intro d
    induction d with
    | zero =>
      intro _
      rw [Nat.add_zero, setS, rd_mid, Int.toNat_natCast, rd_set (by rw [setS_len]; exact hi), if_pos rfl]
    | succ d ih =>
      intro hd
      have e : A ++ (i : Int) :: B = (A ++ [(i : Int)]) ++ B := by simp
      have hm : rd (A ++ (i : Int) :: B) ((A.length + 1 + d : Nat) : Int) ∈ B := by
        rw [e]
        exact rd_app_r (by rw [List.length_append, List.length_singleton]; omega) (by rw [← e]; omega)
      have := hB _ hm
      rw [← Nat.add_assoc, setS, rd_set_far (by omega)]
      exact ih (by omega)
  have e : (A ++ (i : Int) :: B).length = A.length + 1 + ((A ++ (i : Int) :: B).length - (A.length + 1)) := by rw [List.length_append, List.length_cons]; omega
  have := h ((A ++ (i : Int) :: B).length - (A.length + 1)) (by omega)
  rw [← e] at this
  exact this
theorem setS_else {l ps xs : List Int} {i : Nat} (h : ∀ p ∈ ps, 0 ≤ p ∧ p ≠ (i : Int)) : ∀ k, k ≤ ps.length → rd (setS l ps xs k) (i : Int) = rd l (i : Int)
  | 0, _ => rfl
  | k + 1, hk => by
    have := h _ (rd_mem (l := ps) (j := k) (by omega))
    rw [setS, rd_set_far (by omega)]
    exact setS_else h k (by omega)
theorem evN_keep {N : List Nd} {l : List Int} {i : Nat} (o : (nd N (i : Int)).f0 = 21 ∨ (nd N (i : Int)).f0 = 22) : ∀ k, rd (evN N l k) (i : Int) = rd l (i : Int)
  | 0 => rfl
  | k + 1 => by
    rw [evN]
    split
    · exact evN_keep o k
    · rename_i h
      rw [rd_set_far (by rintro rfl; exact h o)]
      exact evN_keep o k
theorem frm_here {N : List Nd} {op : Int} {i : Nat} (hi : i < N.length) (o : (nd N (i : Int)).f0 = op) : frm N op 0 N.length = frm N op 0 i ++ (i : Int) :: frm N op (i + 1) (N.length - i - 1) := by
  have e : N.length = i + (N.length - i - 1 + 1) := by omega
  have h := frm_split (N := N) (op := op) (N.length - i - 1 + 1) i 0
  rw [← e, Nat.zero_add, frm, if_pos o] at h
  exact h
theorem evalV_in {N : List Nd} {st ins : List Int} {i : Nat} (hi : i < N.length) (o : (nd N (i : Int)).f0 = 21) : rd (evalV N st ins) (i : Int) = rd ins ((frm N 21 0 i).length : Int) := by
  unfold evalV
  rw [evN_keep (Or.inl o), stV, setS_else (fun p hp => by
    obtain ⟨q0, -, q2⟩ := frm_mem _ _ _ hp
    refine ⟨by omega, fun e => ?_⟩
    rw [e, o] at q2
    exact absurd q2 (by decide)) _ (Nat.le_refl _), insV, frm_here hi o, setS_at (by simpa using hi) (fun p hp => by
    obtain ⟨q0, -⟩ := frm_mem _ _ _ hp
    omega)]
theorem evalV_cell {N : List Nd} {st ins : List Int} {i : Nat} (hi : i < N.length) (o : (nd N (i : Int)).f0 = 22) : rd (evalV N st ins) (i : Int) = rd st ((frm N 22 0 i).length : Int) := by
  unfold evalV
  rw [evN_keep (Or.inr o), stV, frm_here hi o, setS_at (by unfold insV; rw [setS_len, List.length_replicate]; exact hi) (fun p hp => by
    obtain ⟨q0, -⟩ := frm_mem _ _ _ hp
    omega)]
theorem frm_yes {N : List Nd} {op : Int} {i : Nat} (o : (nd N (i : Int)).f0 = op) : (frm N op 0 (i + 1)).length = (frm N op 0 i).length + 1 := by
  rw [frm_snoc, Nat.zero_add, if_pos o, List.length_append]
  rfl
theorem frm_no {N : List Nd} {op : Int} {i : Nat} (o : ¬ (nd N (i : Int)).f0 = op) : (frm N op 0 (i + 1)).length = (frm N op 0 i).length := by
  rw [frm_snoc, Nat.zero_add, if_neg o, List.append_nil]
theorem evN_before {N : List Nd} {st ins : List Int} {i : Nat} (hi : i ≤ N.length) {a : Int} (h0 : 0 ≤ a) (h1 : a < i) : rd (evalV N st ins) a = rd (evN N (stV N st ins) i) a := by
  have e : N.length = i + (N.length - i) := by omega
  have e0 : ((a.toNat : Nat) : Int) = a := by omega
  unfold evalV
  rw [e, ← e0, evN_stable _ _ (by omega)]
theorem reval_ev {N I C P Q} {st ins : List Int} (s : Small N I C P Q) (r : RightP N I C P Q) (hi : Fits N (frm N 21 0 N.length) ins) (hs : Fits N (frm N 22 0 N.length) st) : Ev (fun k => r9_Eval.f k N I C P Q st ins) (evalV N st ins) := by
  have s1 := s.n
  have le : ∀ op i, (frm N op 0 i).length ≤ i := fun op i => frm_len i 0
  have loop : ∀ d (i : Nat) (l : List Int), i + d = N.length → l.length = i → Agree l.length l (evalV N st ins) → Ev (fun k => r9_Eval.l0 k st ins l ((frm N 21 0 i).length : Int) ((frm N 22 0 i).length : Int) (i : Int) N I C P Q) (evalV N st ins) := by
    intro d
    induction d with
    | zero =>
      intro i l h hl ha
      have z : ¬ ((i : Int) < (N.length : Int)) := by omega
      have e : l = evalV N st ins := list_eq (by rw [evalV_len]; omega) ha
      rw [← e]
      exact Ev.step (fun k => by simp only [r9_Eval.l0]; rw [if_neg z]) (Ev.now _)
    | succ d ih =>
      intro i l h hl ha
      have z : (i : Int) < (N.length : Int) := by omega
      have z0 : (0 : Int) ≤ (i : Int) := by omega
      have l1 := le 21 i
      have l2 := le 22 i
      have nx : ∀ x : Int, x = rd (evalV N st ins) (i : Int) → Ev (fun k => r9_Eval.l0 k st ins (l ++ [x]) ((frm N 21 0 (i + 1)).length : Int) ((frm N 22 0 (i + 1)).length : Int) ((i + 1 : Nat) : Int) N I C P Q) (evalV N st ins) := fun x hx => ih (i + 1) (l ++ [x]) (by omega) (by simp [hl]) (agree_snoc ha (by rw [hl]; exact hx))
      by_cases o1 : (nd N (i : Int)).f0 = 21
      · have hd := nx _ (evalV_in (by omega) o1).symm
        rw [frm_yes o1, frm_no (op := 22) (by omega)] at hd
        have hb := hi.1
        rw [frm_here (by omega) o1, List.length_append, List.length_cons] at hb
        exact Ev.step (fun k => by simp only [r9_Eval.l0]; rw [if_pos z, if_pos z0, if_pos o1, if_pos (by omega), if_pos (by omega), if_pos (by omega), succ64 (by omega), succ64 (by omega)]) hd
      by_cases o2 : (nd N (i : Int)).f0 = 22
      · have hd := nx _ (evalV_cell (by omega) o2).symm
        rw [frm_yes o2, frm_no (op := 21) (by omega)] at hd
        have hb := hs.1
        rw [frm_here (by omega) o2, List.length_append, List.length_cons] at hb
        exact Ev.step (fun k => by simp only [r9_Eval.l0]; rw [if_pos z, if_pos z0, if_neg o1, if_pos o2, if_pos (by omega), if_pos (by omega), if_pos (by omega), succ64 (by omega), succ64 (by omega)]) hd
      have hv := evalV_at (N := N) (st := st) (ins := ins) (i := i) (by omega) (by omega)
      by_cases o3 : (nd N (i : Int)).f0 = 1
      · have hx : (nd N (i : Int)).f5 = rd (evalV N st ins) (i : Int) := by
          rw [hv]
          unfold doV
          rw [o3, do_lit]
          rfl
        have hd := nx _ hx
        rw [frm_no (op := 21) o1, frm_no (op := 22) o2] at hd
        exact Ev.step (fun k => by simp only [r9_Eval.l0]; rw [if_pos z, if_pos z0, if_neg o1, if_neg o2, if_pos o3, if_pos (by omega), succ64 (by omega)]) hd
      · have hni := r.nodes i (by omega)
        obtain ⟨⟨a0, a1⟩, ⟨b0, b1⟩, ⟨c0, c1⟩⟩ := opnds_lt hni (by omega)
        have hn := nums_evN r.nodes (nums_stV hi hs) i (by omega)
        have hb := do_both (fun j hj => r.nodes j (by omega)) hni (by omega) (v := evN N (stV N st ins) i) (fun j h0 h1 => by
          have := hn.2 j.toNat (by omega)
          have e : ((j.toNat : Nat) : Int) = j := by omega
          rw [e] at this
          exact this)
        have q : ∀ a : Int, 0 ≤ a → a < i → rd l a = rd (evN N (stV N st ins) i) a := fun a h0 h1 => by
          have := ha a.toNat (by omega)
          have e : ((a.toNat : Nat) : Int) = a := by omega
          rw [e] at this
          rw [this]
          exact evN_before (by omega) h0 h1
        rw [← q _ a0 a1, ← q _ b0 b1, ← q _ c0 c1] at hb
        have hd := nx _ hv.symm
        rw [frm_no (op := 21) o1, frm_no (op := 22) o2] at hd
        have a2 : (nd N (i : Int)).f2 < (l.length : Int) := by omega
        have b2 : (nd N (i : Int)).f3 < (l.length : Int) := by omega
        have c2 : (nd N (i : Int)).f4 < (l.length : Int) := by omega
        have b3 : (nd N (i : Int)).f3 < (N.length : Int) := by omega
        exact Ev.step (fun k => by simp only [r9_Eval.l0]; rw [if_pos z, if_pos z0, if_neg o1, if_neg o2, if_neg o3, if_pos a0, if_pos a2, if_pos b0, if_pos b2, if_pos c0, if_pos c2, if_pos b3, hb, Option.bind_some, if_pos (by omega), succ64 (by omega)]) hd
  have := loop N.length 0 [] (by omega) rfl (fun j hj => by simp at hj)
  exact this
theorem rafter_ev {N I C P Q} {st ins : List Int} (s : Small N I C P Q) (r : RightP N I C P Q) (hi : Fits N (frm N 21 0 N.length) ins) (hs : Fits N (frm N 22 0 N.length) st) : Ev (fun k => r9_After.f k N I C P Q st ins) (afterV C (evalV N st ins)) := by
  unfold r9_After.f
  exact Ev.bind (f := fun k t => r9_After.l0 k t ([] : List Int) 0 N I C P Q) (reval_ev s r hi hs) (rafter_loop s r (evalV_len N st ins))
def dfNd (x y : List Nd) (i : Int) : Bool := (!(((rd_T41 x i).f0) == ((rd_T41 y i).f0)) || (!(((rd_T41 x i).f1) == ((rd_T41 y i).f1)) || (!(((rd_T41 x i).f2) == ((rd_T41 y i).f2)) || (!(((rd_T41 x i).f3) == ((rd_T41 y i).f3)) || (!(((rd_T41 x i).f4) == ((rd_T41 y i).f4)) || (!(((rd_T41 x i).f5) == ((rd_T41 y i).f5)) || (!(((rd_T41 x i).f6) == ((rd_T41 y i).f6)))))))))
def dfPn (x y : List Pn) (i : Int) : Bool := (!((((rd_T47 x i).f0).toList) == (((rd_T47 y i).f0).toList)) || (!(((rd_T47 x i).f1) == ((rd_T47 y i).f1))))
def dfCl (x y : List Cl) (i : Int) : Bool := (!((((rd_T43 x i).f0).toList) == (((rd_T43 y i).f0).toList)) || (!(((rd_T43 x i).f1) == ((rd_T43 y i).f1)) || (!(((rd_T43 x i).f2) == ((rd_T43 y i).f2)) || (!(((rd_T43 x i).f3) == ((rd_T43 y i).f3))))))
def dfPp (x y : List Pp) (i : Int) : Bool := (!(((rd_T61 x i).f0) == ((rd_T61 y i).f0)) || (!((((rd_T61 x i).f1).toList) == (((rd_T61 y i).f1).toList)) || (!(((rd_T61 x i).f2) == ((rd_T61 y i).f2)))))
def No (t : Int → Bool) (i n : Nat) : Prop := ∀ j : Nat, i ≤ j → j < n → t (j : Int) = false
theorem no_end {t : Int → Bool} {n : Nat} : No t n n := fun j h1 h2 => by omega
theorem no_step {t : Int → Bool} {i n : Nat} (h : t (i : Int) = false) (hi : i < n) : No t i n ↔ No t (i + 1) n := ⟨fun q j h1 h2 => q j (by omega) h2, fun q j h1 h2 => by
  rcases Nat.lt_or_ge i j with c | c
  · exact q j (by omega) h2
  · obtain rfl : j = i := by omega
    exact h⟩
theorem no_not {t : Int → Bool} {i n : Nat} (h : t (i : Int) = true) (hi : i < n) : ¬ No t i n := fun q => by
  have := q i (Nat.le_refl _) hi
  rw [h] at this
  exact absurd this (by decide)
theorem same_Nd {x y : List Nd} (hx : x.length ≤ 100000) : ∃ b : Bool, Ev (fun k => api_Node.f k x y) b ∧ (b = true ↔ x.length = y.length ∧ No (dfNd x y) 0 x.length) := by
  by_cases e : x.length = y.length
  · have loop : ∀ d (i : Nat), i + d = x.length → ∃ b : Bool, Ev (fun k => api_Node.l0 k x y (x.length : Int) (i : Int)) b ∧ (b = true ↔ No (dfNd x y) i x.length) := by
      intro d
      induction d with
      | zero =>
        intro i hi
        have z : ¬ ((i : Int) < (x.length : Int)) := by omega
        obtain rfl : i = x.length := by omega
        exact ⟨true, Ev.step (fun k => by simp only [api_Node.l0]; rw [if_neg z]) (Ev.now _), by simp [no_end]⟩
      | succ d ih =>
        intro i hi
        have z : (i : Int) < (x.length : Int) := by omega
        have z2 : (i : Int) < (y.length : Int) := by omega
        cases c : dfNd x y (i : Int) with
        | true => exact ⟨false, Ev.step (fun k => by simp only [api_Node.l0]; rw [if_pos z, if_pos (by omega), if_pos z, if_pos z2]; exact if_pos c) (Ev.now _), by simp [no_not c (show i < x.length by omega)]⟩
        | false =>
          obtain ⟨b, hb, hf⟩ := ih (i + 1) (by omega)
          have c' : ¬ dfNd x y (i : Int) = true := by rw [c]; decide
          exact ⟨b, Ev.step (fun k => by simp only [api_Node.l0]; rw [if_pos z, if_pos (by omega), if_pos z, if_pos z2, ← succ64 (by omega)]; exact if_neg c') hb, by rw [hf, no_step c (by omega)]⟩
    obtain ⟨b, hb, hf⟩ := loop x.length 0 (by omega)
    unfold api_Node.f
    exact ⟨b, Ev.ite_pos (by omega) hb, by rw [hf]; simp [e]⟩
  · unfold api_Node.f
    exact ⟨false, Ev.ite_neg (by omega) (Ev.now _), by simp [e]⟩
theorem same_Pn {x y : List Pn} (hx : x.length ≤ 100000) : ∃ b : Bool, Ev (fun k => api_Pin_41.f k x y) b ∧ (b = true ↔ x.length = y.length ∧ No (dfPn x y) 0 x.length) := by
  by_cases e : x.length = y.length
  · have loop : ∀ d (i : Nat), i + d = x.length → ∃ b : Bool, Ev (fun k => api_Pin_41.l0 k x y (x.length : Int) (i : Int)) b ∧ (b = true ↔ No (dfPn x y) i x.length) := by
      intro d
      induction d with
      | zero =>
        intro i hi
        have z : ¬ ((i : Int) < (x.length : Int)) := by omega
        obtain rfl : i = x.length := by omega
        exact ⟨true, Ev.step (fun k => by simp only [api_Pin_41.l0]; rw [if_neg z]) (Ev.now _), by simp [no_end]⟩
      | succ d ih =>
        intro i hi
        have z : (i : Int) < (x.length : Int) := by omega
        have z2 : (i : Int) < (y.length : Int) := by omega
        cases c : dfPn x y (i : Int) with
        | true => exact ⟨false, Ev.step (fun k => by simp only [api_Pin_41.l0]; rw [if_pos z, if_pos (by omega), if_pos z, if_pos z2]; exact if_pos c) (Ev.now _), by simp [no_not c (show i < x.length by omega)]⟩
        | false =>
          obtain ⟨b, hb, hf⟩ := ih (i + 1) (by omega)
          have c' : ¬ dfPn x y (i : Int) = true := by rw [c]; decide
          exact ⟨b, Ev.step (fun k => by simp only [api_Pin_41.l0]; rw [if_pos z, if_pos (by omega), if_pos z, if_pos z2, ← succ64 (by omega)]; exact if_neg c') hb, by rw [hf, no_step c (by omega)]⟩
    obtain ⟨b, hb, hf⟩ := loop x.length 0 (by omega)
    unfold api_Pin_41.f
    exact ⟨b, Ev.ite_pos (by omega) hb, by rw [hf]; simp [e]⟩
  · unfold api_Pin_41.f
    exact ⟨false, Ev.ite_neg (by omega) (Ev.now _), by simp [e]⟩
theorem same_Cl {x y : List Cl} (hx : x.length ≤ 100000) : ∃ b : Bool, Ev (fun k => api_Cell.f k x y) b ∧ (b = true ↔ x.length = y.length ∧ No (dfCl x y) 0 x.length) := by
  by_cases e : x.length = y.length
  · have loop : ∀ d (i : Nat), i + d = x.length → ∃ b : Bool, Ev (fun k => api_Cell.l0 k x y (x.length : Int) (i : Int)) b ∧ (b = true ↔ No (dfCl x y) i x.length) := by
      intro d
      induction d with
      | zero =>
        intro i hi
        have z : ¬ ((i : Int) < (x.length : Int)) := by omega
        obtain rfl : i = x.length := by omega
        exact ⟨true, Ev.step (fun k => by simp only [api_Cell.l0]; rw [if_neg z]) (Ev.now _), by simp [no_end]⟩
      | succ d ih =>
        intro i hi
        have z : (i : Int) < (x.length : Int) := by omega
        have z2 : (i : Int) < (y.length : Int) := by omega
        cases c : dfCl x y (i : Int) with
        | true => exact ⟨false, Ev.step (fun k => by simp only [api_Cell.l0]; rw [if_pos z, if_pos (by omega), if_pos z, if_pos z2]; exact if_pos c) (Ev.now _), by simp [no_not c (show i < x.length by omega)]⟩
        | false =>
          obtain ⟨b, hb, hf⟩ := ih (i + 1) (by omega)
          have c' : ¬ dfCl x y (i : Int) = true := by rw [c]; decide
          exact ⟨b, Ev.step (fun k => by simp only [api_Cell.l0]; rw [if_pos z, if_pos (by omega), if_pos z, if_pos z2, ← succ64 (by omega)]; exact if_neg c') hb, by rw [hf, no_step c (by omega)]⟩
    obtain ⟨b, hb, hf⟩ := loop x.length 0 (by omega)
    unfold api_Cell.f
    exact ⟨b, Ev.ite_pos (by omega) hb, by rw [hf]; simp [e]⟩
  · unfold api_Cell.f
    exact ⟨false, Ev.ite_neg (by omega) (Ev.now _), by simp [e]⟩
theorem same_Pp {x y : List Pp} (hx : x.length ≤ 100000) : ∃ b : Bool, Ev (fun k => api_Prop.f k x y) b ∧ (b = true ↔ x.length = y.length ∧ No (dfPp x y) 0 x.length) := by
  by_cases e : x.length = y.length
  · have loop : ∀ d (i : Nat), i + d = x.length → ∃ b : Bool, Ev (fun k => api_Prop.l0 k x y (x.length : Int) (i : Int)) b ∧ (b = true ↔ No (dfPp x y) i x.length) := by
      intro d
      induction d with
      | zero =>
        intro i hi
        have z : ¬ ((i : Int) < (x.length : Int)) := by omega
        obtain rfl : i = x.length := by omega
        exact ⟨true, Ev.step (fun k => by simp only [api_Prop.l0]; rw [if_neg z]) (Ev.now _), by simp [no_end]⟩
      | succ d ih =>
        intro i hi
        have z : (i : Int) < (x.length : Int) := by omega
        have z2 : (i : Int) < (y.length : Int) := by omega
        cases c : dfPp x y (i : Int) with
        | true => exact ⟨false, Ev.step (fun k => by simp only [api_Prop.l0]; rw [if_pos z, if_pos (by omega), if_pos z, if_pos z2]; exact if_pos c) (Ev.now _), by simp [no_not c (show i < x.length by omega)]⟩
        | false =>
          obtain ⟨b, hb, hf⟩ := ih (i + 1) (by omega)
          have c' : ¬ dfPp x y (i : Int) = true := by rw [c]; decide
          exact ⟨b, Ev.step (fun k => by simp only [api_Prop.l0]; rw [if_pos z, if_pos (by omega), if_pos z, if_pos z2, ← succ64 (by omega)]; exact if_neg c') hb, by rw [hf, no_step c (by omega)]⟩
    obtain ⟨b, hb, hf⟩ := loop x.length 0 (by omega)
    unfold api_Prop.f
    exact ⟨b, Ev.ite_pos (by omega) hb, by rw [hf]; simp [e]⟩
  · unfold api_Prop.f
    exact ⟨false, Ev.ite_neg (by omega) (Ev.now _), by simp [e]⟩
theorem rsame_l4 {N N' : List Nd} {I I' : List Pn} {C C' : List Cl} {P P' : List Pp} {Q Q' : List Pn} (hN : N.length ≤ 100000) (hI : I.length ≤ 100000) (hC : C.length ≤ 100000) (hP : P.length ≤ 100000) (hQ : Q.length ≤ 100000) (eN : N.length = N'.length) (eI : I.length = I'.length) (eC : C.length = C'.length) (eP : P.length = P'.length) (eQ : Q.length = Q'.length) :
    ∀ d (i : Nat), i + d = Q.length → ∃ b : Bool, Ev (fun k => r9_Same.l4 k (i : Int) N I C P Q N' I' C' P' Q') b ∧ (b = true ↔ No (dfPn Q Q') i Q.length) := by
  intro d
  induction d with
  | zero =>
    intro i hi
    have z : ¬ ((i : Int) < (Q.length : Int)) := by omega
    obtain rfl : i = Q.length := by omega
    exact ⟨true, Ev.step (fun k => by simp only [r9_Same.l4]; rw [if_neg z]) (Ev.now _), by simp [no_end]⟩
  | succ d ih =>
    intro i hi
    have z : (i : Int) < (Q.length : Int) := by omega
    have z2 : (i : Int) < (Q'.length : Int) := by omega
    cases c : dfPn Q Q' (i : Int) with
    | true => exact ⟨false, Ev.step (fun k => by simp only [r9_Same.l4]; rw [if_pos z, if_pos (by omega), if_pos z2]; exact if_pos c) (Ev.now _), by simp [no_not c (show i < Q.length by omega)]⟩
    | false =>
      obtain ⟨b, hb, hf⟩ := ih (i + 1) (by omega)
      have c' : ¬ dfPn Q Q' (i : Int) = true := by rw [c]; decide
      exact ⟨b, Ev.step (fun k => by simp only [r9_Same.l4]; rw [if_pos z, if_pos (by omega), if_pos z2, ← succ64 (by omega)]; exact if_neg c') hb, by rw [hf, no_step c (by omega)]⟩
theorem rsame_l3 {N N' : List Nd} {I I' : List Pn} {C C' : List Cl} {P P' : List Pp} {Q Q' : List Pn} (hN : N.length ≤ 100000) (hI : I.length ≤ 100000) (hC : C.length ≤ 100000) (hP : P.length ≤ 100000) (hQ : Q.length ≤ 100000) (eN : N.length = N'.length) (eI : I.length = I'.length) (eC : C.length = C'.length) (eP : P.length = P'.length) (eQ : Q.length = Q'.length) :
    ∀ d (i : Nat), i + d = P.length → ∃ b : Bool, Ev (fun k => r9_Same.l3 k (i : Int) N I C P Q N' I' C' P' Q') b ∧ (b = true ↔ No (dfPp P P') i P.length ∧ No (dfPn Q Q') 0 Q.length) := by
  intro d
  induction d with
  | zero =>
    intro i hi
    have z : ¬ ((i : Int) < (P.length : Int)) := by omega
    obtain rfl : i = P.length := by omega
    obtain ⟨b, hb, hf⟩ := rsame_l4 hN hI hC hP hQ eN eI eC eP eQ Q.length 0 (by omega)
    exact ⟨b, Ev.step (fun k => by simp only [r9_Same.l3]; exact if_neg z) hb, by rw [hf]; simp [no_end]⟩
  | succ d ih =>
    intro i hi
    have z : (i : Int) < (P.length : Int) := by omega
    have z2 : (i : Int) < (P'.length : Int) := by omega
    cases c : dfPp P P' (i : Int) with
    | true => exact ⟨false, Ev.step (fun k => by simp only [r9_Same.l3]; rw [if_pos z, if_pos (by omega), if_pos z2]; exact if_pos c) (Ev.now _), by simp [no_not c (show i < P.length by omega)]⟩
    | false =>
      obtain ⟨b, hb, hf⟩ := ih (i + 1) (by omega)
      have c' : ¬ dfPp P P' (i : Int) = true := by rw [c]; decide
      exact ⟨b, Ev.step (fun k => by simp only [r9_Same.l3]; rw [if_pos z, if_pos (by omega), if_pos z2, ← succ64 (by omega)]; exact if_neg c') hb, by rw [hf, no_step c (by omega)]⟩
theorem rsame_l2 {N N' : List Nd} {I I' : List Pn} {C C' : List Cl} {P P' : List Pp} {Q Q' : List Pn} (hN : N.length ≤ 100000) (hI : I.length ≤ 100000) (hC : C.length ≤ 100000) (hP : P.length ≤ 100000) (hQ : Q.length ≤ 100000) (eN : N.length = N'.length) (eI : I.length = I'.length) (eC : C.length = C'.length) (eP : P.length = P'.length) (eQ : Q.length = Q'.length) :
    ∀ d (i : Nat), i + d = C.length → ∃ b : Bool, Ev (fun k => r9_Same.l2 k (i : Int) N I C P Q N' I' C' P' Q') b ∧ (b = true ↔ No (dfCl C C') i C.length ∧ No (dfPp P P') 0 P.length ∧ No (dfPn Q Q') 0 Q.length) := by
  intro d
  induction d with
  | zero =>
    intro i hi
    have z : ¬ ((i : Int) < (C.length : Int)) := by omega
    obtain rfl : i = C.length := by omega
    obtain ⟨b, hb, hf⟩ := rsame_l3 hN hI hC hP hQ eN eI eC eP eQ P.length 0 (by omega)
    exact ⟨b, Ev.step (fun k => by simp only [r9_Same.l2]; exact if_neg z) hb, by rw [hf]; simp [no_end]⟩
  | succ d ih =>
    intro i hi
    have z : (i : Int) < (C.length : Int) := by omega
    have z2 : (i : Int) < (C'.length : Int) := by omega
    cases c : dfCl C C' (i : Int) with
    | true => exact ⟨false, Ev.step (fun k => by simp only [r9_Same.l2]; rw [if_pos z, if_pos (by omega), if_pos z2]; exact if_pos c) (Ev.now _), by simp [no_not c (show i < C.length by omega)]⟩
    | false =>
      obtain ⟨b, hb, hf⟩ := ih (i + 1) (by omega)
      have c' : ¬ dfCl C C' (i : Int) = true := by rw [c]; decide
      exact ⟨b, Ev.step (fun k => by simp only [r9_Same.l2]; rw [if_pos z, if_pos (by omega), if_pos z2, ← succ64 (by omega)]; exact if_neg c') hb, by rw [hf, no_step c (by omega)]⟩
theorem rsame_l1 {N N' : List Nd} {I I' : List Pn} {C C' : List Cl} {P P' : List Pp} {Q Q' : List Pn} (hN : N.length ≤ 100000) (hI : I.length ≤ 100000) (hC : C.length ≤ 100000) (hP : P.length ≤ 100000) (hQ : Q.length ≤ 100000) (eN : N.length = N'.length) (eI : I.length = I'.length) (eC : C.length = C'.length) (eP : P.length = P'.length) (eQ : Q.length = Q'.length) :
    ∀ d (i : Nat), i + d = I.length → ∃ b : Bool, Ev (fun k => r9_Same.l1 k (i : Int) N I C P Q N' I' C' P' Q') b ∧ (b = true ↔ No (dfPn I I') i I.length ∧ No (dfCl C C') 0 C.length ∧ No (dfPp P P') 0 P.length ∧ No (dfPn Q Q') 0 Q.length) := by
  intro d
  induction d with
  | zero =>
    intro i hi
    have z : ¬ ((i : Int) < (I.length : Int)) := by omega
    obtain rfl : i = I.length := by omega
    obtain ⟨b, hb, hf⟩ := rsame_l2 hN hI hC hP hQ eN eI eC eP eQ C.length 0 (by omega)
    exact ⟨b, Ev.step (fun k => by simp only [r9_Same.l1]; exact if_neg z) hb, by rw [hf]; simp [no_end]⟩
  | succ d ih =>
    intro i hi
    have z : (i : Int) < (I.length : Int) := by omega
    have z2 : (i : Int) < (I'.length : Int) := by omega
    cases c : dfPn I I' (i : Int) with
    | true => exact ⟨false, Ev.step (fun k => by simp only [r9_Same.l1]; rw [if_pos z, if_pos (by omega), if_pos z2]; exact if_pos c) (Ev.now _), by simp [no_not c (show i < I.length by omega)]⟩
    | false =>
      obtain ⟨b, hb, hf⟩ := ih (i + 1) (by omega)
      have c' : ¬ dfPn I I' (i : Int) = true := by rw [c]; decide
      exact ⟨b, Ev.step (fun k => by simp only [r9_Same.l1]; rw [if_pos z, if_pos (by omega), if_pos z2, ← succ64 (by omega)]; exact if_neg c') hb, by rw [hf, no_step c (by omega)]⟩
theorem rsame_l0 {N N' : List Nd} {I I' : List Pn} {C C' : List Cl} {P P' : List Pp} {Q Q' : List Pn} (hN : N.length ≤ 100000) (hI : I.length ≤ 100000) (hC : C.length ≤ 100000) (hP : P.length ≤ 100000) (hQ : Q.length ≤ 100000) (eN : N.length = N'.length) (eI : I.length = I'.length) (eC : C.length = C'.length) (eP : P.length = P'.length) (eQ : Q.length = Q'.length) :
    ∀ d (i : Nat), i + d = N.length → ∃ b : Bool, Ev (fun k => r9_Same.l0 k (i : Int) N I C P Q N' I' C' P' Q') b ∧ (b = true ↔ No (dfNd N N') i N.length ∧ No (dfPn I I') 0 I.length ∧ No (dfCl C C') 0 C.length ∧ No (dfPp P P') 0 P.length ∧ No (dfPn Q Q') 0 Q.length) := by
  intro d
  induction d with
  | zero =>
    intro i hi
    have z : ¬ ((i : Int) < (N.length : Int)) := by omega
    obtain rfl : i = N.length := by omega
    obtain ⟨b, hb, hf⟩ := rsame_l1 hN hI hC hP hQ eN eI eC eP eQ I.length 0 (by omega)
    exact ⟨b, Ev.step (fun k => by simp only [r9_Same.l0]; exact if_neg z) hb, by rw [hf]; simp [no_end]⟩
  | succ d ih =>
    intro i hi
    have z : (i : Int) < (N.length : Int) := by omega
    have z2 : (i : Int) < (N'.length : Int) := by omega
    cases c : dfNd N N' (i : Int) with
    | true => exact ⟨false, Ev.step (fun k => by simp only [r9_Same.l0]; rw [if_pos z, if_pos (by omega), if_pos z2]; exact if_pos c) (Ev.now _), by simp [no_not c (show i < N.length by omega)]⟩
    | false =>
      obtain ⟨b, hb, hf⟩ := ih (i + 1) (by omega)
      have c' : ¬ dfNd N N' (i : Int) = true := by rw [c]; decide
      exact ⟨b, Ev.step (fun k => by simp only [r9_Same.l0]; rw [if_pos z, if_pos (by omega), if_pos z2, ← succ64 (by omega)]; exact if_neg c') hb, by rw [hf, no_step c (by omega)]⟩
theorem nsame_ev {N N' : List Nd} {I I' : List Pn} {C C' : List Cl} {P P' : List Pp} {Q Q' : List Pn} (hN : N.length ≤ 100000) (hI : I.length ≤ 100000) (hC : C.length ≤ 100000) (hP : P.length ≤ 100000) (hQ : Q.length ≤ 100000) :
    ∃ b : Bool, Ev (fun k => net_Same.f k N I C P Q N' I' C' P' Q') b ∧ (b = true ↔ (N.length = N'.length ∧ No (dfNd N N') 0 N.length) ∧ (I.length = I'.length ∧ No (dfPn I I') 0 I.length) ∧ (C.length = C'.length ∧ No (dfCl C C') 0 C.length) ∧ (P.length = P'.length ∧ No (dfPp P P') 0 P.length) ∧ (Q.length = Q'.length ∧ No (dfPn Q Q') 0 Q.length)) := by
  obtain ⟨b0, h0, f0⟩ := same_Nd (x := N) (y := N') hN
  obtain ⟨b1, h1, f1⟩ := same_Pn (x := I) (y := I') hI
  obtain ⟨b2, h2, f2⟩ := same_Cl (x := C) (y := C') hC
  obtain ⟨b3, h3, f3⟩ := same_Pp (x := P) (y := P') hP
  obtain ⟨b4, h4, f4⟩ := same_Pn (x := Q) (y := Q') hQ
  unfold net_Same.f
  rw [← f0, ← f1, ← f2, ← f3, ← f4]
  refine ⟨b0 && (b1 && (b2 && (b3 && b4))), ?_, by simp⟩
  refine Ev.bind (f := fun k t => _) h0 ?_
  cases b0 with
  | false => exact Ev.ite_neg (by decide) (Ev.now _)
  | true =>
    refine Ev.ite_pos rfl (Ev.bind (f := fun k t => _) h1 ?_)
    cases b1 with
    | false => exact Ev.ite_neg (by decide) (Ev.now _)
    | true =>
      refine Ev.ite_pos rfl (Ev.bind (f := fun k t => _) h2 ?_)
      cases b2 with
      | false => exact Ev.ite_neg (by decide) (Ev.now _)
      | true =>
        refine Ev.ite_pos rfl (Ev.bind (f := fun k t => _) h3 ?_)
        cases b3 with
        | false => exact Ev.ite_neg (by decide) (Ev.now _)
        | true => exact Ev.ite_pos rfl (Ev.bind (f := fun k t => _) h4 (Ev.now _))
theorem rsame_ev {N N' : List Nd} {I I' : List Pn} {C C' : List Cl} {P P' : List Pp} {Q Q' : List Pn} (hN : N.length ≤ 100000) (hI : I.length ≤ 100000) (hC : C.length ≤ 100000) (hP : P.length ≤ 100000) (hQ : Q.length ≤ 100000) :
    ∃ b : Bool, Ev (fun k => r9_Same.f k N I C P Q N' I' C' P' Q') b ∧ (b = true ↔ (N.length = N'.length ∧ No (dfNd N N') 0 N.length) ∧ (I.length = I'.length ∧ No (dfPn I I') 0 I.length) ∧ (C.length = C'.length ∧ No (dfCl C C') 0 C.length) ∧ (P.length = P'.length ∧ No (dfPp P P') 0 P.length) ∧ (Q.length = Q'.length ∧ No (dfPn Q Q') 0 Q.length)) := by
  have j0 : Ev (fun k => r9_Same.j0 k true N I C P Q N' I' C' P' Q') false := Ev.step (fun k => by simp only [r9_Same.j0]; exact if_pos trivial) (Ev.now _)
  unfold r9_Same.f
  by_cases eN : N.length = N'.length
  · by_cases eI : I.length = I'.length
    · by_cases eC : C.length = C'.length
      · by_cases eP : P.length = P'.length
        · by_cases eQ : Q.length = Q'.length
          · obtain ⟨b, hb, hf⟩ := rsame_l0 hN hI hC hP hQ eN eI eC eP eQ N.length 0 (by omega)
            have z : ((Q.length : Int) != (Q'.length : Int)) = false := bne_eq_false_iff_eq.mpr (by omega)
            refine ⟨b, Ev.ite_pos (by omega) (Ev.ite_pos (by omega) (Ev.ite_pos (by omega) (Ev.ite_pos (by omega) ?_))), by rw [hf]; simp only [eN, eI, eC, eP, eQ, true_and]⟩
            rw [z]
            exact Ev.step (fun k => by simp only [r9_Same.j0]; exact if_neg (by decide)) hb
          · have z : ((Q.length : Int) != (Q'.length : Int)) = true := bne_iff_ne.mpr (by omega)
            refine ⟨false, Ev.ite_pos (by omega) (Ev.ite_pos (by omega) (Ev.ite_pos (by omega) (Ev.ite_pos (by omega) ?_))), by simp [eQ]⟩
            rw [z]
            exact j0
        · exact ⟨false, Ev.ite_pos (by omega) (Ev.ite_pos (by omega) (Ev.ite_pos (by omega) (Ev.ite_neg (by omega) j0))), by simp [eP]⟩
      · exact ⟨false, Ev.ite_pos (by omega) (Ev.ite_pos (by omega) (Ev.ite_neg (by omega) j0)), by simp [eC]⟩
    · exact ⟨false, Ev.ite_pos (by omega) (Ev.ite_neg (by omega) j0), by simp [eI]⟩
  · exact ⟨false, Ev.ite_neg (by omega) j0, by simp [eN]⟩
theorem sames_ev {N N' : List Nd} {I I' : List Pn} {C C' : List Cl} {P P' : List Pp} {Q Q' : List Pn} (s : Small N I C P Q) : ∃ b : Bool, Ev (fun k => net_Same.f k N I C P Q N' I' C' P' Q') b ∧ Ev (fun k => r9_Same.f k N I C P Q N' I' C' P' Q') b := by
  obtain ⟨b, h1, f1⟩ := nsame_ev (N' := N') (I' := I') (C' := C') (P' := P') (Q' := Q') s.n s.i s.c s.p s.q
  obtain ⟨c, h2, f2⟩ := rsame_ev (N' := N') (I' := I') (C' := C') (P' := P') (Q' := Q') s.n s.i s.c s.p s.q
  have e : b = c := Bool.eq_iff_iff.2 (f1.trans f2.symm)
  subst e
  exact ⟨b, h1, h2⟩
theorem rule_iff {x : Nd} {a b c : Int} (w1 : 1 ≤ x.f1) (w16 : x.f1 ≤ 16) (ha : 0 ≤ a ∧ a ≤ 16) (hb : 0 ≤ b ∧ b ≤ 16) (hc : 0 ≤ c ∧ c ≤ 16) (op : 0 ≤ opk x.f0) : ∃ tag, ∃ y : Bool, main_main.f x.f0 = some (opk x.f0, tag, true) ∧ gosem_cut.f x.f0 x.f1 x.f2 x.f3 x.f4 x.f5 x.f6 a b c tag = some y ∧ (y = true ↔ FitP x a b c) := by
  have hm := mask_f (k := x.f1) (by omega) (by omega)
  have hp := p2_16 w16
  have hw : wrap64 (a + b) = a + b := w64 (by omega) (by omega)
  have hw1 : wrap64 x.f1 = x.f1 := w64 (by omega) (by omega)
  unfold FitP
  rcases opk_cases op with o | o | o | o | o | o | o | o | o | o | o | o | o | o | o | o | o | o | o
  · rw [o]
    refine ⟨59, decide (0 ≤ x.f5 ∧ x.f5 ≤ P2 x.f1 - 1 ∧ x.f6 = 0), rfl, ?_, by simp⟩
    by_cases h0 : 0 ≤ x.f5
    all_goals by_cases h1 : x.f5 ≤ P2 x.f1 - 1
    all_goals by_cases h2 : x.f6 = 0
    all_goals simp [gosem_cut.f, net_seen_lit.f, hm, h0, h1, h2]
  · rw [o]
    refine ⟨60, decide (x.f5 = 0 ∧ x.f6 = 0), rfl, ?_, by simp⟩
    by_cases h0 : x.f5 = 0
    all_goals by_cases h1 : x.f6 = 0
    all_goals simp [gosem_cut.f, net_seen_bare.f, h0, h1]
  · rw [o]
    refine ⟨60, decide (x.f5 = 0 ∧ x.f6 = 0), rfl, ?_, by simp⟩
    by_cases h0 : x.f5 = 0
    all_goals by_cases h1 : x.f6 = 0
    all_goals simp [gosem_cut.f, net_seen_bare.f, h0, h1]
  · rw [o]
    refine ⟨61, decide (x.f5 = 0 ∧ x.f6 = 0 ∧ a = x.f1), rfl, ?_, by simp⟩
    by_cases h0 : x.f5 = 0
    all_goals by_cases h1 : x.f6 = 0
    all_goals by_cases h2 : a = x.f1
    all_goals simp [gosem_cut.f, net_seen_one.f, net_seen_bare.f, h0, h1, h2]
  · rw [o]
    refine ⟨62, decide (x.f5 = 0 ∧ x.f1 = 1 ∧ a = x.f6 ∧ 0 < x.f6), rfl, ?_, by simp <;> omega⟩
    by_cases h0 : x.f5 = 0
    all_goals by_cases h1 : x.f1 = 1
    all_goals by_cases h2 : a = x.f6
    all_goals by_cases h3 : 0 < x.f6
    all_goals simp [gosem_cut.f, net_seen_red.f, h0, h1, h2, h3]
  · rw [o]
    refine ⟨62, decide (x.f5 = 0 ∧ x.f1 = 1 ∧ a = x.f6 ∧ 0 < x.f6), rfl, ?_, by simp <;> omega⟩
    by_cases h0 : x.f5 = 0
    all_goals by_cases h1 : x.f1 = 1
    all_goals by_cases h2 : a = x.f6
    all_goals by_cases h3 : 0 < x.f6
    all_goals simp [gosem_cut.f, net_seen_red.f, h0, h1, h2, h3]
  · rw [o]
    have e : (0 ≤ x.f6 ∧ x.f6 ≤ x.f5 ∧ x.f5 < a ∧ x.f1 = wrap64 (wrap64 (x.f5 - x.f6) + 1)) ↔ (0 ≤ x.f6 ∧ x.f6 ≤ x.f5 ∧ x.f5 < a ∧ x.f1 = x.f5 - x.f6 + 1) := by
      refine ⟨fun ⟨q1, q2, q3, q4⟩ => ?_, fun ⟨q1, q2, q3, q4⟩ => ?_⟩
      · rw [w64 (n := x.f5 - x.f6) (by omega) (by omega), w64 (n := x.f5 - x.f6 + 1) (by omega) (by omega)] at q4
        exact ⟨q1, q2, q3, q4⟩
      · rw [w64 (n := x.f5 - x.f6) (by omega) (by omega), w64 (n := x.f5 - x.f6 + 1) (by omega) (by omega)]
        exact ⟨q1, q2, q3, q4⟩
    refine ⟨63, decide (0 ≤ x.f6 ∧ x.f6 ≤ x.f5 ∧ x.f5 < a ∧ x.f1 = wrap64 (wrap64 (x.f5 - x.f6) + 1)), rfl, ?_, by rw [decide_eq_true_iff, e]; simp⟩
    by_cases h0 : 0 ≤ x.f6
    all_goals by_cases h1 : x.f6 ≤ x.f5
    all_goals by_cases h2 : x.f5 < a
    all_goals by_cases h3 : x.f1 = wrap64 (wrap64 (x.f5 - x.f6) + 1)
    all_goals simp [gosem_cut.f, net_seen_slice.f, h0, h1, h2, h3]
  · rw [o]
    refine ⟨57, decide (x.f5 = 0 ∧ x.f6 = 0 ∧ a = x.f1 ∧ b = x.f1), rfl, ?_, by simp⟩
    by_cases h0 : x.f5 = 0
    all_goals by_cases h1 : x.f6 = 0
    all_goals by_cases h2 : a = x.f1
    all_goals by_cases h3 : b = x.f1
    all_goals simp [gosem_cut.f, net_seen_two.f, net_seen_one.f, net_seen_bare.f, h0, h1, h2, h3]
  · rw [o]
    refine ⟨57, decide (x.f5 = 0 ∧ x.f6 = 0 ∧ a = x.f1 ∧ b = x.f1), rfl, ?_, by simp⟩
    by_cases h0 : x.f5 = 0
    all_goals by_cases h1 : x.f6 = 0
    all_goals by_cases h2 : a = x.f1
    all_goals by_cases h3 : b = x.f1
    all_goals simp [gosem_cut.f, net_seen_two.f, net_seen_one.f, net_seen_bare.f, h0, h1, h2, h3]
  · rw [o]
    refine ⟨57, decide (x.f5 = 0 ∧ x.f6 = 0 ∧ a = x.f1 ∧ b = x.f1), rfl, ?_, by simp⟩
    by_cases h0 : x.f5 = 0
    all_goals by_cases h1 : x.f6 = 0
    all_goals by_cases h2 : a = x.f1
    all_goals by_cases h3 : b = x.f1
    all_goals simp [gosem_cut.f, net_seen_two.f, net_seen_one.f, net_seen_bare.f, h0, h1, h2, h3]
  · rw [o]
    refine ⟨57, decide (x.f5 = 0 ∧ x.f6 = 0 ∧ a = x.f1 ∧ b = x.f1), rfl, ?_, by simp⟩
    by_cases h0 : x.f5 = 0
    all_goals by_cases h1 : x.f6 = 0
    all_goals by_cases h2 : a = x.f1
    all_goals by_cases h3 : b = x.f1
    all_goals simp [gosem_cut.f, net_seen_two.f, net_seen_one.f, net_seen_bare.f, h0, h1, h2, h3]
  · rw [o]
    refine ⟨57, decide (x.f5 = 0 ∧ x.f6 = 0 ∧ a = x.f1 ∧ b = x.f1), rfl, ?_, by simp⟩
    by_cases h0 : x.f5 = 0
    all_goals by_cases h1 : x.f6 = 0
    all_goals by_cases h2 : a = x.f1
    all_goals by_cases h3 : b = x.f1
    all_goals simp [gosem_cut.f, net_seen_two.f, net_seen_one.f, net_seen_bare.f, h0, h1, h2, h3]
  · rw [o]
    refine ⟨57, decide (x.f5 = 0 ∧ x.f6 = 0 ∧ a = x.f1 ∧ b = x.f1), rfl, ?_, by simp⟩
    by_cases h0 : x.f5 = 0
    all_goals by_cases h1 : x.f6 = 0
    all_goals by_cases h2 : a = x.f1
    all_goals by_cases h3 : b = x.f1
    all_goals simp [gosem_cut.f, net_seen_two.f, net_seen_one.f, net_seen_bare.f, h0, h1, h2, h3]
  · rw [o]
    refine ⟨58, decide (x.f5 = 0 ∧ x.f1 = 1 ∧ a = x.f6 ∧ b = x.f6 ∧ 0 < x.f6), rfl, ?_, by simp <;> omega⟩
    by_cases h0 : x.f5 = 0
    all_goals by_cases h1 : x.f1 = 1
    all_goals by_cases h2 : a = x.f6
    all_goals by_cases h3 : b = x.f6
    all_goals by_cases h4 : 0 < x.f6
    all_goals simp [gosem_cut.f, net_seen_asked.f, net_seen_red.f, h0, h1, h2, h3, h4]
    all_goals (split <;> simp_all)
  · rw [o]
    refine ⟨58, decide (x.f5 = 0 ∧ x.f1 = 1 ∧ a = x.f6 ∧ b = x.f6 ∧ 0 < x.f6), rfl, ?_, by simp <;> omega⟩
    by_cases h0 : x.f5 = 0
    all_goals by_cases h1 : x.f1 = 1
    all_goals by_cases h2 : a = x.f6
    all_goals by_cases h3 : b = x.f6
    all_goals by_cases h4 : 0 < x.f6
    all_goals simp [gosem_cut.f, net_seen_asked.f, net_seen_red.f, h0, h1, h2, h3, h4]
    all_goals (split <;> simp_all)
  · rw [o]
    refine ⟨58, decide (x.f5 = 0 ∧ x.f1 = 1 ∧ a = x.f6 ∧ b = x.f6 ∧ 0 < x.f6), rfl, ?_, by simp <;> omega⟩
    by_cases h0 : x.f5 = 0
    all_goals by_cases h1 : x.f1 = 1
    all_goals by_cases h2 : a = x.f6
    all_goals by_cases h3 : b = x.f6
    all_goals by_cases h4 : 0 < x.f6
    all_goals simp [gosem_cut.f, net_seen_asked.f, net_seen_red.f, h0, h1, h2, h3, h4]
    all_goals (split <;> simp_all)
  · rw [o]
    refine ⟨58, decide (x.f5 = 0 ∧ x.f1 = 1 ∧ a = x.f6 ∧ b = x.f6 ∧ 0 < x.f6), rfl, ?_, by simp <;> omega⟩
    by_cases h0 : x.f5 = 0
    all_goals by_cases h1 : x.f1 = 1
    all_goals by_cases h2 : a = x.f6
    all_goals by_cases h3 : b = x.f6
    all_goals by_cases h4 : 0 < x.f6
    all_goals simp [gosem_cut.f, net_seen_asked.f, net_seen_red.f, h0, h1, h2, h3, h4]
    all_goals (split <;> simp_all)
  · rw [o]
    refine ⟨64, decide (x.f5 = 0 ∧ x.f6 = 0 ∧ 0 < a ∧ 0 < b ∧ a + b = x.f1), rfl, ?_, by simp⟩
    by_cases h0 : x.f5 = 0
    all_goals by_cases h1 : x.f6 = 0
    all_goals by_cases h2 : 0 < a
    all_goals by_cases h3 : 0 < b
    all_goals by_cases h4 : a + b = x.f1
    all_goals simp [gosem_cut.f, net_seen_cat.f, net_seen_bare.f, hw, hw1, h0, h1, h2, h3, h4]
  · rw [o]
    refine ⟨65, decide (x.f5 = 0 ∧ x.f6 = 0 ∧ a = 1 ∧ b = x.f1 ∧ c = x.f1), rfl, ?_, by simp⟩
    by_cases h0 : x.f5 = 0
    all_goals by_cases h1 : x.f6 = 0
    all_goals by_cases h2 : a = 1
    all_goals by_cases h3 : b = x.f1
    all_goals by_cases h4 : c = x.f1
    all_goals simp [gosem_cut.f, net_seen_mux.f, net_seen_bare.f, h0, h1, h2, h3, h4]
theorem contains_iff {l : List Int} (hl : l.length ≤ 1000) : ∃ b : Bool, Ev (fun k => slices_ContainsFunc_int_int.f k l 0) b ∧ (b = false ↔ ∀ z ∈ l, z = 0) := by
  have loop : ∀ d (i : Nat), i + d = l.length → ∃ x : Int, Ev (fun k => slices_IndexFunc_int_int.l0 k l (l.length : Int) (i : Int)) x ∧ (¬ x ≥ 0 ↔ ∀ z ∈ l.drop i, z = 0) := by
    intro d
    induction d with
    | zero =>
      intro i hi
      have z : ¬ ((i : Int) < (l.length : Int)) := by omega
      refine ⟨-1, Ev.step (fun k => by simp only [slices_IndexFunc_int_int.l0]; rw [if_neg z]) (Ev.now _), ?_⟩
      rw [List.drop_eq_nil_of_le (by omega)]
      simp
    | succ d ih =>
      intro i hi
      have z : (i : Int) < (l.length : Int) := by omega
      have hc : l.drop i = rd l (i : Int) :: l.drop (i + 1) := drop_cons l 0 i (by omega)
      rw [hc]
      by_cases e : rd l (i : Int) = 0
      · obtain ⟨x, hx, hf⟩ := ih (i + 1) (by omega)
        have e2 : net_nodes_1.f 0 = some false := rfl
        exact ⟨x, Ev.step (fun k => by simp only [slices_IndexFunc_int_int.l0]; rw [if_pos z, if_pos (by omega), if_pos z, e, e2, Option.bind_some, if_neg (by decide), succ64 (by omega)]) hx, by rw [hf]; simp [e]⟩
      · have e2 : net_nodes_1.f (rd l (i : Int)) = some true := by simp [net_nodes_1.f, e]
        exact ⟨(i : Int), Ev.step (fun k => by simp only [slices_IndexFunc_int_int.l0]; rw [if_pos z, if_pos (by omega), if_pos z, e2, Option.bind_some, if_pos rfl]) (Ev.now _), by simp [e]⟩
  obtain ⟨x, hx, hf⟩ := loop l.length 0 (by omega)
  unfold slices_ContainsFunc_int_int.f
  refine ⟨decide (x ≥ 0), Ev.bind (f := fun k t => some (decide (t ≥ 0))) hx (Ev.now _), ?_⟩
  rw [decide_eq_false_iff_not, hf, List.drop_zero]
theorem zeros_iff {A B D q : Int} (hq : 0 ≤ q ∧ q ≤ 3) : (∀ z ∈ ([A, B, D] : List Int).drop q.toNat, z = 0) ↔ (q < 1 → A = 0) ∧ (q < 2 → B = 0) ∧ (q < 3 → D = 0) := by
  have h : q = 0 ∨ q = 1 ∨ q = 2 ∨ q = 3 := by omega
  rcases h with rfl | rfl | rfl | rfl <;> simp
theorem rule_none {x : Int} (h : opk x < 0) (wf : (Lit.int .i64 x).wf = true) : main_main.f x = some (0, -1, false) := by
  have ne : ∀ y : Int, 0 ≤ opk y → x ≠ y := fun y hy e => by rw [e] at h; omega
  unfold main_main.f
  rw [if_neg (ne 1 (by decide)), if_neg (ne 21 (by decide)), if_neg (ne 22 (by decide)), if_neg (ne 3 (by decide)), if_neg (ne 4 (by decide)), if_neg (ne 5 (by decide)), if_neg (ne 18 (by decide)), if_neg (ne 6 (by decide)), if_neg (ne 7 (by decide)), if_neg (ne 8 (by decide)), if_neg (ne 9 (by decide)), if_neg (ne 10 (by decide)), if_neg (ne 11 (by decide)), if_neg (ne 12 (by decide)), if_neg (ne 13 (by decide)), if_neg (ne 14 (by decide)), if_neg (ne 15 (by decide)), if_neg (ne 17 (by decide)), if_neg (ne 16 (by decide)), if_pos wf]
theorem rule_hit {x : Int} (op : 0 ≤ opk x) : ∃ tag, main_main.f x = some (opk x, tag, true) := by
  rcases opk_cases op with o | o | o | o | o | o | o | o | o | o | o | o | o | o | o | o | o | o | o <;> rw [o] <;> exact ⟨_, rfl⟩
theorem nodes_iff {N I C P Q} (s : Small N I C P Q) (wf : ∀ j : Nat, j < N.length → (Lit.int .i64 (nd N (j : Int)).f0).wf = true) : ∃ b : Bool, Ev (fun k => net_nodes.f k N I C P Q) b ∧ (b = true ↔ ∀ j : Nat, j < N.length → NodeP N j) := by
  have s1 := s.n
  have loop : ∀ d (i : Nat), i + d = N.length → (∀ j : Nat, j < i → NodeP N j) → ∃ b : Bool, Ev (fun k => net_nodes.l0 k N (N.length : Int) (i : Int) N I C P Q) b ∧ (b = true ↔ ∀ j : Nat, j < N.length → NodeP N j) := by
    intro d
    induction d with
    | zero =>
      intro i hi hall
      have z : ¬ ((i : Int) < (N.length : Int)) := by omega
      exact ⟨true, Ev.step (fun k => by simp only [net_nodes.l0]; rw [if_neg z]) (Ev.now _), by simp; exact fun j hj => hall j (by omega)⟩
    | succ d ih =>
      intro i hi hall
      have z : (i : Int) < (N.length : Int) := by omega
      have no : ¬ NodeP N i → (false = true ↔ ∀ j : Nat, j < N.length → NodeP N j) := fun h => by simp; exact ⟨i, by omega, h⟩
      have jt : ∀ a0 a1 a2 a3 a4 a5 a6 a7 a8, Ev (fun k => net_nodes.j1 k (i : Int) N (N.length : Int) (i : Int) true N I C P Q a0 a1 a2 a3 a4 a5 a6 a7 a8) false := fun _ _ _ _ _ _ _ _ _ => Ev.step (fun k => by simp only [net_nodes.j1]; exact if_pos trivial) (Ev.now _)
      by_cases op : 0 ≤ opk (nd N (i : Int)).f0
      · by_cases g1 : (nd N (i : Int)).f1 < 1
        · obtain ⟨tag, h1⟩ := rule_hit op
          refine ⟨false, Ev.step (fun k => by
            simp only [net_nodes.l0]
            rw [if_pos z, if_pos (by omega), if_pos z, h1]
            simp only [Option.bind_some]
            rw [if_pos trivial]
            exact if_pos g1) (jt _ _ _ _ _ _ _ _ _), no fun h => by have := h.w1; omega⟩
        by_cases g2 : (nd N (i : Int)).f1 > 16
        · obtain ⟨tag, h1⟩ := rule_hit op
          refine ⟨false, Ev.step (fun k => by
            simp only [net_nodes.l0]
            rw [if_pos z, if_pos (by omega), if_pos z, h1]
            simp only [Option.bind_some]
            rw [if_pos trivial, if_neg g1]
            exact if_pos g2) (jt _ _ _ _ _ _ _ _ _), no fun h => by have := h.w16; omega⟩
        obtain ⟨tag, y, h1, h2, h3⟩ := rule_iff (x := nd N (i : Int)) (by omega) (by omega) (wid_le hall (nd N (i : Int)).f2) (wid_le hall (nd N (i : Int)).f3) (wid_le hall (nd N (i : Int)).f4) op
        have hk : opk (nd N (i : Int)).f0 ≤ 3 := by unfold opk; (repeat' split) <;> omega
        obtain ⟨c, hc, hcf⟩ := contains_iff (l := ([(nd N (i : Int)).f2, (nd N (i : Int)).f3, (nd N (i : Int)).f4] : List Int).drop (opk (nd N (i : Int)).f0).toNat) (by simp; omega)
        rw [zeros_iff ⟨op, hk⟩] at hcf
        have g3 : opk (nd N (i : Int)).f0 ≤ (([(nd N (i : Int)).f2, (nd N (i : Int)).f3, (nd N (i : Int)).f4] : List Int).length : Int) := by simp; omega
        have st : ∀ res, Ev (fun k => net_nodes.j1 k (i : Int) N (N.length : Int) (i : Int) c N I C P Q (nd N (i : Int)).f0 (nd N (i : Int)).f1 (nd N (i : Int)).f2 (nd N (i : Int)).f3 (nd N (i : Int)).f4 (nd N (i : Int)).f5 (nd N (i : Int)).f6 (opk (nd N (i : Int)).f0) tag) res → Ev (fun k => net_nodes.l0 k N (N.length : Int) (i : Int) N I C P Q) res := fun res hres =>
          Ev.step (f := fun k => (slices_ContainsFunc_int_int.f k (([(nd N (i : Int)).f2, (nd N (i : Int)).f3, (nd N (i : Int)).f4] : List Int).drop (opk (nd N (i : Int)).f0).toNat) 0).bind fun t146 => net_nodes.j1 k (i : Int) N (N.length : Int) (i : Int) t146 N I C P Q (nd N (i : Int)).f0 (nd N (i : Int)).f1 (nd N (i : Int)).f2 (nd N (i : Int)).f3 (nd N (i : Int)).f4 (nd N (i : Int)).f5 (nd N (i : Int)).f6 (opk (nd N (i : Int)).f0) tag) (fun k => by
            simp only [net_nodes.l0]
            rw [if_pos z, if_pos (by omega), if_pos z, h1]
            simp only [Option.bind_some]
            rw [if_pos trivial, if_neg g1, if_neg g2, if_pos op, if_pos g3])
            (Ev.bind (f := fun k t146 => net_nodes.j1 k (i : Int) N (N.length : Int) (i : Int) t146 N I C P Q (nd N (i : Int)).f0 (nd N (i : Int)).f1 (nd N (i : Int)).f2 (nd N (i : Int)).f3 (nd N (i : Int)).f4 (nd N (i : Int)).f5 (nd N (i : Int)).f6 (opk (nd N (i : Int)).f0) tag) hc hres)
        cases c with
        | true => exact ⟨false, st _ (jt _ _ _ _ _ _ _ _ _), no fun h => by have := hcf.2 ⟨h.a0, h.b0, h.c0⟩; exact absurd this (by decide)⟩
        | false =>
          obtain ⟨a0, b0, c0⟩ := hcf.1 rfl
          cases y with
          | false => exact ⟨false, st _ (Ev.step (fun k => by simp only [net_nodes.j1]; rw [if_neg (by decide), width_f (by omega), Option.bind_some, width_f (by omega), Option.bind_some, width_f (by omega), Option.bind_some, h2, Option.bind_some]; exact if_neg (by decide)) (Ev.now _)), no fun h => by have := h3.2 h.fit; exact absurd this (by decide)⟩
          | true =>
            have hn : NodeP N i := ⟨by omega, by omega, op, a0, b0, c0, h3.1 rfl⟩
            obtain ⟨b, hb, hf⟩ := ih (i + 1) (by omega) (fun j hj => by
              rcases Nat.lt_or_ge j i with q | q
              · exact hall j q
              · obtain rfl : j = i := by omega
                exact hn)
            exact ⟨b, st _ (Ev.step (fun k => by simp only [net_nodes.j1]; rw [if_neg (by decide), width_f (by omega), Option.bind_some, width_f (by omega), Option.bind_some, width_f (by omega), Option.bind_some, h2, Option.bind_some, if_pos rfl, succ64 (by omega)]) hb), hf⟩
      · have h1 := rule_none (by omega) (wf i (by omega))
        refine ⟨false, Ev.step (fun k => by
          simp only [net_nodes.l0]
          rw [if_pos z, if_pos (by omega), if_pos z, h1]
          simp only [Option.bind_some]
          exact if_neg (by decide)) (jt _ _ _ _ _ _ _ _ _), no fun h => op h.op⟩
  obtain ⟨b, hb, hf⟩ := loop N.length 0 (by omega) (fun j hj => by omega)
  exact ⟨b, hb, hf⟩
theorem rd_cons (l : List Int) (j : Nat) (h : j < l.length) : l.drop j = rd l (j : Int) :: l.drop (j + 1) := drop_cons l 0 j h
theorem pins_iff {I : List Pn} {l : List Int} (hl : I.length ≤ 100000) : ∃ b : Bool, Ev (fun k => api_Pin_int.f k I l 0) b ∧ (b = true ↔ I.map (·.f1) = l) := by
  unfold api_Pin_int.f
  by_cases e : (I.length : Int) = (l.length : Int)
  · have loop : ∀ d (i : Nat), i + d = I.length → ∃ b : Bool, Ev (fun k => api_Pin_int.l0 k l I (I.length : Int) (i : Int)) b ∧ (b = true ↔ (I.drop i).map (·.f1) = l.drop i) := by
      intro d
      induction d with
      | zero =>
        intro i hi
        have z : ¬ ((i : Int) < (I.length : Int)) := by omega
        refine ⟨true, Ev.step (fun k => by simp only [api_Pin_int.l0]; rw [if_neg z]) (Ev.now _), ?_⟩
        rw [List.drop_eq_nil_of_le (by omega), List.drop_eq_nil_of_le (by omega)]
        simp
      | succ d ih =>
        intro i hi
        have z : (i : Int) < (I.length : Int) := by omega
        have z2 : (i : Int) < (l.length : Int) := by omega
        rw [pn_cons I i (by omega), rd_cons l i (by omega)]
        by_cases c : (pn I (i : Int)).f1 = rd l (i : Int)
        · obtain ⟨b, hb, hf⟩ := ih (i + 1) (by omega)
          have e2 : net_Right_1.f (pn I (i : Int)).f0 (pn I (i : Int)).f1 (rd l (i : Int)) = some true := by simp [net_Right_1.f, c]
          exact ⟨b, Ev.step (fun k => by simp only [api_Pin_int.l0]; rw [if_pos z, if_pos (by omega), if_pos z, if_pos z2, e2, Option.bind_some, if_pos rfl, succ64 (by omega)]) hb, by rw [hf]; simp [c]⟩
        · have e2 : net_Right_1.f (pn I (i : Int)).f0 (pn I (i : Int)).f1 (rd l (i : Int)) = some false := by simp [net_Right_1.f, c]
          exact ⟨false, Ev.step (fun k => by simp only [api_Pin_int.l0]; rw [if_pos z, if_pos (by omega), if_pos z, if_pos z2, e2, Option.bind_some]; exact if_neg (by decide)) (Ev.now _), by simp [c]⟩
    obtain ⟨b, hb, hf⟩ := loop I.length 0 (by omega)
    exact ⟨b, Ev.ite_pos e hb, by simpa using hf⟩
  · refine ⟨false, Ev.ite_neg e (Ev.now _), ?_⟩
    simp
    intro h
    have := congrArg List.length h
    rw [List.length_map] at this
    omega
theorem cells_iff {I : List Cl} {l : List Int} (hl : I.length ≤ 100000) : ∃ b : Bool, Ev (fun k => api_Cell_int.f k I l 0) b ∧ (b = true ↔ I.map (·.f1) = l) := by
  unfold api_Cell_int.f
  by_cases e : (I.length : Int) = (l.length : Int)
  · have loop : ∀ d (i : Nat), i + d = I.length → ∃ b : Bool, Ev (fun k => api_Cell_int.l0 k l I (I.length : Int) (i : Int)) b ∧ (b = true ↔ (I.drop i).map (·.f1) = l.drop i) := by
      intro d
      induction d with
      | zero =>
        intro i hi
        have z : ¬ ((i : Int) < (I.length : Int)) := by omega
        refine ⟨true, Ev.step (fun k => by simp only [api_Cell_int.l0]; rw [if_neg z]) (Ev.now _), ?_⟩
        rw [List.drop_eq_nil_of_le (by omega), List.drop_eq_nil_of_le (by omega)]
        simp
      | succ d ih =>
        intro i hi
        have z : (i : Int) < (I.length : Int) := by omega
        have z2 : (i : Int) < (l.length : Int) := by omega
        rw [cl_cons I i (by omega), rd_cons l i (by omega)]
        by_cases c : (cl I (i : Int)).f1 = rd l (i : Int)
        · obtain ⟨b, hb, hf⟩ := ih (i + 1) (by omega)
          have e2 : net_Right_2.f (cl I (i : Int)).f0 (cl I (i : Int)).f1 (cl I (i : Int)).f2 (cl I (i : Int)).f3 (rd l (i : Int)) = some true := by simp [net_Right_2.f, c]
          exact ⟨b, Ev.step (fun k => by simp only [api_Cell_int.l0]; rw [if_pos z, if_pos (by omega), if_pos z, if_pos z2, e2, Option.bind_some, if_pos rfl, succ64 (by omega)]) hb, by rw [hf]; simp [c]⟩
        · have e2 : net_Right_2.f (cl I (i : Int)).f0 (cl I (i : Int)).f1 (cl I (i : Int)).f2 (cl I (i : Int)).f3 (rd l (i : Int)) = some false := by simp [net_Right_2.f, c]
          exact ⟨false, Ev.step (fun k => by simp only [api_Cell_int.l0]; rw [if_pos z, if_pos (by omega), if_pos z, if_pos z2, e2, Option.bind_some]; exact if_neg (by decide)) (Ev.now _), by simp [c]⟩
    obtain ⟨b, hb, hf⟩ := loop I.length 0 (by omega)
    exact ⟨b, Ev.ite_pos e hb, by simpa using hf⟩
  · refine ⟨false, Ev.ite_neg e (Ev.now _), ?_⟩
    simp
    intro h
    have := congrArg List.length h
    rw [List.length_map] at this
    omega
theorem names_iff {N I C P Q} (hq : Q.length ≤ 100000) : ∃ b : Bool, Ev (fun k => api_Pin_35.f k Q ⟨N, I, C, P, Q⟩) b ∧ (b = false ↔ ∀ q ∈ Q, wid N q.f1 N.length ≠ 0) := by
  have loop : ∀ d (i : Nat), i + d = Q.length → ∃ x : Int, Ev (fun k => api_Pin_50.l0 k Q ⟨N, I, C, P, Q⟩ (Q.length : Int) (i : Int)) x ∧ (¬ x ≥ 0 ↔ ∀ q ∈ Q.drop i, wid N q.f1 N.length ≠ 0) := by
    intro d
    induction d with
    | zero =>
      intro i hi
      have z : ¬ ((i : Int) < (Q.length : Int)) := by omega
      refine ⟨-1, Ev.step (fun k => by simp only [api_Pin_50.l0]; rw [if_neg z]) (Ev.now _), ?_⟩
      rw [List.drop_eq_nil_of_le (by omega)]
      simp
    | succ d ih =>
      intro i hi
      have z : (i : Int) < (Q.length : Int) := by omega
      have e : net_Right_3.f (pn Q (i : Int)).f0 (pn Q (i : Int)).f1 ⟨N, I, C, P, Q⟩ = some (wid N (pn Q (i : Int)).f1 N.length == 0) := by
        unfold net_Right_3.f
        rw [width_f (by simp)]
        rfl
      rw [pn_cons Q i (by omega)]
      by_cases c : wid N (pn Q (i : Int)).f1 N.length = 0
      · rw [beq_iff_eq.mpr c] at e
        exact ⟨(i : Int), Ev.step (fun k => by simp only [api_Pin_50.l0]; rw [if_pos z, if_pos (by omega), if_pos z, e, Option.bind_some, if_pos rfl]) (Ev.now _), by simp [c]⟩
      · rw [beq_eq_false_iff_ne.mpr c] at e
        obtain ⟨x, hx, hf⟩ := ih (i + 1) (by omega)
        exact ⟨x, Ev.step (fun k => by simp only [api_Pin_50.l0]; rw [if_pos z, if_pos (by omega), if_pos z, e, Option.bind_some, if_neg (by decide), succ64 (by omega)]) hx, by rw [hf]; simp [c]⟩
  obtain ⟨x, hx, hf⟩ := loop Q.length 0 (by omega)
  unfold api_Pin_35.f
  refine ⟨decide (x ≥ 0), Ev.bind (f := fun k t => some (decide (t ≥ 0))) ?_ (Ev.now _), by rw [decide_eq_false_iff_not, hf, List.drop_zero]⟩
  unfold api_Pin_50.f
  exact hx
theorem ncells_iff {N I C P Q} (s : Small N I C P Q) (hn : ∀ j : Nat, j < N.length → NodeP N j) (hc : C.map (·.f1) = frm N 22 0 N.length) : ∃ b : Bool, Ev (fun k => net_cells.f k N I C P Q) b ∧ (b = true ↔ (∀ c ∈ C, CellP N c) ∧ wsum N C ≤ 256) := by
  have s1 := s.c
  have loop : ∀ d (j : Nat) (x : Int), j + d = C.length → 0 ≤ x → x ≤ 16 * j → ∃ b : Bool, Ev (fun k => net_cells.l0 k x C (C.length : Int) (j : Int) N I C P Q) b ∧ (b = true ↔ (∀ c ∈ C.drop j, CellP N c) ∧ x + wsum N (C.drop j) ≤ 256) := by
    intro d
    induction d with
    | zero =>
      intro j x hj hx hx2
      have z : ¬ ((j : Int) < (C.length : Int)) := by omega
      refine ⟨_, Ev.step (fun k => by simp only [net_cells.l0]; rw [if_neg z]) (Ev.now _), ?_⟩
      rw [List.drop_eq_nil_of_le (by omega)]
      simp [wsum]
    | succ d ih =>
      intro j x hj hx hx2
      have z : (j : Int) < (C.length : Int) := by omega
      have hm : (cl C (j : Int)).f1 ∈ frm N 22 0 N.length := by
        rw [← hc]
        exact List.mem_map.2 ⟨_, List.mem_of_mem_drop (i := j) (by rw [cl_cons C j (by omega)]; exact List.mem_cons_self), rfl⟩
      obtain ⟨m0', m1', -⟩ := frm_mem _ _ _ hm
      have m0 : 0 ≤ (cl C (j : Int)).f1 := m0'
      have m1 : (cl C (j : Int)).f1 < (N.length : Int) := by omega
      have hw := hn (cl C (j : Int)).f1.toNat (by omega)
      have e0 : (((cl C (j : Int)).f1.toNat : Nat) : Int) = (cl C (j : Int)).f1 := by omega
      rw [e0] at hw
      have w1 := hw.w1
      have w16 := hw.w16
      rw [cl_cons C j (by omega)]
      have hx' : wrap64 (x + (nd N (cl C (j : Int)).f1).f1) = x + (nd N (cl C (j : Int)).f1).f1 := w64 (by omega) (by omega)
      have hmk := mask_f (k := (nd N (cl C (j : Int)).f1).f1) (by omega) (by omega)
      have jt : ∀ y, Ev (fun k => net_cells.j1 k y C (C.length : Int) (j : Int) true N I C P Q) false := fun y => Ev.step (fun k => by simp only [net_cells.j1]; exact if_pos trivial) (Ev.now _)
      have no : ¬ CellP N (cl C (j : Int)) → (false = true ↔ (∀ c ∈ cl C (j : Int) :: C.drop (j + 1), CellP N c) ∧ x + wsum N (cl C (j : Int) :: C.drop (j + 1)) ≤ 256) := fun h => by simp [h]
      by_cases h1 : wid N (cl C (j : Int)).f2 N.length = (nd N (cl C (j : Int)).f1).f1
      · by_cases h2 : (cl C (j : Int)).f3 < 0
        · exact ⟨false, Ev.step (fun k => by simp only [net_cells.l0]; rw [if_pos z, if_pos (by omega), if_pos z, if_pos m0, if_pos m1, width_f (by omega), Option.bind_some, if_pos h1, if_pos h2]) (jt _), no fun q => by have := q.2.1; omega⟩
        · by_cases h3 : (cl C (j : Int)).f3 > P2 (nd N (cl C (j : Int)).f1).f1 - 1
          · exact ⟨false, Ev.step (fun k => by simp only [net_cells.l0]; rw [if_pos z, if_pos (by omega), if_pos z, if_pos m0, if_pos m1, width_f (by omega), Option.bind_some, if_pos h1, if_neg h2, hmk, Option.bind_some, decide_eq_true h3]) (jt _), no fun q => by have := q.2.2; omega⟩
          · obtain ⟨b, hb, hf⟩ := ih (j + 1) (x + (nd N (cl C (j : Int)).f1).f1) (by omega) (by omega) (by omega)
            have j1 : Ev (fun k => net_cells.j1 k (x + (nd N (cl C (j : Int)).f1).f1) C (C.length : Int) (j : Int) false N I C P Q) b := Ev.step (fun k => by simp only [net_cells.j1]; rw [if_neg (by decide), succ64 (by omega)]) hb
            refine ⟨b, Ev.step (fun k => by simp only [net_cells.l0]; rw [if_pos z, if_pos (by omega), if_pos z, if_pos m0, if_pos m1, width_f (by omega), Option.bind_some, if_pos h1, if_neg h2, hmk, Option.bind_some, decide_eq_false h3, hx']) j1, ?_⟩
            have : CellP N (cl C (j : Int)) := ⟨h1, by omega, by omega⟩
            rw [hf]
            simp only [List.mem_cons, forall_eq_or_imp, this, true_and, wsum, List.map_cons, List.sum_cons, Int.add_assoc]
      · exact ⟨false, Ev.step (fun k => by simp only [net_cells.l0]; rw [if_pos z, if_pos (by omega), if_pos z, if_pos m0, if_pos m1, width_f (by omega), Option.bind_some, if_neg h1]) (jt _), no fun q => h1 q.1⟩
  obtain ⟨b, hb, hf⟩ := loop C.length 0 0 (by omega) (by omega) (by omega)
  exact ⟨b, hb, by simpa using hf⟩
theorem props_iff {N I C P Q} (s : Small N I C P Q) : ∀ d (i : Nat), i + d = P.length → ∃ b : Bool, Ev (fun k => net_Right.l0 k P (P.length : Int) (i : Int) N I C P Q) b ∧ (b = true ↔ (∀ p ∈ P.drop i, PropP N p) ∧ (∀ q ∈ Q, wid N q.f1 N.length ≠ 0)) := by
  have s1 := s.p
  intro d
  induction d with
  | zero =>
    intro i hi
    have z : ¬ ((i : Int) < (P.length : Int)) := by omega
    obtain ⟨b, hb, hf⟩ := names_iff (N := N) (I := I) (C := C) (P := P) s.q
    refine ⟨!b, Ev.step (f := fun k => (api_Pin_35.f k Q ⟨N, I, C, P, Q⟩).bind fun t188 => some (!t188)) (fun k => by simp only [net_Right.l0]; rw [if_neg z]) (Ev.bind (f := fun k t188 => some (!t188)) hb (Ev.now _)), ?_⟩
    rw [List.drop_eq_nil_of_le (by omega)]
    simpa using hf
  | succ d ih =>
    intro i hi
    have z : (i : Int) < (P.length : Int) := by omega
    rw [pp_cons P i (by omega)]
    have no : ¬ PropP N (pp P (i : Int)) → (false = true ↔ (∀ p ∈ pp P (i : Int) :: P.drop (i + 1), PropP N p) ∧ (∀ q ∈ Q, wid N q.f1 N.length ≠ 0)) := fun h => by simp [h]
    by_cases g1 : (pp P (i : Int)).f0 < 8
    · exact ⟨false, Ev.step (fun k => by simp only [net_Right.l0]; rw [if_pos z, if_pos (by omega), if_pos z, if_pos g1]) (Ev.now _), no fun h => by have := h.1; omega⟩
    by_cases g2 : (pp P (i : Int)).f0 > 10
    · exact ⟨false, Ev.step (fun k => by simp only [net_Right.l0]; rw [if_pos z, if_pos (by omega), if_pos z, if_neg g1, if_pos g2]) (Ev.now _), no fun h => by have := h.2.1; omega⟩
    by_cases g3 : wid N (pp P (i : Int)).f2 N.length = 1
    · obtain ⟨b, hb, hf⟩ := ih (i + 1) (by omega)
      refine ⟨b, Ev.step (fun k => by simp only [net_Right.l0]; rw [if_pos z, if_pos (by omega), if_pos z, if_neg g1, if_neg g2, width_f (by omega), Option.bind_some, if_pos g3, succ64 (by omega)]) hb, ?_⟩
      have : PropP N (pp P (i : Int)) := ⟨by omega, by omega, g3⟩
      rw [hf]
      simp [this]
    · exact ⟨false, Ev.step (fun k => by simp only [net_Right.l0]; rw [if_pos z, if_pos (by omega), if_pos z, if_neg g1, if_neg g2, width_f (by omega), Option.bind_some, if_neg g3]) (Ev.now _), no fun h => g3 h.2.2⟩
theorem nright_iff {N I C P Q} (s : Small N I C P Q) (wf : ∀ j : Nat, j < N.length → (Lit.int .i64 (nd N (j : Int)).f0).wf = true) : ∃ b : Bool, Ev (fun k => net_Right.f k N I C P Q) b ∧ (b = true ↔ RightP N I C P Q) := by
  unfold net_Right.f
  have jt : Ev (fun k => net_Right.j0 k true N I C P Q) false := Ev.step (fun k => by simp only [net_Right.j0]; exact if_pos trivial) (Ev.now _)
  have j1t : Ev (fun k => net_Right.j1 k true N I C P Q) false := Ev.step (fun k => by simp only [net_Right.j1]; exact if_pos trivial) (Ev.now _)
  by_cases h1 : (N.length : Int) > 4000
  · exact ⟨false, Ev.ite_pos h1 jt, by simp; intro q; have := q.n; omega⟩
  by_cases h2 : (I.length : Int) > 64
  · exact ⟨false, Ev.ite_neg h1 (Ev.ite_pos h2 jt), by simp; intro q; have := q.i; omega⟩
  by_cases h3 : (C.length : Int) > 256
  · exact ⟨false, Ev.ite_neg h1 (Ev.ite_neg h2 (Ev.ite_pos h3 jt)), by simp; intro q; have := q.c; omega⟩
  by_cases h4 : (P.length : Int) > 16
  · exact ⟨false, Ev.ite_neg h1 (Ev.ite_neg h2 (Ev.ite_neg h3 (Ev.ite_pos h4 jt))), by simp; intro q; have := q.p; omega⟩
  obtain ⟨bn, hbn, fn⟩ := nodes_iff (I := I) (C := C) (P := P) (Q := Q) s wf
  have top : ∀ res, Ev (fun k => net_Right.j0 k (!bn) N I C P Q) res → Ev (fun k => if (N.length : Int) > 4000 then (net_Right.j0 k true N I C P Q) else (if (I.length : Int) > 64 then (net_Right.j0 k true N I C P Q) else (if (C.length : Int) > 256 then (net_Right.j0 k true N I C P Q) else (if (P.length : Int) > 16 then (net_Right.j0 k true N I C P Q) else ((net_nodes.f k N I C P Q).bind fun t175 => (net_Right.j0 k (!t175) N I C P Q)))))) res := fun res h => Ev.ite_neg h1 (Ev.ite_neg h2 (Ev.ite_neg h3 (Ev.ite_neg h4 (Ev.bind (f := fun k t175 => net_Right.j0 k (!t175) N I C P Q) hbn h))))
  cases bn with
  | false => exact ⟨false, top _ jt, by simp; intro q; have := fn.2 q.nodes; exact absurd this (by decide)⟩
  | true =>
    have hn := fn.1 rfl
    obtain ⟨bp, hbp, fp⟩ := pins_iff (I := I) (l := frm N 21 0 N.length) s.i
    obtain ⟨bc, hbc, fc⟩ := cells_iff (I := C) (l := frm N 22 0 N.length) s.c
    have mid : ∀ res, Ev (fun k => (if bp = true then ((net_places.f k N I C P Q 22).bind fun t180 => ((api_Cell_int.f k C t180 0).bind fun t183 => (if t183 = true then ((net_cells.f k N I C P Q).bind fun t184 => (net_Right.j1 k (!t184) N I C P Q)) else (net_Right.j1 k true N I C P Q)))) else (net_Right.j1 k true N I C P Q))) res → Ev (fun k => net_Right.j0 k (!true) N I C P Q) res := fun res h => by
      refine Ev.step (f := fun k => (net_places.f k N I C P Q 21).bind fun t176 => ((api_Pin_int.f k I t176 0).bind fun t179 => (if t179 = true then ((net_places.f k N I C P Q 22).bind fun t180 => ((api_Cell_int.f k C t180 0).bind fun t183 => (if t183 = true then ((net_cells.f k N I C P Q).bind fun t184 => (net_Right.j1 k (!t184) N I C P Q)) else (net_Right.j1 k true N I C P Q)))) else (net_Right.j1 k true N I C P Q)))) (fun k => by simp only [net_Right.j0]; exact if_neg (by decide)) ?_
      refine Ev.bind (f := fun k t => _) (places_ev s 21) ?_
      exact Ev.bind (f := fun k t179 => (if t179 = true then ((net_places.f k N I C P Q 22).bind fun t180 => ((api_Cell_int.f k C t180 0).bind fun t183 => (if t183 = true then ((net_cells.f k N I C P Q).bind fun t184 => (net_Right.j1 k (!t184) N I C P Q)) else (net_Right.j1 k true N I C P Q)))) else (net_Right.j1 k true N I C P Q))) hbp h
    cases bp with
    | false => exact ⟨false, top _ (mid _ (Ev.ite_neg (by decide) j1t)), by simp; intro q; have := fp.2 q.ins; exact absurd this (by decide)⟩
    | true =>
      have hp := fp.1 rfl
      have mid2 : ∀ res, Ev (fun k => (if bc = true then ((net_cells.f k N I C P Q).bind fun t184 => (net_Right.j1 k (!t184) N I C P Q)) else (net_Right.j1 k true N I C P Q))) res → Ev (fun k => net_Right.j0 k (!true) N I C P Q) res := fun res h => mid _ (Ev.ite_pos rfl (Ev.bind (f := fun k t180 => ((api_Cell_int.f k C t180 0).bind fun t183 => (if t183 = true then ((net_cells.f k N I C P Q).bind fun t184 => (net_Right.j1 k (!t184) N I C P Q)) else (net_Right.j1 k true N I C P Q)))) (places_ev s 22) (Ev.bind (f := fun k t183 => (if t183 = true then ((net_cells.f k N I C P Q).bind fun t184 => (net_Right.j1 k (!t184) N I C P Q)) else (net_Right.j1 k true N I C P Q))) hbc h)))
      cases bc with
      | false => exact ⟨false, top _ (mid2 _ (Ev.ite_neg (by decide) j1t)), by simp; intro q; have := fc.2 q.cells; exact absurd this (by decide)⟩
      | true =>
        have hc := fc.1 rfl
        obtain ⟨bk, hbk, fk⟩ := ncells_iff (I := I) (P := P) (Q := Q) s hn hc
        obtain ⟨bq, hbq, fq⟩ := props_iff s P.length 0 (by omega)
        cases bk with
        | false => exact ⟨false, top _ (mid2 _ (Ev.ite_pos rfl (Ev.bind (f := fun k t184 => net_Right.j1 k (!t184) N I C P Q) hbk j1t))), by simp; intro q; have := fk.2 ⟨q.cell, q.bits⟩; exact absurd this (by decide)⟩
        | true =>
          have hk := fk.1 rfl
          have j1 : Ev (fun k => net_Right.j1 k (!true) N I C P Q) bq := Ev.step (fun k => by simp only [net_Right.j1]; exact if_neg (by decide)) hbq
          refine ⟨bq, top _ (mid2 _ (Ev.ite_pos rfl (Ev.bind (f := fun k t184 => net_Right.j1 k (!t184) N I C P Q) hbk j1))), ?_⟩
          rw [fq, List.drop_zero]
          exact ⟨fun q => ⟨by omega, by omega, by omega, by omega, hn, hp, hc, hk.1, q.1, q.2, hk.2⟩, fun q => ⟨q.prop, q.name⟩⟩
theorem head09 : Ev (fun k => w9_head.f k) true := Ev.of w9_head.mono (k := 40) (by decide +kernel)
end Go.Proofs.Yteblbknmikieoaa.P9
