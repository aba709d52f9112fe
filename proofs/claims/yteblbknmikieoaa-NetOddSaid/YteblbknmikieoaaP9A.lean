/- Slimmed by this session: what nothing names is struck out. -/
import Derived.Test.YteblbknmikieoaaPVec
import Derived.Test.YteblbknmikieoaaXbK4
import Derived.Test.YteblbknmikieoaaXbK3
import Derived.Test.YteblbknmikieoaaXbK2
import Derived.Test.YteblbknmikieoaaXb76
import Derived.Test.YteblbknmikieoaaXbK6
namespace Go.Proofs.Yteblbknmikieoaa.P9
open Go.RowKit Go.Proofs.YteblbknmikieoaaW.PrintWords Go.Proofs.YteblbknmikieoaaW.PrintMore Go.Proofs.Yteblbknmikieoaa.PBits Go.Proofs.Yteblbknmikieoaa.PVec Go.Proofs.Yteblbknmikieoaa.Xb
set_option linter.unusedVariables false
set_option linter.unusedSimpArgs false
abbrev Nd := S41
abbrev Pn := S47
abbrev Cl := S43
abbrev Pp := S61
abbrev nd (l : List Nd) (i : Int) : Nd := rd_T41 l i
abbrev pn (l : List Pn) (i : Int) : Pn := rd_T47 l i
abbrev cl (l : List Cl) (i : Int) : Cl := rd_T43 l i
abbrev pp (l : List Pp) (i : Int) : Pp := rd_T61 l i
def wid (N : List Nd) (at_ of : Int) : Int := if at_ < 0 ∨ of ≤ at_ then 0 else (nd N at_).f1
def opk (x : Int) : Int := if x = 1 ∨ x = 21 ∨ x = 22 then 0 else if x = 3 ∨ x = 4 ∨ x = 5 ∨ x = 18 then 1 else if (6 ≤ x ∧ x ≤ 15) ∨ x = 17 then 2 else if x = 16 then 3 else -1
def FitP (x : Nd) (a b c : Int) : Prop :=
  (x.f0 = 1 ∧ 0 ≤ x.f5 ∧ x.f5 ≤ P2 x.f1 - 1 ∧ x.f6 = 0) ∨ ((x.f0 = 21 ∨ x.f0 = 22) ∧ x.f5 = 0 ∧ x.f6 = 0) ∨ (x.f0 = 3 ∧ x.f5 = 0 ∧ x.f6 = 0 ∧ a = x.f1) ∨ ((x.f0 = 4 ∨ x.f0 = 5) ∧ x.f5 = 0 ∧ x.f1 = 1 ∧ a = x.f6 ∧ 0 < a) ∨
  ((6 ≤ x.f0 ∧ x.f0 ≤ 11) ∧ x.f5 = 0 ∧ x.f6 = 0 ∧ a = x.f1 ∧ b = x.f1) ∨ ((12 ≤ x.f0 ∧ x.f0 ≤ 15) ∧ x.f5 = 0 ∧ x.f1 = 1 ∧ a = x.f6 ∧ b = x.f6 ∧ 0 < a) ∨ (x.f0 = 16 ∧ x.f5 = 0 ∧ x.f6 = 0 ∧ a = 1 ∧ b = x.f1 ∧ c = x.f1) ∨
  (x.f0 = 17 ∧ x.f5 = 0 ∧ x.f6 = 0 ∧ 0 < a ∧ 0 < b ∧ a + b = x.f1) ∨ (x.f0 = 18 ∧ 0 ≤ x.f6 ∧ x.f6 ≤ x.f5 ∧ x.f5 < a ∧ x.f1 = x.f5 - x.f6 + 1)
structure NodeP (N : List Nd) (i : Int) : Prop where
  w1 : 1 ≤ (nd N i).f1
  w16 : (nd N i).f1 ≤ 16
  op : 0 ≤ opk (nd N i).f0
  a0 : opk (nd N i).f0 < 1 → (nd N i).f2 = 0
  b0 : opk (nd N i).f0 < 2 → (nd N i).f3 = 0
  c0 : opk (nd N i).f0 < 3 → (nd N i).f4 = 0
  fit : FitP (nd N i) (wid N (nd N i).f2 i) (wid N (nd N i).f3 i) (wid N (nd N i).f4 i)
theorem wide_f {N I C P Q} {a b : Int} (hb : b ≤ N.length) : r9_wide.f N I C P Q a b = some (wid N a b) := by
  unfold r9_wide.f wid
  by_cases h : a < 0
  · rw [if_pos h, if_pos (Or.inl h)]
  · rw [if_neg h]
    by_cases h2 : a ≥ b
    · rw [if_pos h2, if_pos (Or.inr h2)]
    · rw [if_neg h2, if_pos (by omega), if_pos (by omega), if_neg (by omega)]
theorem wid_le {N : List Nd} {i : Nat} (h : ∀ j : Nat, j < i → NodeP N j) (a : Int) : 0 ≤ wid N a i ∧ wid N a i ≤ 16 := by
  unfold wid
  split
  · omega
  · have := h a.toNat (by omega)
    have e : ((a.toNat : Nat) : Int) = a := by omega
    rw [e] at this
    exact ⟨by have := this.w1; omega, this.w16⟩
theorem operands_f (x : Int) (k : Nat) : r9_operands.f (k + 3) x = some (opk x) := by
  unfold opk
  simp only [r9_operands.f, r9_operands.j0, r9_operands.j1, r9_operands.j2]
  by_cases h0 : x = 1 ∨ x = 21 ∨ x = 22
  · rw [if_pos h0]
    rcases h0 with rfl | rfl | rfl <;> rfl
  rw [if_neg h0]
  by_cases h1 : x = 3 ∨ x = 4 ∨ x = 5 ∨ x = 18
  · rw [if_pos h1]
    rcases h1 with rfl | rfl | rfl | rfl <;> rfl
  rw [if_neg h1]
  by_cases h2 : (6 ≤ x ∧ x ≤ 15) ∨ x = 17
  · rw [if_pos h2]
    have h3 : x = 6 ∨ x = 7 ∨ x = 8 ∨ x = 9 ∨ x = 10 ∨ x = 11 ∨ x = 12 ∨ x = 13 ∨ x = 14 ∨ x = 15 ∨ x = 17 := by omega
    rcases h3 with rfl | rfl | rfl | rfl | rfl | rfl | rfl | rfl | rfl | rfl | rfl <;> rfl
  rw [if_neg h2]
  have e1 : ¬ x = 1 := by omega
  have e2 : ¬ x = 21 := by omega
  have e3 : ¬ x = 22 := by omega
  have e4 : ¬ x = 3 := by omega
  have e5 : ¬ x = 4 := by omega
  have e6 : ¬ x = 5 := by omega
  have e7 : ¬ x = 18 := by omega
  have e8 : ¬ x = 6 := by omega
  have e9 : ¬ x = 7 := by omega
  have e10 : ¬ x = 8 := by omega
  have e11 : ¬ x = 9 := by omega
  have e12 : ¬ x = 10 := by omega
  have e13 : ¬ x = 11 := by omega
  have e14 : ¬ x = 12 := by omega
  have e15 : ¬ x = 13 := by omega
  have e16 : ¬ x = 14 := by omega
  have e17 : ¬ x = 15 := by omega
  have e18 : ¬ x = 17 := by omega
  simp [e1, e2, e3, e4, e5, e6, e7, e8, e9, e10, e11, e12, e13, e14, e15, e16, e17, e18]
  split <;> rfl
theorem opk_cases {x : Int} (h : 0 ≤ opk x) : x = 1 ∨ x = 21 ∨ x = 22 ∨ x = 3 ∨ x = 4 ∨ x = 5 ∨ x = 18 ∨ x = 6 ∨ x = 7 ∨ x = 8 ∨ x = 9 ∨ x = 10 ∨ x = 11 ∨ x = 12 ∨ x = 13 ∨ x = 14 ∨ x = 15 ∨ x = 17 ∨ x = 16 := by
  unfold opk at h
  repeat' split at h
  all_goals omega
theorem fits_f {N I C P Q} {i : Nat} (hi : i < N.length) (h : ∀ j : Nat, j < i → NodeP N j) (w1 : 1 ≤ (nd N i).f1) (w16 : (nd N i).f1 ≤ 16) (op : 0 ≤ opk (nd N i).f0) (k : Nat) :
    ∃ b : Bool, r9_fits.f (k + 5) N I C P Q (i : Int) = some b ∧ (b = true ↔ FitP (nd N i) (wid N (nd N i).f2 i) (wid N (nd N i).f3 i) (wid N (nd N i).f4 i)) := by
  have ha := wid_le h (nd N i).f2
  have hb := wid_le h (nd N i).f3
  have hc := wid_le h (nd N i).f4
  have hm := rmask_f (k := (nd N i).f1) (by omega) (by omega)
  have hp := p2_16 w16
  unfold r9_fits.f
  rw [if_pos (by omega), if_pos (by omega), wide_f (by omega), wide_f (by omega), wide_f (by omega)]
  simp only [Option.bind_some]
  change ∃ b : Bool, (if (nd N i).f5 = 0 then r9_fits.j0 (k + 5) _ _ _ ((nd N i).f6 == 0) (nd N i).f0 (nd N i).f1 (nd N i).f2 (nd N i).f3 (nd N i).f4 (nd N i).f5 (nd N i).f6 else r9_fits.j0 (k + 5) _ _ _ false (nd N i).f0 (nd N i).f1 (nd N i).f2 (nd N i).f3 (nd N i).f4 (nd N i).f5 (nd N i).f6) = some b ∧ _
  generalize wid N (nd N i).f2 i = a at *
  generalize wid N (nd N i).f3 i = b at *
  generalize wid N (nd N i).f4 i = c at *
  generalize nd N i = x at *
  have e : (if x.f5 = 0 then r9_fits.j0 (k + 5) a b c (x.f6 == 0) x.f0 x.f1 x.f2 x.f3 x.f4 x.f5 x.f6 else r9_fits.j0 (k + 5) a b c false x.f0 x.f1 x.f2 x.f3 x.f4 x.f5 x.f6) = r9_fits.j0 (k + 5) a b c (decide (x.f5 = 0 ∧ x.f6 = 0)) x.f0 x.f1 x.f2 x.f3 x.f4 x.f5 x.f6 := by
    by_cases h5 : x.f5 = 0
    · rw [if_pos h5]
      congr 1
      by_cases h6 : x.f6 = 0 <;> simp [h5, h6]
    · rw [if_neg h5]
      congr 1
      simp [h5]
  rw [e]
  unfold FitP
  have ew : x.f5 - x.f6 + 1 = x.f5 - x.f6 + 1 := rfl
  have hw : wrap64 (a + b) = a + b := w64 (by omega) (by omega)
  rcases opk_cases op with o | o | o | o | o | o | o | o | o | o | o | o | o | o | o | o | o | o | o
  case inr.inr.inr.inr.inr.inr.inl =>
    simp only [r9_fits.j0, r9_fits.j1, r9_fits.j2, r9_fits.j3, r9_fits.j4, o]
    simp
    by_cases h1 : 0 ≤ x.f6
    · by_cases h2 : x.f6 ≤ x.f5
      · by_cases h3 : x.f5 < a
        · rw [w64 (n := x.f5 - x.f6) (by omega) (by omega), w64 (n := x.f5 - x.f6 + 1) (by omega) (by omega)]
          simp [h1, h2, h3]
          omega
        · simp [h1, h2, h3]
      · simp [h1, h2]
    · simp [h1]
  all_goals simp only [r9_fits.j0, r9_fits.j1, r9_fits.j2, r9_fits.j3, r9_fits.j4, o, hm, hw]
  all_goals simp
  all_goals (repeat' split)
  all_goals simp_all
  all_goals omega
theorem node_f {N I C P Q} {i : Nat} (hi : i < N.length) (h : ∀ j : Nat, j < i → NodeP N j) (k : Nat) :
    ∃ b : Bool, r9_node.f (k + 6) N I C P Q (i : Int) = some b ∧ (b = true ↔ NodeP N i) := by
  unfold r9_node.f
  rw [if_pos (by omega), if_pos (by omega)]
  change ∃ b : Bool, ((r9_operands.f (k + 6) (nd N i).f0).bind fun t371 => (if (nd N i).f1 < 1 then r9_node.j0 (k + 6) i true N I C P Q else _)) = some b ∧ _
  rw [operands_f]
  simp only [Option.bind_some]
  have j0 : r9_node.j0 (k + 6) i true N I C P Q = some false := by simp [r9_node.j0]
  have no : ¬ NodeP N i → ∃ b : Bool, some false = some b ∧ (b = true ↔ NodeP N i) := fun z => ⟨false, rfl, by simp [z]⟩
  by_cases h1 : (nd N i).f1 < 1
  · rw [if_pos h1, j0]
    exact no fun z => by have := z.w1; omega
  rw [if_neg h1]
  by_cases h2 : (nd N i).f1 > 16
  · rw [if_pos h2, j0]
    exact no fun z => by have := z.w16; omega
  rw [if_neg h2]
  by_cases h3 : opk (nd N i).f0 < 0
  · rw [if_pos h3, j0]
    exact no fun z => by have := z.op; omega
  rw [if_neg h3]
  obtain ⟨b, hb, hf⟩ := fits_f (I := I) (C := C) (P := P) (Q := Q) hi h (by omega) (by omega) (by omega) k
  have j1 : ∀ z : Bool, r9_node.j0 (k + 6) i z N I C P Q = some (if z = true then false else b) := by
    intro z
    simp only [r9_node.j0]
    cases z
    · simp [hb]
    · simp
  simp only [j1]
  have yes : (opk (nd N i).f0 < 1 → (nd N i).f2 = 0) → (opk (nd N i).f0 < 2 → (nd N i).f3 = 0) → (opk (nd N i).f0 < 3 → (nd N i).f4 = 0) → ∃ c : Bool, some b = some c ∧ (c = true ↔ NodeP N i) := fun a0 b0 c0 => ⟨b, rfl, fun z => ⟨by omega, by omega, by omega, a0, b0, c0, hf.1 z⟩, fun z => hf.2 z.fit⟩
  by_cases g1 : opk (nd N i).f0 < 1
  · rw [if_pos g1]
    by_cases z1 : (nd N i).f2 = 0
    · rw [if_pos z1, if_pos (by omega)]
      by_cases z2 : (nd N i).f3 = 0
      · rw [if_pos z2, if_pos (by omega)]
        by_cases z3 : (nd N i).f4 = 0
        · rw [z3]
          exact yes (fun _ => z1) (fun _ => z2) (fun _ => z3)
        · simp only [bne_iff_ne.mpr z3, if_pos]
          exact no fun z => z3 (z.c0 (by omega))
      · rw [if_neg z2]
        exact no fun z => z2 (z.b0 (by omega))
    · rw [if_neg z1]
      exact no fun z => z1 (z.a0 g1)
  rw [if_neg g1]
  by_cases g2 : opk (nd N i).f0 < 2
  · rw [if_pos g2]
    by_cases z2 : (nd N i).f3 = 0
    · rw [if_pos z2, if_pos (by omega)]
      by_cases z3 : (nd N i).f4 = 0
      · rw [z3]
        exact yes (fun z => absurd z g1) (fun _ => z2) (fun _ => z3)
      · simp only [bne_iff_ne.mpr z3, if_pos]
        exact no fun z => z3 (z.c0 (by omega))
    · rw [if_neg z2]
      exact no fun z => z2 (z.b0 (by omega))
  rw [if_neg g2]
  by_cases g3 : opk (nd N i).f0 < 3
  · rw [if_pos g3]
    by_cases z3 : (nd N i).f4 = 0
    · rw [z3]
      exact yes (fun z => absurd z g1) (fun z => absurd z g2) (fun _ => z3)
    · simp only [bne_iff_ne.mpr z3, if_pos]
      exact no fun z => z3 (z.c0 (by omega))
  · rw [if_neg g3]
    exact yes (fun z => absurd z g1) (fun z => absurd z g2) (fun z => absurd z g3)
theorem drop_cons {α : Type} (l : List α) (d : α) (j : Nat) (h : j < l.length) : l.drop j = l.getD j d :: l.drop (j + 1) := by
  rw [List.drop_eq_getElem_cons h, List.getD_eq_getElem?_getD, List.getElem?_eq_getElem h]
  rfl
theorem pn_cons (l : List Pn) (j : Nat) (h : j < l.length) : l.drop j = pn l (j : Int) :: l.drop (j + 1) := drop_cons l _ j h
theorem cl_cons (l : List Cl) (j : Nat) (h : j < l.length) : l.drop j = cl l (j : Int) :: l.drop (j + 1) := drop_cons l _ j h
theorem pp_cons (l : List Pp) (j : Nat) (h : j < l.length) : l.drop j = pp l (j : Int) :: l.drop (j + 1) := drop_cons l _ j h
def frm (N : List Nd) (op : Int) : Nat → Nat → List Int
  | _, 0 => []
  | i, d + 1 => if (nd N (i : Int)).f0 = op then (i : Int) :: frm N op (i + 1) d else frm N op (i + 1) d
structure Small (N : List Nd) (I : List Pn) (C : List Cl) (P : List Pp) (Q : List Pn) : Prop where
  n : N.length ≤ 100000
  i : I.length ≤ 100000
  c : C.length ≤ 100000
  p : P.length ≤ 100000
  q : Q.length ≤ 100000
theorem great_f {N I C P Q} : ∃ b : Bool, w9_Great.f N I C P Q = some b ∧ (b = false → Small N I C P Q ∧ N.length ≤ 300) := by
  unfold w9_Great.f
  by_cases h1 : (N.length : Int) > 300
  · exact ⟨true, by rw [if_pos h1], by simp⟩
  rw [if_neg h1]
  by_cases h2 : (I.length : Int) > 100
  · exact ⟨true, by rw [if_pos h2], by simp⟩
  rw [if_neg h2]
  by_cases h3 : (C.length : Int) > 300
  · exact ⟨true, by rw [if_pos h3], by simp⟩
  rw [if_neg h3]
  by_cases h4 : (P.length : Int) > 40
  · exact ⟨true, by rw [if_pos h4], by simp⟩
  rw [if_neg h4]
  exact ⟨_, rfl, fun h => by have := of_decide_eq_false h; exact ⟨⟨by omega, by omega, by omega, by omega, by omega⟩, by omega⟩⟩
theorem pins_ev {N I C P Q} (s : Small N I C P Q) : ∃ b : Bool, Ev (fun k => r9_pins.f k N I C P Q) b ∧ (b = true ↔ I.map (·.f1) = frm N 21 0 N.length ∧ C.map (·.f1) = frm N 22 0 N.length) := by
  have loop : ∀ d (i a c : Nat), i + d = N.length → a ≤ I.length → c ≤ C.length → ∃ b : Bool, Ev (fun k => r9_pins.l0 k (a : Int) (c : Int) (i : Int) N I C P Q) b ∧ (b = true ↔ (I.drop a).map (·.f1) = frm N 21 i d ∧ (C.drop c).map (·.f1) = frm N 22 i d) := by
    have s1 := s.n
    have s2 := s.i
    have s3 := s.c
    intro d
    induction d with
    | zero =>
      intro i a c hi ha hc
      have z : ¬ ((i : Int) < (N.length : Int)) := by omega
      by_cases h1 : (a : Int) = (I.length : Int)
      · refine ⟨_, Ev.step (fun k => by simp only [r9_pins.l0]; rw [if_neg z, if_pos h1]) (Ev.now _), ?_⟩
        have e : a = I.length := by omega
        subst e
        simp [frm]
        omega
      · refine ⟨_, Ev.step (fun k => by simp only [r9_pins.l0]; rw [if_neg z, if_neg h1]) (Ev.now _), ?_⟩
        simp [frm]
        omega
    | succ d ih =>
      intro i a c hi ha hc
      have z : (i : Int) < (N.length : Int) := by omega
      have z0 : (0 : Int) ≤ (i : Int) := by omega
      have j1 : ∀ a' : Nat, a' ≤ I.length → ∃ b : Bool, Ev (fun k => r9_pins.j1 k (a' : Int) (c : Int) (i : Int) N I C P Q) b ∧ (b = true ↔ (I.drop a').map (·.f1) = frm N 21 (i + 1) d ∧ (C.drop c).map (·.f1) = frm N 22 i (d + 1)) := by
        intro a' ha'
        by_cases o : (nd N (i : Int)).f0 = 22
        · by_cases h2 : (c : Int) ≥ (C.length : Int)
          · refine ⟨_, Ev.step (fun k => by simp only [r9_pins.j1]; rw [if_pos z0, if_pos z, if_pos o, if_pos h2]) (Ev.now _), ?_⟩
            have e : C.drop c = [] := List.drop_eq_nil_of_le (by omega)
            rw [e]
            simp [frm, o]
          · have h3 : (c : Int) < (C.length : Int) := by omega
            rw [cl_cons C c (by omega)]
            simp only [frm, if_pos o, List.map_cons, List.cons.injEq]
            by_cases h4 : (cl C (c : Int)).f1 = (i : Int)
            · obtain ⟨b, hb, hf⟩ := ih (i + 1) a' (c + 1) (by omega) ha' (by omega)
              refine ⟨b, Ev.step (fun k => by simp only [r9_pins.j1]; rw [if_pos z0, if_pos z, if_pos o, if_neg h2, if_pos (by omega), if_pos h3, if_pos h4, succ64 (by omega), succ64 (by omega)]) hb, ?_⟩
              rw [hf]
              simp [h4]
            · refine ⟨_, Ev.step (fun k => by simp only [r9_pins.j1]; rw [if_pos z0, if_pos z, if_pos o, if_neg h2, if_pos (by omega), if_pos h3, if_neg h4]) (Ev.now _), ?_⟩
              simp [h4]
        · obtain ⟨b, hb, hf⟩ := ih (i + 1) a' c (by omega) ha' hc
          refine ⟨b, Ev.step (fun k => by simp only [r9_pins.j1]; rw [if_pos z0, if_pos z, if_neg o, succ64 (by omega)]) hb, ?_⟩
          rw [hf]
          simp [frm, o]
      by_cases o : (nd N (i : Int)).f0 = 21
      · by_cases h2 : (a : Int) ≥ (I.length : Int)
        · refine ⟨_, Ev.step (fun k => by simp only [r9_pins.l0]; rw [if_pos z, if_pos z0, if_pos o, if_pos h2]) (Ev.now _), ?_⟩
          have e : I.drop a = [] := List.drop_eq_nil_of_le (by omega)
          rw [e]
          simp [frm, o]
        · have h3 : (a : Int) < (I.length : Int) := by omega
          rw [pn_cons I a (by omega)]
          by_cases h4 : (pn I (a : Int)).f1 = (i : Int)
          · obtain ⟨b, hb, hf⟩ := j1 (a + 1) (by omega)
            refine ⟨b, Ev.step (fun k => by simp only [r9_pins.l0]; rw [if_pos z, if_pos z0, if_pos o, if_neg h2, if_pos (by omega), if_pos h3, if_pos h4, succ64 (by omega)]) hb, ?_⟩
            rw [hf]
            simp only [frm, if_pos o, List.map_cons, List.cons.injEq]
            simp [h4]
          · refine ⟨_, Ev.step (fun k => by simp only [r9_pins.l0]; rw [if_pos z, if_pos z0, if_pos o, if_neg h2, if_pos (by omega), if_pos h3, if_neg h4]) (Ev.now _), ?_⟩
            simp only [frm, if_pos o, List.map_cons, List.cons.injEq]
            simp [h4]
      · obtain ⟨b, hb, hf⟩ := j1 a ha
        refine ⟨b, Ev.step (fun k => by simp only [r9_pins.l0]; rw [if_pos z, if_pos z0, if_neg o]) hb, ?_⟩
        rw [hf]
        simp [frm, o]
  obtain ⟨b, hb, hf⟩ := loop N.length 0 0 0 (by omega) (by omega) (by omega)
  exact ⟨b, hb, by simpa using hf⟩
theorem frm_mem {N : List Nd} {op : Int} : ∀ (d i : Nat) (x : Int), x ∈ frm N op i d → (i : Int) ≤ x ∧ x < (i : Int) + d ∧ (nd N x).f0 = op := by
  intro d
  induction d with
  | zero => intro i x h; simp [frm] at h
  | succ d ih =>
    intro i x h
    simp only [frm] at h
    split at h
    · rcases List.mem_cons.1 h with rfl | h
      · exact ⟨by omega, by omega, by assumption⟩
      · have := ih _ _ h
        exact ⟨by omega, by omega, this.2.2⟩
    · have := ih _ _ h
      exact ⟨by omega, by omega, this.2.2⟩
def CellP (N : List Nd) (c : Cl) : Prop := wid N c.f2 N.length = (nd N c.f1).f1 ∧ 0 ≤ c.f3 ∧ c.f3 ≤ P2 (nd N c.f1).f1 - 1
def PropP (N : List Nd) (p : Pp) : Prop := 8 ≤ p.f0 ∧ p.f0 ≤ 10 ∧ wid N p.f2 N.length = 1
def wsum (N : List Nd) (l : List Cl) : Int := (l.map fun c => (nd N c.f1).f1).sum
structure RightP (N : List Nd) (I : List Pn) (C : List Cl) (P : List Pp) (Q : List Pn) : Prop where
  n : N.length ≤ 4000
  i : I.length ≤ 64
  c : C.length ≤ 256
  p : P.length ≤ 16
  nodes : ∀ j : Nat, j < N.length → NodeP N j
  ins : I.map (·.f1) = frm N 21 0 N.length
  cells : C.map (·.f1) = frm N 22 0 N.length
  cell : ∀ c ∈ C, CellP N c
  prop : ∀ p ∈ P, PropP N p
  name : ∀ q ∈ Q, wid N q.f1 N.length ≠ 0
  bits : wsum N C ≤ 256
theorem there_f {N I C P Q} {a : Int} : r9_there.f N I C P Q a = some (wid N a N.length) := by
  unfold r9_there.f
  rw [wide_f (by omega)]
  rfl
theorem l3_ev {N I C P Q} (s : Small N I C P Q) (x : Int) : ∀ d (j : Nat), j + d = Q.length → ∃ b : Bool, Ev (fun k => r9_Right.l3 k x (j : Int) N I C P Q) b ∧ (b = true ↔ (∀ q ∈ Q.drop j, wid N q.f1 N.length ≠ 0) ∧ x ≤ 256) := by
  have s1 := s.q
  intro d
  induction d with
  | zero =>
    intro j hj
    have z : ¬ ((j : Int) < (Q.length : Int)) := by omega
    refine ⟨_, Ev.step (fun k => by simp only [r9_Right.l3]; rw [if_neg z]) (Ev.now _), ?_⟩
    rw [List.drop_eq_nil_of_le (by omega)]
    simp
  | succ d ih =>
    intro j hj
    have z : (j : Int) < (Q.length : Int) := by omega
    rw [pn_cons Q j (by omega)]
    by_cases h : wid N (pn Q (j : Int)).f1 N.length = 0
    · refine ⟨_, Ev.step (fun k => by simp only [r9_Right.l3]; rw [if_pos z, if_pos (by omega), there_f, Option.bind_some, if_pos h]) (Ev.now _), ?_⟩
      simp [h]
    · obtain ⟨b, hb, hf⟩ := ih (j + 1) (by omega)
      refine ⟨b, Ev.step (fun k => by simp only [r9_Right.l3]; rw [if_pos z, if_pos (by omega), there_f, Option.bind_some, if_neg h, succ64 (by omega)]) hb, ?_⟩
      rw [hf]
      simp [h]
theorem l2_ev {N I C P Q} (s : Small N I C P Q) (x : Int) : ∀ d (j : Nat), j + d = P.length → ∃ b : Bool, Ev (fun k => r9_Right.l2 k x (j : Int) N I C P Q) b ∧ (b = true ↔ (∀ p ∈ P.drop j, PropP N p) ∧ (∀ q ∈ Q, wid N q.f1 N.length ≠ 0) ∧ x ≤ 256) := by
  have s1 := s.p
  intro d
  induction d with
  | zero =>
    intro j hj
    have z : ¬ ((j : Int) < (P.length : Int)) := by omega
    obtain ⟨b, hb, hf⟩ := l3_ev s x Q.length 0 (by omega)
    refine ⟨b, Ev.step (fun k => by simp only [r9_Right.l2]; exact if_neg z) hb, ?_⟩
    rw [List.drop_eq_nil_of_le (by omega)]
    simpa using hf
  | succ d ih =>
    intro j hj
    have z : (j : Int) < (P.length : Int) := by omega
    rw [pp_cons P j (by omega)]
    have no : ∀ b : Bool, b = false → ¬ PropP N (pp P (j : Int)) → (b = true ↔ (∀ p ∈ pp P (j : Int) :: P.drop (j + 1), PropP N p) ∧ (∀ q ∈ Q, wid N q.f1 N.length ≠ 0) ∧ x ≤ 256) := fun b hb hn => by subst hb; simp [hn]
    have j5 : Ev (fun k => r9_Right.j5 k x (j : Int) true N I C P Q) false := Ev.step (fun k => by simp only [r9_Right.j5]; rw [if_pos trivial]) (Ev.now _)
    by_cases h1 : (pp P (j : Int)).f0 < 8
    · exact ⟨false, Ev.step (fun k => by simp only [r9_Right.l2]; rw [if_pos z, if_pos (by omega), if_pos h1]) j5, no _ rfl (fun q => by have := q.1; omega)⟩
    by_cases h2 : (pp P (j : Int)).f0 > 10
    · exact ⟨false, Ev.step (fun k => by simp only [r9_Right.l2]; rw [if_pos z, if_pos (by omega), if_neg h1, if_pos h2]) j5, no _ rfl (fun q => by have := q.2.1; omega)⟩
    by_cases h3 : wid N (pp P (j : Int)).f2 N.length = 1
    · obtain ⟨b, hb, hf⟩ := ih (j + 1) (by omega)
      have j5' : Ev (fun k => r9_Right.j5 k x (j : Int) false N I C P Q) b := Ev.step (fun k => by simp only [r9_Right.j5]; rw [if_neg (by decide), succ64 (by omega)]) hb
      refine ⟨b, Ev.step (fun k => by simp only [r9_Right.l2]; rw [if_pos z, if_pos (by omega), if_neg h1, if_neg h2, there_f, Option.bind_some, bne_eq_false_iff_eq.mpr h3]) j5', ?_⟩
      rw [hf]
      have : PropP N (pp P (j : Int)) := ⟨by omega, by omega, h3⟩
      simp [this]
    · refine ⟨false, Ev.step (fun k => by simp only [r9_Right.l2]; rw [if_pos z, if_pos (by omega), if_neg h1, if_neg h2, there_f, Option.bind_some, bne_iff_ne.mpr h3]) j5, no _ rfl (fun q => h3 q.2.2)⟩
theorem rmask_le {x : Int} (h : 1 ≤ x ∧ x ≤ 16) : r8_Mask.f x = some (P2 x - 1) := rmask_f (by omega) (by omega)
theorem l1_ev {N I C P Q} (s : Small N I C P Q) (hn : ∀ j : Nat, j < N.length → NodeP N j) (hc : C.map (·.f1) = frm N 22 0 N.length) : ∀ d (j : Nat) (x : Int), j + d = C.length → 0 ≤ x → x ≤ 16 * j → ∃ b : Bool, Ev (fun k => r9_Right.l1 k x (j : Int) N I C P Q) b ∧ (b = true ↔ (∀ c ∈ C.drop j, CellP N c) ∧ (∀ p ∈ P, PropP N p) ∧ (∀ q ∈ Q, wid N q.f1 N.length ≠ 0) ∧ x + wsum N (C.drop j) ≤ 256) := by
  have s1 := s.c
  intro d
  induction d with
  | zero =>
    intro j x hj hx hx2
    have z : ¬ ((j : Int) < (C.length : Int)) := by omega
    obtain ⟨b, hb, hf⟩ := l2_ev s x P.length 0 (by omega)
    refine ⟨b, Ev.step (fun k => by simp only [r9_Right.l1]; exact if_neg z) hb, ?_⟩
    rw [List.drop_eq_nil_of_le (by omega)]
    simpa [wsum] using hf
  | succ d ih =>
    intro j x hj hx hx2
    have z : (j : Int) < (C.length : Int) := by omega
    have hm : (cl C (j : Int)).f1 ∈ frm N 22 0 N.length := by
      rw [← hc]
      refine List.mem_map.2 ⟨_, ?_, rfl⟩
      have := cl_cons C j (by omega)
      exact List.mem_of_mem_drop (by rw [this]; exact List.mem_cons_self)
    obtain ⟨m0', m1, -⟩ := frm_mem _ _ _ hm
    have m0 : 0 ≤ (cl C (j : Int)).f1 := m0'
    rw [cl_cons C j (by omega)]
    generalize hcc0 : cl C (j : Int) = c at *
    have hcc : rd_T43 C (j : Int) = c := hcc0
    have hw := hn c.f1.toNat (by omega)
    have e0 : ((c.f1.toNat : Nat) : Int) = c.f1 := by omega
    rw [e0] at hw
    have w1 := hw.w1
    have w16 := hw.w16
    have hx' : wrap64 (x + (nd N c.f1).f1) = x + (nd N c.f1).f1 := w64 (by omega) (by omega)
    have no : ¬ CellP N c → (false = true ↔ (∀ d ∈ c :: C.drop (j + 1), CellP N d) ∧ (∀ p ∈ P, PropP N p) ∧ (∀ q ∈ Q, wid N q.f1 N.length ≠ 0) ∧ x + wsum N (c :: C.drop (j + 1)) ≤ 256) := fun h => by simp [h]
    have j3 : ∀ y, Ev (fun k => r9_Right.j3 k y (j : Int) true N I C P Q) false := fun y => Ev.step (fun k => by simp only [r9_Right.j3]; rw [if_pos trivial]) (Ev.now _)
    by_cases h1 : wid N c.f2 N.length = (nd N c.f1).f1
    · by_cases h2 : c.f3 < 0
      · exact ⟨false, Ev.step (fun k => by simp only [r9_Right.l1]; rw [if_pos z, if_pos (by omega), hcc, if_pos m0, if_pos (by omega), there_f, Option.bind_some, if_pos h1, if_pos h2]) (j3 _), no fun q => by have := q.2.1; omega⟩
      · by_cases h3 : c.f3 > P2 (nd N c.f1).f1 - 1
        · exact ⟨false, Ev.step (fun k => by simp only [r9_Right.l1]; rw [if_pos z, if_pos (by omega), hcc, if_pos m0, if_pos (by omega), there_f, Option.bind_some, if_pos h1, if_neg h2, rmask_le ⟨w1, w16⟩, Option.bind_some, decide_eq_true h3]) (j3 _), no fun q => by have := q.2.2; omega⟩
        · obtain ⟨b, hb, hf⟩ := ih (j + 1) (x + (nd N c.f1).f1) (by omega) (by omega) (by omega)
          have j3' : Ev (fun k => r9_Right.j3 k (x + (nd N c.f1).f1) (j : Int) false N I C P Q) b := Ev.step (fun k => by simp only [r9_Right.j3]; rw [if_neg (by decide), succ64 (by omega)]) hb
          refine ⟨b, Ev.step (fun k => by simp only [r9_Right.l1]; rw [if_pos z, if_pos (by omega), hcc, if_pos m0, if_pos (by omega), there_f, Option.bind_some, if_pos h1, if_neg h2, rmask_le ⟨w1, w16⟩, Option.bind_some, decide_eq_false h3, hx']) j3', ?_⟩
          rw [hf]
          have : CellP N c := ⟨h1, by omega, by omega⟩
          simp only [List.mem_cons, forall_eq_or_imp, this, true_and, wsum, List.map_cons, List.sum_cons, Int.add_assoc]
    · exact ⟨false, Ev.step (fun k => by simp only [r9_Right.l1]; rw [if_pos z, if_pos (by omega), hcc, if_pos m0, if_pos (by omega), there_f, Option.bind_some, if_neg h1]) (j3 _), no fun q => h1 q.1⟩
theorem l0_ev {N I C P Q} (s : Small N I C P Q) : ∀ d (j : Nat), j + d = N.length → (∀ i : Nat, i < j → NodeP N i) → ∃ b : Bool, Ev (fun k => r9_Right.l0 k (j : Int) N I C P Q) b ∧ (b = true ↔ (∀ i : Nat, i < N.length → NodeP N i) ∧ (I.map (·.f1) = frm N 21 0 N.length ∧ C.map (·.f1) = frm N 22 0 N.length) ∧ (∀ c ∈ C, CellP N c) ∧ (∀ p ∈ P, PropP N p) ∧ (∀ q ∈ Q, wid N q.f1 N.length ≠ 0) ∧ wsum N C ≤ 256) := by
  have s1 := s.n
  intro d
  induction d with
  | zero =>
    intro j hj hn
    have z : ¬ ((j : Int) < (N.length : Int)) := by omega
    have hn' : ∀ i : Nat, i < N.length → NodeP N i := fun i hi => hn i (by omega)
    obtain ⟨b, hb, hf⟩ := pins_ev (P := P) (Q := Q) s
    have st : ∀ r, Ev (fun k => (r9_pins.f k N I C P Q).bind fun t => if t = true then r9_Right.l1 k 0 0 N I C P Q else some false) r → Ev (fun k => r9_Right.l0 k (j : Int) N I C P Q) r := fun r h => Ev.step (fun k => by simp only [r9_Right.l0]; rw [if_neg z]) h
    cases b with
    | false =>
      refine ⟨false, st _ (Ev.bind (f := fun k t => if t = true then r9_Right.l1 k 0 0 N I C P Q else some false) hb (Ev.ite_neg (by decide) (Ev.now _))), ?_⟩
      have : ¬ (I.map (·.f1) = frm N 21 0 N.length ∧ C.map (·.f1) = frm N 22 0 N.length) := fun q => by have := hf.2 q; simp at this
      simp [this]
    | true =>
      have hp := hf.1 rfl
      obtain ⟨b, hb2, hf2⟩ := l1_ev (I := I) s hn' hp.2 C.length 0 0 (by omega) (by omega) (by omega)
      refine ⟨b, st _ (Ev.bind (f := fun k t => if t = true then r9_Right.l1 k 0 0 N I C P Q else some false) hb (Ev.ite_pos rfl hb2)), ?_⟩
      rw [hf2]
      simp only [hp, List.drop_zero, Int.zero_add, true_and, and_true]
      exact ⟨fun q => ⟨hn', q⟩, fun q => q.2⟩
  | succ d ih =>
    intro j hj hn
    have z : (j : Int) < (N.length : Int) := by omega
    obtain ⟨b, hb, hf⟩ := node_f (I := I) (C := C) (P := P) (Q := Q) (i := j) (by omega) hn 0
    have hb' : Ev (fun k => r9_node.f k N I C P Q (j : Int)) b := Ev.of (fun k => r9_node.mono _ _ _ _ _ _ k) hb
    have st : ∀ r, Ev (fun k => (r9_node.f k N I C P Q (j : Int)).bind fun t => if t = true then r9_Right.l0 k (((j + 1 : Nat)) : Int) N I C P Q else some false) r → Ev (fun k => r9_Right.l0 k (j : Int) N I C P Q) r := fun r h => Ev.step (fun k => by simp only [r9_Right.l0]; rw [if_pos z, succ64 (i := j) (by omega)]) h
    cases b with
    | false =>
      refine ⟨false, st _ (Ev.bind (f := fun k t => if t = true then r9_Right.l0 k (((j + 1 : Nat)) : Int) N I C P Q else some false) hb' (Ev.ite_neg (by decide) (Ev.now _))), ?_⟩
      have : ¬ (∀ i : Nat, i < N.length → NodeP N i) := fun q => by have := hf.2 (q j (by omega)); simp at this
      simp [this]
    | true =>
      obtain ⟨b, hb2, hf2⟩ := ih (j + 1) (by omega) (fun i hi => by
        rcases Nat.lt_or_ge i j with h | h
        · exact hn i h
        · obtain rfl : i = j := by omega
          exact hf.1 rfl)
      exact ⟨b, st _ (Ev.bind (f := fun k t => if t = true then r9_Right.l0 k (((j + 1 : Nat)) : Int) N I C P Q else some false) hb' (Ev.ite_pos rfl hb2)), hf2⟩
theorem right_ev {N I C P Q} (s : Small N I C P Q) : ∃ b : Bool, Ev (fun k => r9_Right.f k N I C P Q) b ∧ (b = true ↔ RightP N I C P Q) := by
  have s1 := s.n
  unfold r9_Right.f
  have j0 : Ev (fun k => r9_Right.j0 k true N I C P Q) false := Ev.step (fun k => by simp only [r9_Right.j0]; rw [if_pos trivial]) (Ev.now _)
  by_cases h1 : (N.length : Int) > 4000
  · exact ⟨false, Ev.ite_pos h1 j0, by simp; intro q; have := q.n; omega⟩
  by_cases h2 : (I.length : Int) > 64
  · exact ⟨false, Ev.ite_neg h1 (Ev.ite_pos h2 j0), by simp; intro q; have := q.i; omega⟩
  by_cases h3 : (C.length : Int) > 256
  · exact ⟨false, Ev.ite_neg h1 (Ev.ite_neg h2 (Ev.ite_pos h3 j0)), by simp; intro q; have := q.c; omega⟩
  by_cases h4 : (P.length : Int) > 16
  · refine ⟨false, Ev.ite_neg h1 (Ev.ite_neg h2 (Ev.ite_neg h3 ?_)), by simp; intro q; have := q.p; omega⟩
    rw [decide_eq_true h4]
    exact j0
  · obtain ⟨b, hb, hf⟩ := l0_ev s N.length 0 (by omega) (fun i hi => by omega)
    refine ⟨b, Ev.ite_neg h1 (Ev.ite_neg h2 (Ev.ite_neg h3 ?_)), ?_⟩
    · rw [decide_eq_false h4]
      exact Ev.step (fun k => by simp only [r9_Right.j0]; exact if_neg (by decide)) hb
    · rw [hf]
      exact ⟨fun ⟨q1, q2, q3, q4, q5, q6⟩ => ⟨by omega, by omega, by omega, by omega, q1, q2.1, q2.2, q3, q4, q5, q6⟩, fun q => ⟨q.nodes, ⟨q.ins, q.cells⟩, q.cell, q.prop, q.name, q.bits⟩⟩
theorem wid_pos {N : List Nd} {a : Int} {i : Nat} (h : 0 < wid N a i) : 0 ≤ a ∧ a < i ∧ wid N a i = (nd N a).f1 := by
  unfold wid at h ⊢
  split at h
  · omega
  · rename_i hn
    exact ⟨by omega, by omega, by rw [if_neg hn]⟩
theorem rd_mem {l : List Int} {j : Nat} (h : j < l.length) : rd l (j : Int) ∈ l := by
  unfold rd
  rw [Int.toNat_natCast, List.getD_eq_getElem?_getD, List.getElem?_eq_getElem h]
  exact List.getElem_mem h
theorem rd_pin {I : List Pn} {j : Nat} (h : j < I.length) : rd (I.map (·.f1)) (j : Int) = (pn I (j : Int)).f1 := by
  unfold rd pn rd_T47
  simp [List.getD_eq_getElem?_getD, h]
theorem rd_cell {C : List Cl} {j : Nat} (h : j < C.length) : rd (C.map (·.f1)) (j : Int) = (cl C (j : Int)).f1 := by
  unfold rd cl rd_T43
  simp [List.getD_eq_getElem?_getD, h]
theorem next_pos {N I C P Q} (r : RightP N I C P Q) {j : Nat} (h : j < C.length) : 0 ≤ (cl C (j : Int)).f2 ∧ (cl C (j : Int)).f2 < N.length ∧ (nd N (cl C (j : Int)).f2).f1 = (nd N (cl C (j : Int)).f1).f1 ∧ CellP N (cl C (j : Int)) ∧ 0 ≤ (cl C (j : Int)).f1 ∧ (cl C (j : Int)).f1 < N.length ∧ 1 ≤ (nd N (cl C (j : Int)).f1).f1 ∧ (nd N (cl C (j : Int)).f1).f1 ≤ 16 := by
  have hm : cl C (j : Int) ∈ C := List.mem_of_mem_drop (i := j) (by rw [cl_cons C j h]; exact List.mem_cons_self)
  have hc := r.cell _ hm
  have hf : (cl C (j : Int)).f1 ∈ frm N 22 0 N.length := by rw [← r.cells]; exact List.mem_map.2 ⟨_, hm, rfl⟩
  obtain ⟨m0, m1, -⟩ := frm_mem _ _ _ hf
  generalize cl C (j : Int) = c at *
  have hw := r.nodes c.f1.toNat (by omega)
  have e0 : ((c.f1.toNat : Nat) : Int) = c.f1 := by omega
  rw [e0] at hw
  have w1 := hw.w1
  have w16 := hw.w16
  have h1 := hc.1
  obtain ⟨q0, q1, q2⟩ := wid_pos (N := N) (a := c.f2) (i := N.length) (by omega)
  exact ⟨q0, q1, by omega, hc, by omega, by omega, w1, w16⟩
theorem width_f {N I C P Q} {a b : Int} (hb : b ≤ N.length) : net_width.f N I C P Q a b = some (wid N a b) := by
  unfold net_width.f wid
  by_cases h : a < 0
  · rw [if_pos h, if_pos (Or.inl h)]
  · rw [if_neg h]
    by_cases h2 : a ≥ b
    · rw [if_pos h2, if_pos (Or.inr h2)]
    · rw [if_neg h2, if_pos (by omega), if_pos (by omega), if_neg (by omega)]
theorem rule_ok {x : Nd} {a b c : Int} (w1 : 1 ≤ x.f1) (w16 : x.f1 ≤ 16) (ha : 0 ≤ a ∧ a ≤ 16) (hb : 0 ≤ b ∧ b ≤ 16) (h : FitP x a b c) : ∃ tag, main_main.f x.f0 = some (opk x.f0, tag, true) ∧ gosem_cut.f x.f0 x.f1 x.f2 x.f3 x.f4 x.f5 x.f6 a b c tag = some true := by
  have hm := mask_f (k := x.f1) (by omega) (by omega)
  rcases h with ⟨o, f1, f2, f3⟩ | ⟨o, f1, f2⟩ | ⟨o, f1, f2, f3⟩ | ⟨o, f1, f2, f3, f4⟩ | ⟨o, f1, f2, f3, f4⟩ | ⟨o, f1, f2, f3, f4, f5⟩ | ⟨o, f1, f2, f3, f4, f5⟩ | ⟨o, f1, f2, f3, f4, f5⟩ | ⟨o, f1, f2, f3, f4⟩
  · exact ⟨59, by rw [o]; rfl, by simp [gosem_cut.f, net_seen_lit.f, hm, f1, f2, f3]⟩
  · rcases o with o | o <;> exact ⟨60, by rw [o]; rfl, by simp [gosem_cut.f, net_seen_bare.f, f1, f2]⟩
  · exact ⟨61, by rw [o]; rfl, by simp [gosem_cut.f, net_seen_one.f, net_seen_bare.f, f1, f2, f3]⟩
  · rcases o with o | o <;> exact ⟨62, by rw [o]; rfl, by simp [gosem_cut.f, net_seen_red.f, f1, f2, f3]; omega⟩
  · have o' : x.f0 = 6 ∨ x.f0 = 7 ∨ x.f0 = 8 ∨ x.f0 = 9 ∨ x.f0 = 10 ∨ x.f0 = 11 := by omega
    rcases o' with o | o | o | o | o | o <;> exact ⟨57, by rw [o]; rfl, by simp [gosem_cut.f, net_seen_two.f, net_seen_one.f, net_seen_bare.f, f1, f2, f3, f4]⟩
  · have o' : x.f0 = 12 ∨ x.f0 = 13 ∨ x.f0 = 14 ∨ x.f0 = 15 := by omega
    have f6 : 0 < x.f6 := by omega
    rcases o' with o | o | o | o <;> exact ⟨58, by rw [o]; rfl, by simp [gosem_cut.f, net_seen_asked.f, net_seen_red.f, f1, f2, f3, f4, f6]⟩
  · exact ⟨65, by rw [o]; rfl, by simp [gosem_cut.f, net_seen_mux.f, net_seen_bare.f, f1, f2, f3, f4, f5]⟩
  · have hw : wrap64 x.f1 = x.f1 := w64 (by omega) (by omega)
    exact ⟨64, by rw [o]; rfl, by simp [gosem_cut.f, net_seen_cat.f, net_seen_bare.f, f1, f2, f3, f4, f5, hw]⟩
  · have hw : wrap64 (wrap64 (x.f5 - x.f6) + 1) = x.f5 - x.f6 + 1 := by rw [w64 (n := x.f5 - x.f6) (by omega) (by omega), w64 (n := x.f5 - x.f6 + 1) (by omega) (by omega)]
    exact ⟨63, by rw [o]; rfl, by simp [gosem_cut.f, net_seen_slice.f, hw, f1, f2, f3, f4]⟩
theorem contains_ev {l : List Int} (h : ∀ z ∈ l, z = 0) (hl : l.length ≤ 1000) : Ev (fun k => slices_ContainsFunc_int_int.f k l 0) false := by
  have loop : ∀ d (i : Nat), i + d = l.length → Ev (fun k => slices_IndexFunc_int_int.l0 k l (l.length : Int) (i : Int)) (-1) := by
    intro d
    induction d with
    | zero =>
      intro i hi
      have z : ¬ ((i : Int) < (l.length : Int)) := by omega
      exact Ev.step (fun k => by simp only [slices_IndexFunc_int_int.l0]; rw [if_neg z]) (Ev.now _)
    | succ d ih =>
      intro i hi
      have z : (i : Int) < (l.length : Int) := by omega
      have e : rd l (i : Int) = 0 := h _ (rd_mem (by omega))
      have e2 : net_nodes_1.f 0 = some false := rfl
      exact Ev.step (fun k => by simp only [slices_IndexFunc_int_int.l0]; rw [if_pos z, if_pos (by omega), if_pos z, e, e2, Option.bind_some, if_neg (by decide), succ64 (by omega)]) (ih (i + 1) (by omega))
  unfold slices_ContainsFunc_int_int.f
  refine Ev.bind (f := fun k t => some (decide (t ≥ 0))) (loop l.length 0 (by omega)) (Ev.const rfl)
theorem nodes_ev {N I C P Q} (s : Small N I C P Q) (r : ∀ j : Nat, j < N.length → NodeP N j) : Ev (fun k => net_nodes.f k N I C P Q) true := by
  have s1 := s.n
  have loop : ∀ d (i : Nat), i + d = N.length → Ev (fun k => net_nodes.l0 k N (N.length : Int) (i : Int) N I C P Q) true := by
    intro d
    induction d with
    | zero =>
      intro i hi
      have z : ¬ ((i : Int) < (N.length : Int)) := by omega
      exact Ev.step (fun k => by simp only [net_nodes.l0]; rw [if_neg z]) (Ev.now _)
    | succ d ih =>
      intro i hi
      have z : (i : Int) < (N.length : Int) := by omega
      have h := r i (by omega)
      have hall : ∀ j : Nat, j < i → NodeP N j := fun j hj => r j (by omega)
      have w1 := h.w1
      have w16 := h.w16
      have op := h.op
      obtain ⟨tag, h1, h2⟩ := rule_ok w1 w16 (wid_le hall _) (wid_le hall _) h.fit
      have hk : opk (nd N (i : Int)).f0 ≤ 3 := by unfold opk; (repeat' split) <;> omega
      have hc : Ev (fun k => slices_ContainsFunc_int_int.f k (([(nd N (i : Int)).f2, (nd N (i : Int)).f3, (nd N (i : Int)).f4] : List Int).drop (opk (nd N (i : Int)).f0).toNat) 0) false := by
        have a0 := h.a0
        have b0 := h.b0
        have c0 := h.c0
        generalize (nd N (i : Int)).f2 = A at *
        generalize (nd N (i : Int)).f3 = B at *
        generalize (nd N (i : Int)).f4 = D at *
        generalize opk (nd N (i : Int)).f0 = q at *
        have hq : q = 0 ∨ q = 1 ∨ q = 2 ∨ q = 3 := by omega
        refine contains_ev ?_ ?_
        · rcases hq with rfl | rfl | rfl | rfl
          · have := a0 (by omega); have := b0 (by omega); have := c0 (by omega); simp_all
          · have := b0 (by omega); have := c0 (by omega); simp_all
          · have := c0 (by omega); simp_all
          · simp
        · simp; omega
      have j1 : Ev (fun k => net_nodes.j1 k (i : Int) N (N.length : Int) (i : Int) false N I C P Q (nd N (i : Int)).f0 (nd N (i : Int)).f1 (nd N (i : Int)).f2 (nd N (i : Int)).f3 (nd N (i : Int)).f4 (nd N (i : Int)).f5 (nd N (i : Int)).f6 (opk (nd N (i : Int)).f0) tag) true :=
        Ev.step (fun k => by simp only [net_nodes.j1]; rw [if_neg (by decide), width_f (by omega), Option.bind_some, width_f (by omega), Option.bind_some, width_f (by omega), Option.bind_some, h2, Option.bind_some, if_pos rfl, succ64 (by omega)]) (ih (i + 1) (by omega))
      have g1 : ¬ (nd N (i : Int)).f1 < 1 := by omega
      have g2 : ¬ (nd N (i : Int)).f1 > 16 := by omega
      have g3 : opk (nd N (i : Int)).f0 ≤ (([(nd N (i : Int)).f2, (nd N (i : Int)).f3, (nd N (i : Int)).f4] : List Int).length : Int) := by simp; omega
      refine Ev.step (f := fun k => (slices_ContainsFunc_int_int.f k (([(nd N (i : Int)).f2, (nd N (i : Int)).f3, (nd N (i : Int)).f4] : List Int).drop (opk (nd N (i : Int)).f0).toNat) 0).bind fun t146 => net_nodes.j1 k (i : Int) N (N.length : Int) (i : Int) t146 N I C P Q (nd N (i : Int)).f0 (nd N (i : Int)).f1 (nd N (i : Int)).f2 (nd N (i : Int)).f3 (nd N (i : Int)).f4 (nd N (i : Int)).f5 (nd N (i : Int)).f6 (opk (nd N (i : Int)).f0) tag) (fun k => by
        simp only [net_nodes.l0]
        rw [if_pos z, if_pos (by omega), if_pos z, h1]
        simp only [Option.bind_some]
        rw [if_pos trivial, if_neg g1, if_neg g2, if_pos op, if_pos g3]) ?_
      exact Ev.bind (f := fun k t146 => net_nodes.j1 k (i : Int) N (N.length : Int) (i : Int) t146 N I C P Q (nd N (i : Int)).f0 (nd N (i : Int)).f1 (nd N (i : Int)).f2 (nd N (i : Int)).f3 (nd N (i : Int)).f4 (nd N (i : Int)).f5 (nd N (i : Int)).f6 (opk (nd N (i : Int)).f0) tag) hc j1
  exact loop N.length 0 (by omega)
theorem places_ev {N I C P Q} (s : Small N I C P Q) (op : Int) : Ev (fun k => net_places.f k N I C P Q op) (frm N op 0 N.length) := by
  have s1 := s.n
  have loop : ∀ d (i : Nat) (l : List Int), i + d = N.length → l.length ≤ i → Ev (fun k => net_places.l0 k op l N (N.length : Int) (i : Int)) (l ++ frm N op i d) := by
    intro d
    induction d with
    | zero =>
      intro i l hi hl
      have z : ¬ ((i : Int) < (N.length : Int)) := by omega
      rw [frm, List.append_nil]
      exact Ev.step (fun k => by simp only [net_places.l0]; rw [if_neg z]) (Ev.now _)
    | succ d ih =>
      intro i l hi hl
      have z : (i : Int) < (N.length : Int) := by omega
      rw [frm]
      by_cases o : (nd N (i : Int)).f0 = op
      · rw [if_pos o]
        have hd := ih (i + 1) (l ++ [(i : Int)]) (by omega) (by simp; omega)
        rw [List.append_assoc] at hd
        exact Ev.step (fun k => by simp only [net_places.l0]; rw [if_pos z, if_pos (by omega), if_pos z, if_pos o, if_pos (by omega), succ64 (by omega)]) hd
      · rw [if_neg o]
        exact Ev.step (fun k => by simp only [net_places.l0]; rw [if_pos z, if_pos (by omega), if_pos z, if_neg o, succ64 (by omega)]) (ih (i + 1) l (by omega) (by omega))
  exact loop N.length 0 [] (by omega) (by simp)
theorem pins_eq {I : List Pn} {l : List Int} (h : I.map (·.f1) = l) (hl : I.length ≤ 100000) : Ev (fun k => api_Pin_int.f k I l 0) true := by
  subst h
  have loop : ∀ d (i : Nat), i + d = I.length → Ev (fun k => api_Pin_int.l0 k (I.map (·.f1)) I (I.length : Int) (i : Int)) true := by
    intro d
    induction d with
    | zero =>
      intro i hi
      have z : ¬ ((i : Int) < (I.length : Int)) := by omega
      exact Ev.step (fun k => by simp only [api_Pin_int.l0]; rw [if_neg z]) (Ev.now _)
    | succ d ih =>
      intro i hi
      have z : (i : Int) < (I.length : Int) := by omega
      have e : net_Right_1.f (pn I (i : Int)).f0 (pn I (i : Int)).f1 (pn I (i : Int)).f1 = some true := by simp [net_Right_1.f]
      exact Ev.step (fun k => by simp only [api_Pin_int.l0]; rw [if_pos z, if_pos (by omega), if_pos z, if_pos (by simp; omega), rd_pin (by omega), e, Option.bind_some, if_pos rfl, succ64 (by omega)]) (ih (i + 1) (by omega))
  unfold api_Pin_int.f
  exact Ev.ite_pos (by simp) (loop I.length 0 (by omega))
theorem cells_eq {C : List Cl} {l : List Int} (h : C.map (·.f1) = l) (hl : C.length ≤ 100000) : Ev (fun k => api_Cell_int.f k C l 0) true := by
  subst h
  have loop : ∀ d (i : Nat), i + d = C.length → Ev (fun k => api_Cell_int.l0 k (C.map (·.f1)) C (C.length : Int) (i : Int)) true := by
    intro d
    induction d with
    | zero =>
      intro i hi
      have z : ¬ ((i : Int) < (C.length : Int)) := by omega
      exact Ev.step (fun k => by simp only [api_Cell_int.l0]; rw [if_neg z]) (Ev.now _)
    | succ d ih =>
      intro i hi
      have z : (i : Int) < (C.length : Int) := by omega
      have e : net_Right_2.f (cl C (i : Int)).f0 (cl C (i : Int)).f1 (cl C (i : Int)).f2 (cl C (i : Int)).f3 (cl C (i : Int)).f1 = some true := by simp [net_Right_2.f]
      exact Ev.step (fun k => by simp only [api_Cell_int.l0]; rw [if_pos z, if_pos (by omega), if_pos z, if_pos (by simp; omega), rd_cell (by omega), e, Option.bind_some, if_pos rfl, succ64 (by omega)]) (ih (i + 1) (by omega))
  unfold api_Cell_int.f
  exact Ev.ite_pos (by simp) (loop C.length 0 (by omega))
theorem ncells_ev {N I C P Q} (s : Small N I C P Q) (r : RightP N I C P Q) : Ev (fun k => net_cells.f k N I C P Q) true := by
  have s1 := s.c
  have hb := r.bits
  have loop : ∀ d (j : Nat) (x : Int), j + d = C.length → 0 ≤ x → x ≤ 16 * j → x + wsum N (C.drop j) ≤ 256 → Ev (fun k => net_cells.l0 k x C (C.length : Int) (j : Int) N I C P Q) true := by
    intro d
    induction d with
    | zero =>
      intro j x hj hx hx2 hs
      have z : ¬ ((j : Int) < (C.length : Int)) := by omega
      rw [List.drop_eq_nil_of_le (by omega)] at hs
      simp [wsum] at hs
      exact Ev.step (fun k => by simp only [net_cells.l0]; rw [if_neg z, decide_eq_true hs]) (Ev.now _)
    | succ d ih =>
      intro j x hj hx hx2 hs
      have z : (j : Int) < (C.length : Int) := by omega
      obtain ⟨n0, n1, n2, nc, m0, m1, w1, w16⟩ := next_pos r (j := j) (by omega)
      rw [cl_cons C j (by omega)] at hs
      simp only [wsum, List.map_cons, List.sum_cons] at hs
      have hx' : wrap64 (x + (nd N (cl C (j : Int)).f1).f1) = x + (nd N (cl C (j : Int)).f1).f1 := w64 (by omega) (by omega)
      have c1 : ¬ (cl C (j : Int)).f3 < 0 := by have := nc.2.1; omega
      have c2 : decide ((cl C (j : Int)).f3 > P2 (nd N (cl C (j : Int)).f1).f1 - 1) = false := decide_eq_false (by have := nc.2.2; omega)
      have hd := ih (j + 1) (x + (nd N (cl C (j : Int)).f1).f1) (by omega) (by omega) (by omega) (by simp only [wsum]; omega)
      have j1 : Ev (fun k => net_cells.j1 k (x + (nd N (cl C (j : Int)).f1).f1) C (C.length : Int) (j : Int) false N I C P Q) true := Ev.step (fun k => by simp only [net_cells.j1]; rw [if_neg (by decide), succ64 (by omega)]) hd
      have hm := mask_f (k := (nd N (cl C (j : Int)).f1).f1) (by omega) (by omega)
      exact Ev.step (fun k => by simp only [net_cells.l0]; rw [if_pos z, if_pos (by omega), if_pos z, if_pos m0, if_pos m1, width_f (by omega), Option.bind_some, if_pos nc.1, if_neg c1, hm, Option.bind_some, c2, hx']) j1
  exact loop C.length 0 0 (by omega) (by omega) (by omega) (by simpa using hb)
theorem names_ev {N I C P Q} (hq : Q.length ≤ 100000) (h : ∀ q ∈ Q, wid N q.f1 N.length ≠ 0) : Ev (fun k => api_Pin_35.f k Q ⟨N, I, C, P, Q⟩) false := by
  have loop : ∀ d (i : Nat), i + d = Q.length → Ev (fun k => api_Pin_50.l0 k Q ⟨N, I, C, P, Q⟩ (Q.length : Int) (i : Int)) (-1) := by
    intro d
    induction d with
    | zero =>
      intro i hi
      have z : ¬ ((i : Int) < (Q.length : Int)) := by omega
      exact Ev.step (fun k => by simp only [api_Pin_50.l0]; rw [if_neg z]) (Ev.now _)
    | succ d ih =>
      intro i hi
      have z : (i : Int) < (Q.length : Int) := by omega
      have hm : pn Q (i : Int) ∈ Q := List.mem_of_mem_drop (i := i) (by rw [pn_cons Q i (by omega)]; exact List.mem_cons_self)
      have e : net_Right_3.f (pn Q (i : Int)).f0 (pn Q (i : Int)).f1 ⟨N, I, C, P, Q⟩ = some false := by
        unfold net_Right_3.f
        rw [width_f (by simp)]
        simp [h _ hm]
      exact Ev.step (fun k => by simp only [api_Pin_50.l0]; rw [if_pos z, if_pos (by omega), if_pos z, e, Option.bind_some, if_neg (by decide), succ64 (by omega)]) (ih (i + 1) (by omega))
  unfold api_Pin_35.f
  refine Ev.bind (f := fun k t => some (decide (t ≥ 0))) ?_ (Ev.const (r := false) (o := some (decide ((-1 : Int) ≥ 0))) rfl)
  unfold api_Pin_50.f
  exact loop Q.length 0 (by omega)
theorem nright_ev {N I C P Q} (s : Small N I C P Q) (r : RightP N I C P Q) : Ev (fun k => net_Right.f k N I C P Q) true := by
  have r1 := r.n
  have r2 := r.i
  have r3 := r.c
  have r4 := r.p
  have loop : ∀ d (i : Nat), i + d = P.length → Ev (fun k => net_Right.l0 k P (P.length : Int) (i : Int) N I C P Q) true := by
    intro d
    induction d with
    | zero =>
      intro i hi
      have z : ¬ ((i : Int) < (P.length : Int)) := by omega
      refine Ev.step (f := fun k => (api_Pin_35.f k Q ⟨N, I, C, P, Q⟩).bind fun t188 => some (!t188)) (fun k => by simp only [net_Right.l0]; rw [if_neg z]) ?_
      exact Ev.bind (f := fun k t188 => some (!t188)) (names_ev s.q r.name) (Ev.const rfl)
    | succ d ih =>
      intro i hi
      have z : (i : Int) < (P.length : Int) := by omega
      have hm : pp P (i : Int) ∈ P := List.mem_of_mem_drop (i := i) (by rw [pp_cons P i (by omega)]; exact List.mem_cons_self)
      have hp := r.prop _ hm
      have g1 : ¬ (pp P (i : Int)).f0 < 8 := by have := hp.1; omega
      have g2 : ¬ (pp P (i : Int)).f0 > 10 := by have := hp.2.1; omega
      exact Ev.step (fun k => by simp only [net_Right.l0]; rw [if_pos z, if_pos (by omega), if_pos z, if_neg g1, if_neg g2, width_f (by omega), Option.bind_some, if_pos hp.2.2, succ64 (by omega)]) (ih (i + 1) (by omega))
  have j1 : Ev (fun k => net_Right.j1 k false N I C P Q) true := Ev.step (fun k => by simp only [net_Right.j1]; exact if_neg (by decide)) (loop P.length 0 (by omega))
  have j0 : Ev (fun k => net_Right.j0 k false N I C P Q) true := by
    refine Ev.step (f := fun k => (net_places.f k N I C P Q 21).bind fun t176 => ((api_Pin_int.f k I t176 0).bind fun t179 => (if t179 = true then ((net_places.f k N I C P Q 22).bind fun t180 => ((api_Cell_int.f k C t180 0).bind fun t183 => (if t183 = true then ((net_cells.f k N I C P Q).bind fun t184 => (net_Right.j1 k (!t184) N I C P Q)) else (net_Right.j1 k true N I C P Q)))) else (net_Right.j1 k true N I C P Q)))) (fun k => by simp only [net_Right.j0]; exact if_neg (by decide)) ?_
    refine Ev.bind (f := fun k t176 => ((api_Pin_int.f k I t176 0).bind fun t179 => (if t179 = true then ((net_places.f k N I C P Q 22).bind fun t180 => ((api_Cell_int.f k C t180 0).bind fun t183 => (if t183 = true then ((net_cells.f k N I C P Q).bind fun t184 => (net_Right.j1 k (!t184) N I C P Q)) else (net_Right.j1 k true N I C P Q)))) else (net_Right.j1 k true N I C P Q)))) (places_ev s 21) ?_
    refine Ev.bind (f := fun k t179 => (if t179 = true then ((net_places.f k N I C P Q 22).bind fun t180 => ((api_Cell_int.f k C t180 0).bind fun t183 => (if t183 = true then ((net_cells.f k N I C P Q).bind fun t184 => (net_Right.j1 k (!t184) N I C P Q)) else (net_Right.j1 k true N I C P Q)))) else (net_Right.j1 k true N I C P Q))) (pins_eq r.ins s.i) ?_
    refine Ev.ite_pos rfl ?_
    refine Ev.bind (f := fun k t180 => ((api_Cell_int.f k C t180 0).bind fun t183 => (if t183 = true then ((net_cells.f k N I C P Q).bind fun t184 => (net_Right.j1 k (!t184) N I C P Q)) else (net_Right.j1 k true N I C P Q)))) (places_ev s 22) ?_
    refine Ev.bind (f := fun k t183 => (if t183 = true then ((net_cells.f k N I C P Q).bind fun t184 => (net_Right.j1 k (!t184) N I C P Q)) else (net_Right.j1 k true N I C P Q))) (cells_eq r.cells s.c) ?_
    refine Ev.ite_pos rfl ?_
    exact Ev.bind (f := fun k t184 => net_Right.j1 k (!t184) N I C P Q) (ncells_ev s r) j1
  unfold net_Right.f
  refine Ev.ite_neg (by omega) (Ev.ite_neg (by omega) (Ev.ite_neg (by omega) (Ev.ite_neg (by omega) ?_)))
  exact Ev.bind (f := fun k t175 => net_Right.j0 k (!t175) N I C P Q) (nodes_ev s r.nodes) j0
theorem rule_iff {x : Nd} {a b c : Int} (w1 : 1 ≤ x.f1) (w16 : x.f1 ≤ 16) (ha : 0 ≤ a ∧ a ≤ 16) (hb : 0 ≤ b ∧ b ≤ 16) (hc : 0 ≤ c ∧ c ≤ 16) (op : 0 ≤ opk x.f0) : ∃ tag, ∃ y : Bool, main_main.f x.f0 = some (opk x.f0, tag, true) ∧ gosem_cut.f x.f0 x.f1 x.f2 x.f3 x.f4 x.f5 x.f6 a b c tag = some y ∧ (y = true ↔ FitP x a b c) := by
  have hm := mask_f (k := x.f1) (by omega) (by omega)
  have hp := p2_16 w16
  have hw : wrap64 (a + b) = a + b := w64 (by omega) (by omega)
  have hw1 : wrap64 x.f1 = x.f1 := w64 (by omega) (by omega)
  unfold FitP
  rcases opk_cases op with o | o | o | o | o | o | o | o | o | o | o | o | o | o | o | o | o | o | o
  · rw [o]
    refine ⟨59, decide (0 ≤ x.f5 ∧ x.f5 ≤ P2 x.f1 - 1 ∧ x.f6 = 0), rfl, ?_, by simp⟩
    by_cases h0 : 0 ≤ x.f5
    all_goals by_cases h1 : x.f5 ≤ P2 x.f1 - 1
    all_goals by_cases h2 : x.f6 = 0
    all_goals simp [gosem_cut.f, net_seen_lit.f, hm, h0, h1, h2]
  · rw [o]
    refine ⟨60, decide (x.f5 = 0 ∧ x.f6 = 0), rfl, ?_, by simp⟩
    by_cases h0 : x.f5 = 0
    all_goals by_cases h1 : x.f6 = 0
    all_goals simp [gosem_cut.f, net_seen_bare.f, h0, h1]
  · rw [o]
    refine ⟨60, decide (x.f5 = 0 ∧ x.f6 = 0), rfl, ?_, by simp⟩
    by_cases h0 : x.f5 = 0
    all_goals by_cases h1 : x.f6 = 0
    all_goals simp [gosem_cut.f, net_seen_bare.f, h0, h1]
  · rw [o]
    refine ⟨61, decide (x.f5 = 0 ∧ x.f6 = 0 ∧ a = x.f1), rfl, ?_, by simp⟩
    by_cases h0 : x.f5 = 0
    all_goals by_cases h1 : x.f6 = 0
    all_goals by_cases h2 : a = x.f1
    all_goals simp [gosem_cut.f, net_seen_one.f, net_seen_bare.f, h0, h1, h2]
  · rw [o]
    refine ⟨62, decide (x.f5 = 0 ∧ x.f1 = 1 ∧ a = x.f6 ∧ 0 < x.f6), rfl, ?_, by simp <;> omega⟩
    by_cases h0 : x.f5 = 0
    all_goals by_cases h1 : x.f1 = 1
    all_goals by_cases h2 : a = x.f6
    all_goals by_cases h3 : 0 < x.f6
    all_goals simp [gosem_cut.f, net_seen_red.f, h0, h1, h2, h3]
  · rw [o]
    refine ⟨62, decide (x.f5 = 0 ∧ x.f1 = 1 ∧ a = x.f6 ∧ 0 < x.f6), rfl, ?_, by simp <;> omega⟩
    by_cases h0 : x.f5 = 0
    all_goals by_cases h1 : x.f1 = 1
    all_goals by_cases h2 : a = x.f6
    all_goals by_cases h3 : 0 < x.f6
    all_goals simp [gosem_cut.f, net_seen_red.f, h0, h1, h2, h3]
  · rw [o]
    have e : (0 ≤ x.f6 ∧ x.f6 ≤ x.f5 ∧ x.f5 < a ∧ x.f1 = wrap64 (wrap64 (x.f5 - x.f6) + 1)) ↔ (0 ≤ x.f6 ∧ x.f6 ≤ x.f5 ∧ x.f5 < a ∧ x.f1 = x.f5 - x.f6 + 1) := by
      refine ⟨fun ⟨q1, q2, q3, q4⟩ => ?_, fun ⟨q1, q2, q3, q4⟩ => ?_⟩
      · rw [w64 (n := x.f5 - x.f6) (by omega) (by omega), w64 (n := x.f5 - x.f6 + 1) (by omega) (by omega)] at q4
        exact ⟨q1, q2, q3, q4⟩
      · rw [w64 (n := x.f5 - x.f6) (by omega) (by omega), w64 (n := x.f5 - x.f6 + 1) (by omega) (by omega)]
        exact ⟨q1, q2, q3, q4⟩
    refine ⟨63, decide (0 ≤ x.f6 ∧ x.f6 ≤ x.f5 ∧ x.f5 < a ∧ x.f1 = wrap64 (wrap64 (x.f5 - x.f6) + 1)), rfl, ?_, by rw [decide_eq_true_iff, e]; simp⟩
    by_cases h0 : 0 ≤ x.f6
    all_goals by_cases h1 : x.f6 ≤ x.f5
    all_goals by_cases h2 : x.f5 < a
    all_goals by_cases h3 : x.f1 = wrap64 (wrap64 (x.f5 - x.f6) + 1)
    all_goals simp [gosem_cut.f, net_seen_slice.f, h0, h1, h2, h3]
  · rw [o]
    refine ⟨57, decide (x.f5 = 0 ∧ x.f6 = 0 ∧ a = x.f1 ∧ b = x.f1), rfl, ?_, by simp⟩
    by_cases h0 : x.f5 = 0
    all_goals by_cases h1 : x.f6 = 0
    all_goals by_cases h2 : a = x.f1
    all_goals by_cases h3 : b = x.f1
    all_goals simp [gosem_cut.f, net_seen_two.f, net_seen_one.f, net_seen_bare.f, h0, h1, h2, h3]
  · rw [o]
    refine ⟨57, decide (x.f5 = 0 ∧ x.f6 = 0 ∧ a = x.f1 ∧ b = x.f1), rfl, ?_, by simp⟩
    by_cases h0 : x.f5 = 0
    all_goals by_cases h1 : x.f6 = 0
    all_goals by_cases h2 : a = x.f1
    all_goals by_cases h3 : b = x.f1
    all_goals simp [gosem_cut.f, net_seen_two.f, net_seen_one.f, net_seen_bare.f, h0, h1, h2, h3]
  · rw [o]
    refine ⟨57, decide (x.f5 = 0 ∧ x.f6 = 0 ∧ a = x.f1 ∧ b = x.f1), rfl, ?_, by simp⟩
    by_cases h0 : x.f5 = 0
    all_goals by_cases h1 : x.f6 = 0
    all_goals by_cases h2 : a = x.f1
    all_goals by_cases h3 : b = x.f1
    all_goals simp [gosem_cut.f, net_seen_two.f, net_seen_one.f, net_seen_bare.f, h0, h1, h2, h3]
  · rw [o]
    refine ⟨57, decide (x.f5 = 0 ∧ x.f6 = 0 ∧ a = x.f1 ∧ b = x.f1), rfl, ?_, by simp⟩
    by_cases h0 : x.f5 = 0
    all_goals by_cases h1 : x.f6 = 0
    all_goals by_cases h2 : a = x.f1
    all_goals by_cases h3 : b = x.f1
    all_goals simp [gosem_cut.f, net_seen_two.f, net_seen_one.f, net_seen_bare.f, h0, h1, h2, h3]
  · rw [o]
    refine ⟨57, decide (x.f5 = 0 ∧ x.f6 = 0 ∧ a = x.f1 ∧ b = x.f1), rfl, ?_, by simp⟩
    by_cases h0 : x.f5 = 0
    all_goals by_cases h1 : x.f6 = 0
    all_goals by_cases h2 : a = x.f1
    all_goals by_cases h3 : b = x.f1
    all_goals simp [gosem_cut.f, net_seen_two.f, net_seen_one.f, net_seen_bare.f, h0, h1, h2, h3]
  · rw [o]
    refine ⟨57, decide (x.f5 = 0 ∧ x.f6 = 0 ∧ a = x.f1 ∧ b = x.f1), rfl, ?_, by simp⟩
    by_cases h0 : x.f5 = 0
    all_goals by_cases h1 : x.f6 = 0
    all_goals by_cases h2 : a = x.f1
    all_goals by_cases h3 : b = x.f1
    all_goals simp [gosem_cut.f, net_seen_two.f, net_seen_one.f, net_seen_bare.f, h0, h1, h2, h3]
  · rw [o]
    refine ⟨58, decide (x.f5 = 0 ∧ x.f1 = 1 ∧ a = x.f6 ∧ b = x.f6 ∧ 0 < x.f6), rfl, ?_, by simp <;> omega⟩
    by_cases h0 : x.f5 = 0
    all_goals by_cases h1 : x.f1 = 1
    all_goals by_cases h2 : a = x.f6
    all_goals by_cases h3 : b = x.f6
    all_goals by_cases h4 : 0 < x.f6
    all_goals simp [gosem_cut.f, net_seen_asked.f, net_seen_red.f, h0, h1, h2, h3, h4]
    all_goals (split <;> simp_all)
  · rw [o]
    refine ⟨58, decide (x.f5 = 0 ∧ x.f1 = 1 ∧ a = x.f6 ∧ b = x.f6 ∧ 0 < x.f6), rfl, ?_, by simp <;> omega⟩
    by_cases h0 : x.f5 = 0
    all_goals by_cases h1 : x.f1 = 1
    all_goals by_cases h2 : a = x.f6
    all_goals by_cases h3 : b = x.f6
    all_goals by_cases h4 : 0 < x.f6
    all_goals simp [gosem_cut.f, net_seen_asked.f, net_seen_red.f, h0, h1, h2, h3, h4]
    all_goals (split <;> simp_all)
  · rw [o]
    refine ⟨58, decide (x.f5 = 0 ∧ x.f1 = 1 ∧ a = x.f6 ∧ b = x.f6 ∧ 0 < x.f6), rfl, ?_, by simp <;> omega⟩
    by_cases h0 : x.f5 = 0
    all_goals by_cases h1 : x.f1 = 1
    all_goals by_cases h2 : a = x.f6
    all_goals by_cases h3 : b = x.f6
    all_goals by_cases h4 : 0 < x.f6
    all_goals simp [gosem_cut.f, net_seen_asked.f, net_seen_red.f, h0, h1, h2, h3, h4]
    all_goals (split <;> simp_all)
  · rw [o]
    refine ⟨58, decide (x.f5 = 0 ∧ x.f1 = 1 ∧ a = x.f6 ∧ b = x.f6 ∧ 0 < x.f6), rfl, ?_, by simp <;> omega⟩
    by_cases h0 : x.f5 = 0
    all_goals by_cases h1 : x.f1 = 1
    all_goals by_cases h2 : a = x.f6
    all_goals by_cases h3 : b = x.f6
    all_goals by_cases h4 : 0 < x.f6
    all_goals simp [gosem_cut.f, net_seen_asked.f, net_seen_red.f, h0, h1, h2, h3, h4]
    all_goals (split <;> simp_all)
  · rw [o]
    refine ⟨64, decide (x.f5 = 0 ∧ x.f6 = 0 ∧ 0 < a ∧ 0 < b ∧ a + b = x.f1), rfl, ?_, by simp⟩
    by_cases h0 : x.f5 = 0
    all_goals by_cases h1 : x.f6 = 0
    all_goals by_cases h2 : 0 < a
    all_goals by_cases h3 : 0 < b
    all_goals by_cases h4 : a + b = x.f1
    all_goals simp [gosem_cut.f, net_seen_cat.f, net_seen_bare.f, hw, hw1, h0, h1, h2, h3, h4]
  · rw [o]
    refine ⟨65, decide (x.f5 = 0 ∧ x.f6 = 0 ∧ a = 1 ∧ b = x.f1 ∧ c = x.f1), rfl, ?_, by simp⟩
    by_cases h0 : x.f5 = 0
    all_goals by_cases h1 : x.f6 = 0
    all_goals by_cases h2 : a = 1
    all_goals by_cases h3 : b = x.f1
    all_goals by_cases h4 : c = x.f1
    all_goals simp [gosem_cut.f, net_seen_mux.f, net_seen_bare.f, h0, h1, h2, h3, h4]
theorem contains_iff {l : List Int} (hl : l.length ≤ 1000) : ∃ b : Bool, Ev (fun k => slices_ContainsFunc_int_int.f k l 0) b ∧ (b = false ↔ ∀ z ∈ l, z = 0) := by
  have loop : ∀ d (i : Nat), i + d = l.length → ∃ x : Int, Ev (fun k => slices_IndexFunc_int_int.l0 k l (l.length : Int) (i : Int)) x ∧ (¬ x ≥ 0 ↔ ∀ z ∈ l.drop i, z = 0) := by
    intro d
    induction d with
    | zero =>
      intro i hi
      have z : ¬ ((i : Int) < (l.length : Int)) := by omega
      refine ⟨-1, Ev.step (fun k => by simp only [slices_IndexFunc_int_int.l0]; rw [if_neg z]) (Ev.now _), ?_⟩
      rw [List.drop_eq_nil_of_le (by omega)]
      simp
    | succ d ih =>
      intro i hi
      have z : (i : Int) < (l.length : Int) := by omega
      have hc : l.drop i = rd l (i : Int) :: l.drop (i + 1) := drop_cons l 0 i (by omega)
      rw [hc]
      by_cases e : rd l (i : Int) = 0
      · obtain ⟨x, hx, hf⟩ := ih (i + 1) (by omega)
        have e2 : net_nodes_1.f 0 = some false := rfl
        exact ⟨x, Ev.step (fun k => by simp only [slices_IndexFunc_int_int.l0]; rw [if_pos z, if_pos (by omega), if_pos z, e, e2, Option.bind_some, if_neg (by decide), succ64 (by omega)]) hx, by rw [hf]; simp [e]⟩
      · have e2 : net_nodes_1.f (rd l (i : Int)) = some true := by simp [net_nodes_1.f, e]
        exact ⟨(i : Int), Ev.step (fun k => by simp only [slices_IndexFunc_int_int.l0]; rw [if_pos z, if_pos (by omega), if_pos z, e2, Option.bind_some, if_pos rfl]) (Ev.now _), by simp [e]⟩
  obtain ⟨x, hx, hf⟩ := loop l.length 0 (by omega)
  unfold slices_ContainsFunc_int_int.f
  refine ⟨decide (x ≥ 0), Ev.bind (f := fun k t => some (decide (t ≥ 0))) hx (Ev.now _), ?_⟩
  rw [decide_eq_false_iff_not, hf, List.drop_zero]
theorem zeros_iff {A B D q : Int} (hq : 0 ≤ q ∧ q ≤ 3) : (∀ z ∈ ([A, B, D] : List Int).drop q.toNat, z = 0) ↔ (q < 1 → A = 0) ∧ (q < 2 → B = 0) ∧ (q < 3 → D = 0) := by
  have h : q = 0 ∨ q = 1 ∨ q = 2 ∨ q = 3 := by omega
  rcases h with rfl | rfl | rfl | rfl <;> simp
theorem rule_none {x : Int} (h : opk x < 0) (wf : (Lit.int .i64 x).wf = true) : main_main.f x = some (0, -1, false) := by
  have ne : ∀ y : Int, 0 ≤ opk y → x ≠ y := fun y hy e => by rw [e] at h; omega
  unfold main_main.f
  rw [if_neg (ne 1 (by decide)), if_neg (ne 21 (by decide)), if_neg (ne 22 (by decide)), if_neg (ne 3 (by decide)), if_neg (ne 4 (by decide)), if_neg (ne 5 (by decide)), if_neg (ne 18 (by decide)), if_neg (ne 6 (by decide)), if_neg (ne 7 (by decide)), if_neg (ne 8 (by decide)), if_neg (ne 9 (by decide)), if_neg (ne 10 (by decide)), if_neg (ne 11 (by decide)), if_neg (ne 12 (by decide)), if_neg (ne 13 (by decide)), if_neg (ne 14 (by decide)), if_neg (ne 15 (by decide)), if_neg (ne 17 (by decide)), if_neg (ne 16 (by decide)), if_pos wf]
theorem rule_hit {x : Int} (op : 0 ≤ opk x) : ∃ tag, main_main.f x = some (opk x, tag, true) := by
  rcases opk_cases op with o | o | o | o | o | o | o | o | o | o | o | o | o | o | o | o | o | o | o <;> rw [o] <;> exact ⟨_, rfl⟩
theorem nodes_iff {N I C P Q} (s : Small N I C P Q) (wf : ∀ j : Nat, j < N.length → (Lit.int .i64 (nd N (j : Int)).f0).wf = true) : ∃ b : Bool, Ev (fun k => net_nodes.f k N I C P Q) b ∧ (b = true ↔ ∀ j : Nat, j < N.length → NodeP N j) := by
  have s1 := s.n
  have loop : ∀ d (i : Nat), i + d = N.length → (∀ j : Nat, j < i → NodeP N j) → ∃ b : Bool, Ev (fun k => net_nodes.l0 k N (N.length : Int) (i : Int) N I C P Q) b ∧ (b = true ↔ ∀ j : Nat, j < N.length → NodeP N j) := by
    intro d
    induction d with
    | zero =>
      intro i hi hall
      have z : ¬ ((i : Int) < (N.length : Int)) := by omega
      exact ⟨true, Ev.step (fun k => by simp only [net_nodes.l0]; rw [if_neg z]) (Ev.now _), by simp; exact fun j hj => hall j (by omega)⟩
    | succ d ih =>
      intro i hi hall
      have z : (i : Int) < (N.length : Int) := by omega
      have no : ¬ NodeP N i → (false = true ↔ ∀ j : Nat, j < N.length → NodeP N j) := fun h => by simp; exact ⟨i, by omega, h⟩
      have jt : ∀ a0 a1 a2 a3 a4 a5 a6 a7 a8, Ev (fun k => net_nodes.j1 k (i : Int) N (N.length : Int) (i : Int) true N I C P Q a0 a1 a2 a3 a4 a5 a6 a7 a8) false := fun _ _ _ _ _ _ _ _ _ => Ev.step (fun k => by simp only [net_nodes.j1]; exact if_pos trivial) (Ev.now _)
      by_cases op : 0 ≤ opk (nd N (i : Int)).f0
      · by_cases g1 : (nd N (i : Int)).f1 < 1
        · obtain ⟨tag, h1⟩ := rule_hit op
          refine ⟨false, Ev.step (fun k => by
            simp only [net_nodes.l0]
            rw [if_pos z, if_pos (by omega), if_pos z, h1]
            simp only [Option.bind_some]
            rw [if_pos trivial]
            exact if_pos g1) (jt _ _ _ _ _ _ _ _ _), no fun h => by have := h.w1; omega⟩
        by_cases g2 : (nd N (i : Int)).f1 > 16
        · obtain ⟨tag, h1⟩ := rule_hit op
          refine ⟨false, Ev.step (fun k => by
            simp only [net_nodes.l0]
            rw [if_pos z, if_pos (by omega), if_pos z, h1]
            simp only [Option.bind_some]
            rw [if_pos trivial, if_neg g1]
            exact if_pos g2) (jt _ _ _ _ _ _ _ _ _), no fun h => by have := h.w16; omega⟩
        obtain ⟨tag, y, h1, h2, h3⟩ := rule_iff (x := nd N (i : Int)) (by omega) (by omega) (wid_le hall (nd N (i : Int)).f2) (wid_le hall (nd N (i : Int)).f3) (wid_le hall (nd N (i : Int)).f4) op
        have hk : opk (nd N (i : Int)).f0 ≤ 3 := by unfold opk; (repeat' split) <;> omega
        obtain ⟨c, hc, hcf⟩ := contains_iff (l := ([(nd N (i : Int)).f2, (nd N (i : Int)).f3, (nd N (i : Int)).f4] : List Int).drop (opk (nd N (i : Int)).f0).toNat) (by simp; omega)
        rw [zeros_iff ⟨op, hk⟩] at hcf
        have g3 : opk (nd N (i : Int)).f0 ≤ (([(nd N (i : Int)).f2, (nd N (i : Int)).f3, (nd N (i : Int)).f4] : List Int).length : Int) := by simp; omega
        have st : ∀ res, Ev (fun k => net_nodes.j1 k (i : Int) N (N.length : Int) (i : Int) c N I C P Q (nd N (i : Int)).f0 (nd N (i : Int)).f1 (nd N (i : Int)).f2 (nd N (i : Int)).f3 (nd N (i : Int)).f4 (nd N (i : Int)).f5 (nd N (i : Int)).f6 (opk (nd N (i : Int)).f0) tag) res → Ev (fun k => net_nodes.l0 k N (N.length : Int) (i : Int) N I C P Q) res := fun res hres =>
          Ev.step (f := fun k => (slices_ContainsFunc_int_int.f k (([(nd N (i : Int)).f2, (nd N (i : Int)).f3, (nd N (i : Int)).f4] : List Int).drop (opk (nd N (i : Int)).f0).toNat) 0).bind fun t146 => net_nodes.j1 k (i : Int) N (N.length : Int) (i : Int) t146 N I C P Q (nd N (i : Int)).f0 (nd N (i : Int)).f1 (nd N (i : Int)).f2 (nd N (i : Int)).f3 (nd N (i : Int)).f4 (nd N (i : Int)).f5 (nd N (i : Int)).f6 (opk (nd N (i : Int)).f0) tag) (fun k => by
            simp only [net_nodes.l0]
            rw [if_pos z, if_pos (by omega), if_pos z, h1]
            simp only [Option.bind_some]
            rw [if_pos trivial, if_neg g1, if_neg g2, if_pos op, if_pos g3])
            (Ev.bind (f := fun k t146 => net_nodes.j1 k (i : Int) N (N.length : Int) (i : Int) t146 N I C P Q (nd N (i : Int)).f0 (nd N (i : Int)).f1 (nd N (i : Int)).f2 (nd N (i : Int)).f3 (nd N (i : Int)).f4 (nd N (i : Int)).f5 (nd N (i : Int)).f6 (opk (nd N (i : Int)).f0) tag) hc hres)
        cases c with
        | true => exact ⟨false, st _ (jt _ _ _ _ _ _ _ _ _), no fun h => by have := hcf.2 ⟨h.a0, h.b0, h.c0⟩; exact absurd this (by decide)⟩
        | false =>
          obtain ⟨a0, b0, c0⟩ := hcf.1 rfl
          cases y with
          | false => exact ⟨false, st _ (Ev.step (fun k => by simp only [net_nodes.j1]; rw [if_neg (by decide), width_f (by omega), Option.bind_some, width_f (by omega), Option.bind_some, width_f (by omega), Option.bind_some, h2, Option.bind_some]; exact if_neg (by decide)) (Ev.now _)), no fun h => by have := h3.2 h.fit; exact absurd this (by decide)⟩
          | true =>
            have hn : NodeP N i := ⟨by omega, by omega, op, a0, b0, c0, h3.1 rfl⟩
            obtain ⟨b, hb, hf⟩ := ih (i + 1) (by omega) (fun j hj => by
              rcases Nat.lt_or_ge j i with q | q
              · exact hall j q
              · obtain rfl : j = i := by omega
                exact hn)
            exact ⟨b, st _ (Ev.step (fun k => by simp only [net_nodes.j1]; rw [if_neg (by decide), width_f (by omega), Option.bind_some, width_f (by omega), Option.bind_some, width_f (by omega), Option.bind_some, h2, Option.bind_some, if_pos rfl, succ64 (by omega)]) hb), hf⟩
      · have h1 := rule_none (by omega) (wf i (by omega))
        refine ⟨false, Ev.step (fun k => by
          simp only [net_nodes.l0]
          rw [if_pos z, if_pos (by omega), if_pos z, h1]
          simp only [Option.bind_some]
          exact if_neg (by decide)) (jt _ _ _ _ _ _ _ _ _), no fun h => op h.op⟩
  obtain ⟨b, hb, hf⟩ := loop N.length 0 (by omega) (fun j hj => by omega)
  exact ⟨b, hb, hf⟩
theorem rd_cons (l : List Int) (j : Nat) (h : j < l.length) : l.drop j = rd l (j : Int) :: l.drop (j + 1) := drop_cons l 0 j h
theorem pins_iff {I : List Pn} {l : List Int} (hl : I.length ≤ 100000) : ∃ b : Bool, Ev (fun k => api_Pin_int.f k I l 0) b ∧ (b = true ↔ I.map (·.f1) = l) := by
  unfold api_Pin_int.f
  by_cases e : (I.length : Int) = (l.length : Int)
  · have loop : ∀ d (i : Nat), i + d = I.length → ∃ b : Bool, Ev (fun k => api_Pin_int.l0 k l I (I.length : Int) (i : Int)) b ∧ (b = true ↔ (I.drop i).map (·.f1) = l.drop i) := by
      intro d
      induction d with
      | zero =>
        intro i hi
        have z : ¬ ((i : Int) < (I.length : Int)) := by omega
        refine ⟨true, Ev.step (fun k => by simp only [api_Pin_int.l0]; rw [if_neg z]) (Ev.now _), ?_⟩
        rw [List.drop_eq_nil_of_le (by omega), List.drop_eq_nil_of_le (by omega)]
        simp
      | succ d ih =>
        intro i hi
        have z : (i : Int) < (I.length : Int) := by omega
        have z2 : (i : Int) < (l.length : Int) := by omega
        rw [pn_cons I i (by omega), rd_cons l i (by omega)]
        by_cases c : (pn I (i : Int)).f1 = rd l (i : Int)
        · obtain ⟨b, hb, hf⟩ := ih (i + 1) (by omega)
          have e2 : net_Right_1.f (pn I (i : Int)).f0 (pn I (i : Int)).f1 (rd l (i : Int)) = some true := by simp [net_Right_1.f, c]
          exact ⟨b, Ev.step (fun k => by simp only [api_Pin_int.l0]; rw [if_pos z, if_pos (by omega), if_pos z, if_pos z2, e2, Option.bind_some, if_pos rfl, succ64 (by omega)]) hb, by rw [hf]; simp [c]⟩
        · have e2 : net_Right_1.f (pn I (i : Int)).f0 (pn I (i : Int)).f1 (rd l (i : Int)) = some false := by simp [net_Right_1.f, c]
          exact ⟨false, Ev.step (fun k => by simp only [api_Pin_int.l0]; rw [if_pos z, if_pos (by omega), if_pos z, if_pos z2, e2, Option.bind_some]; exact if_neg (by decide)) (Ev.now _), by simp [c]⟩
    obtain ⟨b, hb, hf⟩ := loop I.length 0 (by omega)
    exact ⟨b, Ev.ite_pos e hb, by simpa using hf⟩
  · refine ⟨false, Ev.ite_neg e (Ev.now _), ?_⟩
    simp
    intro h
    have := congrArg List.length h
    rw [List.length_map] at this
    omega
theorem cells_iff {I : List Cl} {l : List Int} (hl : I.length ≤ 100000) : ∃ b : Bool, Ev (fun k => api_Cell_int.f k I l 0) b ∧ (b = true ↔ I.map (·.f1) = l) := by
  unfold api_Cell_int.f
  by_cases e : (I.length : Int) = (l.length : Int)
  · have loop : ∀ d (i : Nat), i + d = I.length → ∃ b : Bool, Ev (fun k => api_Cell_int.l0 k l I (I.length : Int) (i : Int)) b ∧ (b = true ↔ (I.drop i).map (·.f1) = l.drop i) := by
      intro d
      induction d with
      | zero =>
        intro i hi
        have z : ¬ ((i : Int) < (I.length : Int)) := by omega
        refine ⟨true, Ev.step (fun k => by simp only [api_Cell_int.l0]; rw [if_neg z]) (Ev.now _), ?_⟩
        rw [List.drop_eq_nil_of_le (by omega), List.drop_eq_nil_of_le (by omega)]
        simp
      | succ d ih =>
        intro i hi
        have z : (i : Int) < (I.length : Int) := by omega
        have z2 : (i : Int) < (l.length : Int) := by omega
        rw [cl_cons I i (by omega), rd_cons l i (by omega)]
        by_cases c : (cl I (i : Int)).f1 = rd l (i : Int)
        · obtain ⟨b, hb, hf⟩ := ih (i + 1) (by omega)
          have e2 : net_Right_2.f (cl I (i : Int)).f0 (cl I (i : Int)).f1 (cl I (i : Int)).f2 (cl I (i : Int)).f3 (rd l (i : Int)) = some true := by simp [net_Right_2.f, c]
          exact ⟨b, Ev.step (fun k => by simp only [api_Cell_int.l0]; rw [if_pos z, if_pos (by omega), if_pos z, if_pos z2, e2, Option.bind_some, if_pos rfl, succ64 (by omega)]) hb, by rw [hf]; simp [c]⟩
        · have e2 : net_Right_2.f (cl I (i : Int)).f0 (cl I (i : Int)).f1 (cl I (i : Int)).f2 (cl I (i : Int)).f3 (rd l (i : Int)) = some false := by simp [net_Right_2.f, c]
          exact ⟨false, Ev.step (fun k => by simp only [api_Cell_int.l0]; rw [if_pos z, if_pos (by omega), if_pos z, if_pos z2, e2, Option.bind_some]; exact if_neg (by decide)) (Ev.now _), by simp [c]⟩
    obtain ⟨b, hb, hf⟩ := loop I.length 0 (by omega)
    exact ⟨b, Ev.ite_pos e hb, by simpa using hf⟩
  · refine ⟨false, Ev.ite_neg e (Ev.now _), ?_⟩
    simp
    intro h
    have := congrArg List.length h
    rw [List.length_map] at this
    omega
theorem names_iff {N I C P Q} (hq : Q.length ≤ 100000) : ∃ b : Bool, Ev (fun k => api_Pin_35.f k Q ⟨N, I, C, P, Q⟩) b ∧ (b = false ↔ ∀ q ∈ Q, wid N q.f1 N.length ≠ 0) := by
  have loop : ∀ d (i : Nat), i + d = Q.length → ∃ x : Int, Ev (fun k => api_Pin_50.l0 k Q ⟨N, I, C, P, Q⟩ (Q.length : Int) (i : Int)) x ∧ (¬ x ≥ 0 ↔ ∀ q ∈ Q.drop i, wid N q.f1 N.length ≠ 0) := by
    intro d
    induction d with
    | zero =>
      intro i hi
      have z : ¬ ((i : Int) < (Q.length : Int)) := by omega
      refine ⟨-1, Ev.step (fun k => by simp only [api_Pin_50.l0]; rw [if_neg z]) (Ev.now _), ?_⟩
      rw [List.drop_eq_nil_of_le (by omega)]
      simp
    | succ d ih =>
      intro i hi
      have z : (i : Int) < (Q.length : Int) := by omega
      have e : net_Right_3.f (pn Q (i : Int)).f0 (pn Q (i : Int)).f1 ⟨N, I, C, P, Q⟩ = some (wid N (pn Q (i : Int)).f1 N.length == 0) := by
        unfold net_Right_3.f
        rw [width_f (by simp)]
        rfl
      rw [pn_cons Q i (by omega)]
      by_cases c : wid N (pn Q (i : Int)).f1 N.length = 0
      · rw [beq_iff_eq.mpr c] at e
        exact ⟨(i : Int), Ev.step (fun k => by simp only [api_Pin_50.l0]; rw [if_pos z, if_pos (by omega), if_pos z, e, Option.bind_some, if_pos rfl]) (Ev.now _), by simp [c]⟩
      · rw [beq_eq_false_iff_ne.mpr c] at e
        obtain ⟨x, hx, hf⟩ := ih (i + 1) (by omega)
        exact ⟨x, Ev.step (fun k => by simp only [api_Pin_50.l0]; rw [if_pos z, if_pos (by omega), if_pos z, e, Option.bind_some, if_neg (by decide), succ64 (by omega)]) hx, by rw [hf]; simp [c]⟩
  obtain ⟨x, hx, hf⟩ := loop Q.length 0 (by omega)
  unfold api_Pin_35.f
  refine ⟨decide (x ≥ 0), Ev.bind (f := fun k t => some (decide (t ≥ 0))) ?_ (Ev.now _), by rw [decide_eq_false_iff_not, hf, List.drop_zero]⟩
  unfold api_Pin_50.f
  exact hx
theorem ncells_iff {N I C P Q} (s : Small N I C P Q) (hn : ∀ j : Nat, j < N.length → NodeP N j) (hc : C.map (·.f1) = frm N 22 0 N.length) : ∃ b : Bool, Ev (fun k => net_cells.f k N I C P Q) b ∧ (b = true ↔ (∀ c ∈ C, CellP N c) ∧ wsum N C ≤ 256) := by
  have s1 := s.c
  have loop : ∀ d (j : Nat) (x : Int), j + d = C.length → 0 ≤ x → x ≤ 16 * j → ∃ b : Bool, Ev (fun k => net_cells.l0 k x C (C.length : Int) (j : Int) N I C P Q) b ∧ (b = true ↔ (∀ c ∈ C.drop j, CellP N c) ∧ x + wsum N (C.drop j) ≤ 256) := by
    intro d
    induction d with
    | zero =>
      intro j x hj hx hx2
      have z : ¬ ((j : Int) < (C.length : Int)) := by omega
      refine ⟨_, Ev.step (fun k => by simp only [net_cells.l0]; rw [if_neg z]) (Ev.now _), ?_⟩
      rw [List.drop_eq_nil_of_le (by omega)]
      simp [wsum]
    | succ d ih =>
      intro j x hj hx hx2
      have z : (j : Int) < (C.length : Int) := by omega
      have hm : (cl C (j : Int)).f1 ∈ frm N 22 0 N.length := by
        rw [← hc]
        exact List.mem_map.2 ⟨_, List.mem_of_mem_drop (i := j) (by rw [cl_cons C j (by omega)]; exact List.mem_cons_self), rfl⟩
      obtain ⟨m0', m1', -⟩ := frm_mem _ _ _ hm
      have m0 : 0 ≤ (cl C (j : Int)).f1 := m0'
      have m1 : (cl C (j : Int)).f1 < (N.length : Int) := by omega
      have hw := hn (cl C (j : Int)).f1.toNat (by omega)
      have e0 : (((cl C (j : Int)).f1.toNat : Nat) : Int) = (cl C (j : Int)).f1 := by omega
      rw [e0] at hw
      have w1 := hw.w1
      have w16 := hw.w16
      rw [cl_cons C j (by omega)]
      have hx' : wrap64 (x + (nd N (cl C (j : Int)).f1).f1) = x + (nd N (cl C (j : Int)).f1).f1 := w64 (by omega) (by omega)
      have hmk := mask_f (k := (nd N (cl C (j : Int)).f1).f1) (by omega) (by omega)
      have jt : ∀ y, Ev (fun k => net_cells.j1 k y C (C.length : Int) (j : Int) true N I C P Q) false := fun y => Ev.step (fun k => by simp only [net_cells.j1]; exact if_pos trivial) (Ev.now _)
      have no : ¬ CellP N (cl C (j : Int)) → (false = true ↔ (∀ c ∈ cl C (j : Int) :: C.drop (j + 1), CellP N c) ∧ x + wsum N (cl C (j : Int) :: C.drop (j + 1)) ≤ 256) := fun h => by simp [h]
      by_cases h1 : wid N (cl C (j : Int)).f2 N.length = (nd N (cl C (j : Int)).f1).f1
      · by_cases h2 : (cl C (j : Int)).f3 < 0
        · exact ⟨false, Ev.step (fun k => by simp only [net_cells.l0]; rw [if_pos z, if_pos (by omega), if_pos z, if_pos m0, if_pos m1, width_f (by omega), Option.bind_some, if_pos h1, if_pos h2]) (jt _), no fun q => by have := q.2.1; omega⟩
        · by_cases h3 : (cl C (j : Int)).f3 > P2 (nd N (cl C (j : Int)).f1).f1 - 1
          · exact ⟨false, Ev.step (fun k => by simp only [net_cells.l0]; rw [if_pos z, if_pos (by omega), if_pos z, if_pos m0, if_pos m1, width_f (by omega), Option.bind_some, if_pos h1, if_neg h2, hmk, Option.bind_some, decide_eq_true h3]) (jt _), no fun q => by have := q.2.2; omega⟩
          · obtain ⟨b, hb, hf⟩ := ih (j + 1) (x + (nd N (cl C (j : Int)).f1).f1) (by omega) (by omega) (by omega)
            have j1 : Ev (fun k => net_cells.j1 k (x + (nd N (cl C (j : Int)).f1).f1) C (C.length : Int) (j : Int) false N I C P Q) b := Ev.step (fun k => by simp only [net_cells.j1]; rw [if_neg (by decide), succ64 (by omega)]) hb
            refine ⟨b, Ev.step (fun k => by simp only [net_cells.l0]; rw [if_pos z, if_pos (by omega), if_pos z, if_pos m0, if_pos m1, width_f (by omega), Option.bind_some, if_pos h1, if_neg h2, hmk, Option.bind_some, decide_eq_false h3, hx']) j1, ?_⟩
            have : CellP N (cl C (j : Int)) := ⟨h1, by omega, by omega⟩
            rw [hf]
            simp only [List.mem_cons, forall_eq_or_imp, this, true_and, wsum, List.map_cons, List.sum_cons, Int.add_assoc]
      · exact ⟨false, Ev.step (fun k => by simp only [net_cells.l0]; rw [if_pos z, if_pos (by omega), if_pos z, if_pos m0, if_pos m1, width_f (by omega), Option.bind_some, if_neg h1]) (jt _), no fun q => h1 q.1⟩
  obtain ⟨b, hb, hf⟩ := loop C.length 0 0 (by omega) (by omega) (by omega)
  exact ⟨b, hb, by simpa using hf⟩
theorem props_iff {N I C P Q} (s : Small N I C P Q) : ∀ d (i : Nat), i + d = P.length → ∃ b : Bool, Ev (fun k => net_Right.l0 k P (P.length : Int) (i : Int) N I C P Q) b ∧ (b = true ↔ (∀ p ∈ P.drop i, PropP N p) ∧ (∀ q ∈ Q, wid N q.f1 N.length ≠ 0)) := by
  have s1 := s.p
  intro d
  induction d with
  | zero =>
    intro i hi
    have z : ¬ ((i : Int) < (P.length : Int)) := by omega
    obtain ⟨b, hb, hf⟩ := names_iff (N := N) (I := I) (C := C) (P := P) s.q
    refine ⟨!b, Ev.step (f := fun k => (api_Pin_35.f k Q ⟨N, I, C, P, Q⟩).bind fun t188 => some (!t188)) (fun k => by simp only [net_Right.l0]; rw [if_neg z]) (Ev.bind (f := fun k t188 => some (!t188)) hb (Ev.now _)), ?_⟩
    rw [List.drop_eq_nil_of_le (by omega)]
    simpa using hf
  | succ d ih =>
    intro i hi
    have z : (i : Int) < (P.length : Int) := by omega
    rw [pp_cons P i (by omega)]
    have no : ¬ PropP N (pp P (i : Int)) → (false = true ↔ (∀ p ∈ pp P (i : Int) :: P.drop (i + 1), PropP N p) ∧ (∀ q ∈ Q, wid N q.f1 N.length ≠ 0)) := fun h => by simp [h]
    by_cases g1 : (pp P (i : Int)).f0 < 8
    · exact ⟨false, Ev.step (fun k => by simp only [net_Right.l0]; rw [if_pos z, if_pos (by omega), if_pos z, if_pos g1]) (Ev.now _), no fun h => by have := h.1; omega⟩
    by_cases g2 : (pp P (i : Int)).f0 > 10
    · exact ⟨false, Ev.step (fun k => by simp only [net_Right.l0]; rw [if_pos z, if_pos (by omega), if_pos z, if_neg g1, if_pos g2]) (Ev.now _), no fun h => by have := h.2.1; omega⟩
    by_cases g3 : wid N (pp P (i : Int)).f2 N.length = 1
    · obtain ⟨b, hb, hf⟩ := ih (i + 1) (by omega)
      refine ⟨b, Ev.step (fun k => by simp only [net_Right.l0]; rw [if_pos z, if_pos (by omega), if_pos z, if_neg g1, if_neg g2, width_f (by omega), Option.bind_some, if_pos g3, succ64 (by omega)]) hb, ?_⟩
      have : PropP N (pp P (i : Int)) := ⟨by omega, by omega, g3⟩
      rw [hf]
      simp [this]
    · exact ⟨false, Ev.step (fun k => by simp only [net_Right.l0]; rw [if_pos z, if_pos (by omega), if_pos z, if_neg g1, if_neg g2, width_f (by omega), Option.bind_some, if_neg g3]) (Ev.now _), no fun h => g3 h.2.2⟩
theorem nright_iff {N I C P Q} (s : Small N I C P Q) (wf : ∀ j : Nat, j < N.length → (Lit.int .i64 (nd N (j : Int)).f0).wf = true) : ∃ b : Bool, Ev (fun k => net_Right.f k N I C P Q) b ∧ (b = true ↔ RightP N I C P Q) := by
  unfold net_Right.f
  have jt : Ev (fun k => net_Right.j0 k true N I C P Q) false := Ev.step (fun k => by simp only [net_Right.j0]; exact if_pos trivial) (Ev.now _)
  have j1t : Ev (fun k => net_Right.j1 k true N I C P Q) false := Ev.step (fun k => by simp only [net_Right.j1]; exact if_pos trivial) (Ev.now _)
  by_cases h1 : (N.length : Int) > 4000
  · exact ⟨false, Ev.ite_pos h1 jt, by simp; intro q; have := q.n; omega⟩
  by_cases h2 : (I.length : Int) > 64
  · exact ⟨false, Ev.ite_neg h1 (Ev.ite_pos h2 jt), by simp; intro q; have := q.i; omega⟩
  by_cases h3 : (C.length : Int) > 256
  · exact ⟨false, Ev.ite_neg h1 (Ev.ite_neg h2 (Ev.ite_pos h3 jt)), by simp; intro q; have := q.c; omega⟩
  by_cases h4 : (P.length : Int) > 16
  · exact ⟨false, Ev.ite_neg h1 (Ev.ite_neg h2 (Ev.ite_neg h3 (Ev.ite_pos h4 jt))), by simp; intro q; have := q.p; omega⟩
  obtain ⟨bn, hbn, fn⟩ := nodes_iff (I := I) (C := C) (P := P) (Q := Q) s wf
  have top : ∀ res, Ev (fun k => net_Right.j0 k (!bn) N I C P Q) res → Ev (fun k => if (N.length : Int) > 4000 then (net_Right.j0 k true N I C P Q) else (if (I.length : Int) > 64 then (net_Right.j0 k true N I C P Q) else (if (C.length : Int) > 256 then (net_Right.j0 k true N I C P Q) else (if (P.length : Int) > 16 then (net_Right.j0 k true N I C P Q) else ((net_nodes.f k N I C P Q).bind fun t175 => (net_Right.j0 k (!t175) N I C P Q)))))) res := fun res h => Ev.ite_neg h1 (Ev.ite_neg h2 (Ev.ite_neg h3 (Ev.ite_neg h4 (Ev.bind (f := fun k t175 => net_Right.j0 k (!t175) N I C P Q) hbn h))))
  cases bn with
  | false => exact ⟨false, top _ jt, by simp; intro q; have := fn.2 q.nodes; exact absurd this (by decide)⟩
  | true =>
    have hn := fn.1 rfl
    obtain ⟨bp, hbp, fp⟩ := pins_iff (I := I) (l := frm N 21 0 N.length) s.i
    obtain ⟨bc, hbc, fc⟩ := cells_iff (I := C) (l := frm N 22 0 N.length) s.c
    have mid : ∀ res, Ev (fun k => (if bp = true then ((net_places.f k N I C P Q 22).bind fun t180 => ((api_Cell_int.f k C t180 0).bind fun t183 => (if t183 = true then ((net_cells.f k N I C P Q).bind fun t184 => (net_Right.j1 k (!t184) N I C P Q)) else (net_Right.j1 k true N I C P Q)))) else (net_Right.j1 k true N I C P Q))) res → Ev (fun k => net_Right.j0 k (!true) N I C P Q) res := fun res h => by
      refine Ev.step (f := fun k => (net_places.f k N I C P Q 21).bind fun t176 => ((api_Pin_int.f k I t176 0).bind fun t179 => (if t179 = true then ((net_places.f k N I C P Q 22).bind fun t180 => ((api_Cell_int.f k C t180 0).bind fun t183 => (if t183 = true then ((net_cells.f k N I C P Q).bind fun t184 => (net_Right.j1 k (!t184) N I C P Q)) else (net_Right.j1 k true N I C P Q)))) else (net_Right.j1 k true N I C P Q)))) (fun k => by simp only [net_Right.j0]; exact if_neg (by decide)) ?_
      refine Ev.bind (f := fun k t => _) (places_ev s 21) ?_
      exact Ev.bind (f := fun k t179 => (if t179 = true then ((net_places.f k N I C P Q 22).bind fun t180 => ((api_Cell_int.f k C t180 0).bind fun t183 => (if t183 = true then ((net_cells.f k N I C P Q).bind fun t184 => (net_Right.j1 k (!t184) N I C P Q)) else (net_Right.j1 k true N I C P Q)))) else (net_Right.j1 k true N I C P Q))) hbp h
    cases bp with
    | false => exact ⟨false, top _ (mid _ (Ev.ite_neg (by decide) j1t)), by simp; intro q; have := fp.2 q.ins; exact absurd this (by decide)⟩
    | true =>
      have hp := fp.1 rfl
      have mid2 : ∀ res, Ev (fun k => (if bc = true then ((net_cells.f k N I C P Q).bind fun t184 => (net_Right.j1 k (!t184) N I C P Q)) else (net_Right.j1 k true N I C P Q))) res → Ev (fun k => net_Right.j0 k (!true) N I C P Q) res := fun res h => mid _ (Ev.ite_pos rfl (Ev.bind (f := fun k t180 => ((api_Cell_int.f k C t180 0).bind fun t183 => (if t183 = true then ((net_cells.f k N I C P Q).bind fun t184 => (net_Right.j1 k (!t184) N I C P Q)) else (net_Right.j1 k true N I C P Q)))) (places_ev s 22) (Ev.bind (f := fun k t183 => (if t183 = true then ((net_cells.f k N I C P Q).bind fun t184 => (net_Right.j1 k (!t184) N I C P Q)) else (net_Right.j1 k true N I C P Q))) hbc h)))
      cases bc with
      | false => exact ⟨false, top _ (mid2 _ (Ev.ite_neg (by decide) j1t)), by simp; intro q; have := fc.2 q.cells; exact absurd this (by decide)⟩
      | true =>
        have hc := fc.1 rfl
        obtain ⟨bk, hbk, fk⟩ := ncells_iff (I := I) (P := P) (Q := Q) s hn hc
        obtain ⟨bq, hbq, fq⟩ := props_iff s P.length 0 (by omega)
        cases bk with
        | false => exact ⟨false, top _ (mid2 _ (Ev.ite_pos rfl (Ev.bind (f := fun k t184 => net_Right.j1 k (!t184) N I C P Q) hbk j1t))), by simp; intro q; have := fk.2 ⟨q.cell, q.bits⟩; exact absurd this (by decide)⟩
        | true =>
          have hk := fk.1 rfl
          have j1 : Ev (fun k => net_Right.j1 k (!true) N I C P Q) bq := Ev.step (fun k => by simp only [net_Right.j1]; exact if_neg (by decide)) hbq
          refine ⟨bq, top _ (mid2 _ (Ev.ite_pos rfl (Ev.bind (f := fun k t184 => net_Right.j1 k (!t184) N I C P Q) hbk j1))), ?_⟩
          rw [fq, List.drop_zero]
          exact ⟨fun q => ⟨by omega, by omega, by omega, by omega, hn, hp, hc, hk.1, q.1, q.2, hk.2⟩, fun q => ⟨q.prop, q.name⟩⟩
theorem head09 : Ev (fun k => w9_head.f k) true := Ev.of w9_head.mono (k := 40) (by decide +kernel)
end Go.Proofs.Yteblbknmikieoaa.P9
