/- Slimmed by this session: what nothing names is struck out. -/
import Derived.Test.YteblbknmikieoaaPVec
import Derived.Test.YteblbknmikieoaaXb74
import Derived.Test.YteblbknmikieoaaXbF
namespace Go.Proofs.Yteblbknmikieoaa.P9
open Go.RowKit Go.Proofs.YteblbknmikieoaaW.PrintWords Go.Proofs.YteblbknmikieoaaW.PrintMore Go.Proofs.Yteblbknmikieoaa.PBits Go.Proofs.Yteblbknmikieoaa.PVec Go.Proofs.Yteblbknmikieoaa.Xb
set_option linter.unusedVariables false
set_option linter.unusedSimpArgs false
abbrev Nd := S41
abbrev Pn := S47
abbrev Cl := S43
abbrev Pp := S61
abbrev nd (l : List Nd) (i : Int) : Nd := rd_T41 l i
abbrev pn (l : List Pn) (i : Int) : Pn := rd_T47 l i
abbrev cl (l : List Cl) (i : Int) : Cl := rd_T43 l i
abbrev pp (l : List Pp) (i : Int) : Pp := rd_T61 l i
def wid (N : List Nd) (at_ of : Int) : Int := if at_ < 0 ∨ of ≤ at_ then 0 else (nd N at_).f1
def opk (x : Int) : Int := if x = 1 ∨ x = 21 ∨ x = 22 then 0 else if x = 3 ∨ x = 4 ∨ x = 5 ∨ x = 18 then 1 else if (6 ≤ x ∧ x ≤ 15) ∨ x = 17 then 2 else if x = 16 then 3 else -1
def FitP (x : Nd) (a b c : Int) : Prop :=
  (x.f0 = 1 ∧ 0 ≤ x.f5 ∧ x.f5 ≤ P2 x.f1 - 1 ∧ x.f6 = 0) ∨ ((x.f0 = 21 ∨ x.f0 = 22) ∧ x.f5 = 0 ∧ x.f6 = 0) ∨ (x.f0 = 3 ∧ x.f5 = 0 ∧ x.f6 = 0 ∧ a = x.f1) ∨ ((x.f0 = 4 ∨ x.f0 = 5) ∧ x.f5 = 0 ∧ x.f1 = 1 ∧ a = x.f6 ∧ 0 < a) ∨
  ((6 ≤ x.f0 ∧ x.f0 ≤ 11) ∧ x.f5 = 0 ∧ x.f6 = 0 ∧ a = x.f1 ∧ b = x.f1) ∨ ((12 ≤ x.f0 ∧ x.f0 ≤ 15) ∧ x.f5 = 0 ∧ x.f1 = 1 ∧ a = x.f6 ∧ b = x.f6 ∧ 0 < a) ∨ (x.f0 = 16 ∧ x.f5 = 0 ∧ x.f6 = 0 ∧ a = 1 ∧ b = x.f1 ∧ c = x.f1) ∨
  (x.f0 = 17 ∧ x.f5 = 0 ∧ x.f6 = 0 ∧ 0 < a ∧ 0 < b ∧ a + b = x.f1) ∨ (x.f0 = 18 ∧ 0 ≤ x.f6 ∧ x.f6 ≤ x.f5 ∧ x.f5 < a ∧ x.f1 = x.f5 - x.f6 + 1)
structure NodeP (N : List Nd) (i : Int) : Prop where
  w1 : 1 ≤ (nd N i).f1
  w16 : (nd N i).f1 ≤ 16
  op : 0 ≤ opk (nd N i).f0
  a0 : opk (nd N i).f0 < 1 → (nd N i).f2 = 0
  b0 : opk (nd N i).f0 < 2 → (nd N i).f3 = 0
  c0 : opk (nd N i).f0 < 3 → (nd N i).f4 = 0
  fit : FitP (nd N i) (wid N (nd N i).f2 i) (wid N (nd N i).f3 i) (wid N (nd N i).f4 i)
theorem wide_f {N I C P Q} {a b : Int} (hb : b ≤ N.length) : r9_wide.f N I C P Q a b = some (wid N a b) := by
  unfold r9_wide.f wid
  by_cases h : a < 0
  · rw [if_pos h, if_pos (Or.inl h)]
  · rw [if_neg h]
    by_cases h2 : a ≥ b
    · rw [if_pos h2, if_pos (Or.inr h2)]
    · rw [if_neg h2, if_pos (by omega), if_pos (by omega), if_neg (by omega)]
theorem wid_le {N : List Nd} {i : Nat} (h : ∀ j : Nat, j < i → NodeP N j) (a : Int) : 0 ≤ wid N a i ∧ wid N a i ≤ 16 := by
  unfold wid
  split
  · omega
  · have := h a.toNat (by omega)
    have e : ((a.toNat : Nat) : Int) = a := by omega
    rw [e] at this
    exact ⟨by have := this.w1; omega, this.w16⟩
theorem operands_f (x : Int) (k : Nat) : r9_operands.f (k + 3) x = some (opk x) := by
  unfold opk
  simp only [r9_operands.f, r9_operands.j0, r9_operands.j1, r9_operands.j2]
  by_cases h0 : x = 1 ∨ x = 21 ∨ x = 22
  · rw [if_pos h0]
    rcases h0 with rfl | rfl | rfl <;> rfl
  rw [if_neg h0]
  by_cases h1 : x = 3 ∨ x = 4 ∨ x = 5 ∨ x = 18
  · rw [if_pos h1]
    rcases h1 with rfl | rfl | rfl | rfl <;> rfl
  rw [if_neg h1]
  by_cases h2 : (6 ≤ x ∧ x ≤ 15) ∨ x = 17
  · rw [if_pos h2]
    have h3 : x = 6 ∨ x = 7 ∨ x = 8 ∨ x = 9 ∨ x = 10 ∨ x = 11 ∨ x = 12 ∨ x = 13 ∨ x = 14 ∨ x = 15 ∨ x = 17 := by omega
    rcases h3 with rfl | rfl | rfl | rfl | rfl | rfl | rfl | rfl | rfl | rfl | rfl <;> rfl
  rw [if_neg h2]
  have e1 : ¬ x = 1 := by omega
  have e2 : ¬ x = 21 := by omega
  have e3 : ¬ x = 22 := by omega
  have e4 : ¬ x = 3 := by omega
  have e5 : ¬ x = 4 := by omega
  have e6 : ¬ x = 5 := by omega
  have e7 : ¬ x = 18 := by omega
  have e8 : ¬ x = 6 := by omega
  have e9 : ¬ x = 7 := by omega
  have e10 : ¬ x = 8 := by omega
  have e11 : ¬ x = 9 := by omega
  have e12 : ¬ x = 10 := by omega
  have e13 : ¬ x = 11 := by omega
  have e14 : ¬ x = 12 := by omega
  have e15 : ¬ x = 13 := by omega
  have e16 : ¬ x = 14 := by omega
  have e17 : ¬ x = 15 := by omega
  have e18 : ¬ x = 17 := by omega
  simp [e1, e2, e3, e4, e5, e6, e7, e8, e9, e10, e11, e12, e13, e14, e15, e16, e17, e18]
  split <;> rfl
theorem opk_cases {x : Int} (h : 0 ≤ opk x) : x = 1 ∨ x = 21 ∨ x = 22 ∨ x = 3 ∨ x = 4 ∨ x = 5 ∨ x = 18 ∨ x = 6 ∨ x = 7 ∨ x = 8 ∨ x = 9 ∨ x = 10 ∨ x = 11 ∨ x = 12 ∨ x = 13 ∨ x = 14 ∨ x = 15 ∨ x = 17 ∨ x = 16 := by
  unfold opk at h
  repeat' split at h
  all_goals omega
theorem fits_f {N I C P Q} {i : Nat} (hi : i < N.length) (h : ∀ j : Nat, j < i → NodeP N j) (w1 : 1 ≤ (nd N i).f1) (w16 : (nd N i).f1 ≤ 16) (op : 0 ≤ opk (nd N i).f0) (k : Nat) :
    ∃ b : Bool, r9_fits.f (k + 5) N I C P Q (i : Int) = some b ∧ (b = true ↔ FitP (nd N i) (wid N (nd N i).f2 i) (wid N (nd N i).f3 i) (wid N (nd N i).f4 i)) := by
  have ha := wid_le h (nd N i).f2
  have hb := wid_le h (nd N i).f3
  have hc := wid_le h (nd N i).f4
  have hm := rmask_f (k := (nd N i).f1) (by omega) (by omega)
  have hp := p2_16 w16
  unfold r9_fits.f
  rw [if_pos (by omega), if_pos (by omega), wide_f (by omega), wide_f (by omega), wide_f (by omega)]
  simp only [Option.bind_some]
  change ∃ b : Bool, (if (nd N i).f5 = 0 then r9_fits.j0 (k + 5) _ _ _ ((nd N i).f6 == 0) (nd N i).f0 (nd N i).f1 (nd N i).f2 (nd N i).f3 (nd N i).f4 (nd N i).f5 (nd N i).f6 else r9_fits.j0 (k + 5) _ _ _ false (nd N i).f0 (nd N i).f1 (nd N i).f2 (nd N i).f3 (nd N i).f4 (nd N i).f5 (nd N i).f6) = some b ∧ _
  generalize wid N (nd N i).f2 i = a at *
  generalize wid N (nd N i).f3 i = b at *
  generalize wid N (nd N i).f4 i = c at *
  generalize nd N i = x at *
  have e : (if x.f5 = 0 then r9_fits.j0 (k + 5) a b c (x.f6 == 0) x.f0 x.f1 x.f2 x.f3 x.f4 x.f5 x.f6 else r9_fits.j0 (k + 5) a b c false x.f0 x.f1 x.f2 x.f3 x.f4 x.f5 x.f6) = r9_fits.j0 (k + 5) a b c (decide (x.f5 = 0 ∧ x.f6 = 0)) x.f0 x.f1 x.f2 x.f3 x.f4 x.f5 x.f6 := by
    by_cases h5 : x.f5 = 0
    · rw [if_pos h5]
      congr 1
      by_cases h6 : x.f6 = 0 <;> simp [h5, h6]
    · rw [if_neg h5]
      congr 1
      simp [h5]
  rw [e]
  unfold FitP
  have ew : x.f5 - x.f6 + 1 = x.f5 - x.f6 + 1 := rfl
  have hw : wrap64 (a + b) = a + b := w64 (by omega) (by omega)
  rcases opk_cases op with o | o | o | o | o | o | o | o | o | o | o | o | o | o | o | o | o | o | o
  case inr.inr.inr.inr.inr.inr.inl =>
    simp only [r9_fits.j0, r9_fits.j1, r9_fits.j2, r9_fits.j3, r9_fits.j4, o]
    simp
    by_cases h1 : 0 ≤ x.f6
    · by_cases h2 : x.f6 ≤ x.f5
      · by_cases h3 : x.f5 < a
        · rw [w64 (n := x.f5 - x.f6) (by omega) (by omega), w64 (n := x.f5 - x.f6 + 1) (by omega) (by omega)]
          simp [h1, h2, h3]
          omega
        · simp [h1, h2, h3]
      · simp [h1, h2]
    · simp [h1]
  all_goals simp only [r9_fits.j0, r9_fits.j1, r9_fits.j2, r9_fits.j3, r9_fits.j4, o, hm, hw]
  all_goals simp
  all_goals (repeat' split)
  all_goals simp_all
  all_goals omega
theorem node_f {N I C P Q} {i : Nat} (hi : i < N.length) (h : ∀ j : Nat, j < i → NodeP N j) (k : Nat) :
    ∃ b : Bool, r9_node.f (k + 6) N I C P Q (i : Int) = some b ∧ (b = true ↔ NodeP N i) := by
  unfold r9_node.f
  rw [if_pos (by omega), if_pos (by omega)]
  change ∃ b : Bool, ((r9_operands.f (k + 6) (nd N i).f0).bind fun t371 => (if (nd N i).f1 < 1 then r9_node.j0 (k + 6) i true N I C P Q else _)) = some b ∧ _
  rw [operands_f]
  simp only [Option.bind_some]
  have j0 : r9_node.j0 (k + 6) i true N I C P Q = some false := by simp [r9_node.j0]
  have no : ¬ NodeP N i → ∃ b : Bool, some false = some b ∧ (b = true ↔ NodeP N i) := fun z => ⟨false, rfl, by simp [z]⟩
  by_cases h1 : (nd N i).f1 < 1
  · rw [if_pos h1, j0]
    exact no fun z => by have := z.w1; omega
  rw [if_neg h1]
  by_cases h2 : (nd N i).f1 > 16
  · rw [if_pos h2, j0]
    exact no fun z => by have := z.w16; omega
  rw [if_neg h2]
  by_cases h3 : opk (nd N i).f0 < 0
  · rw [if_pos h3, j0]
    exact no fun z => by have := z.op; omega
  rw [if_neg h3]
  obtain ⟨b, hb, hf⟩ := fits_f (I := I) (C := C) (P := P) (Q := Q) hi h (by omega) (by omega) (by omega) k
  have j1 : ∀ z : Bool, r9_node.j0 (k + 6) i z N I C P Q = some (if z = true then false else b) := by
    intro z
    simp only [r9_node.j0]
    cases z
    · simp [hb]
    · simp
  simp only [j1]
  have yes : (opk (nd N i).f0 < 1 → (nd N i).f2 = 0) → (opk (nd N i).f0 < 2 → (nd N i).f3 = 0) → (opk (nd N i).f0 < 3 → (nd N i).f4 = 0) → ∃ c : Bool, some b = some c ∧ (c = true ↔ NodeP N i) := fun a0 b0 c0 => ⟨b, rfl, fun z => ⟨by omega, by omega, by omega, a0, b0, c0, hf.1 z⟩, fun z => hf.2 z.fit⟩
  by_cases g1 : opk (nd N i).f0 < 1
  · rw [if_pos g1]
    by_cases z1 : (nd N i).f2 = 0
    · rw [if_pos z1, if_pos (by omega)]
      by_cases z2 : (nd N i).f3 = 0
      · rw [if_pos z2, if_pos (by omega)]
        by_cases z3 : (nd N i).f4 = 0
        · rw [z3]
          exact yes (fun _ => z1) (fun _ => z2) (fun _ => z3)
        · simp only [bne_iff_ne.mpr z3, if_pos]
          exact no fun z => z3 (z.c0 (by omega))
      · rw [if_neg z2]
        exact no fun z => z2 (z.b0 (by omega))
    · rw [if_neg z1]
      exact no fun z => z1 (z.a0 g1)
  rw [if_neg g1]
  by_cases g2 : opk (nd N i).f0 < 2
  · rw [if_pos g2]
    by_cases z2 : (nd N i).f3 = 0
    · rw [if_pos z2, if_pos (by omega)]
      by_cases z3 : (nd N i).f4 = 0
      · rw [z3]
        exact yes (fun z => absurd z g1) (fun _ => z2) (fun _ => z3)
      · simp only [bne_iff_ne.mpr z3, if_pos]
        exact no fun z => z3 (z.c0 (by omega))
    · rw [if_neg z2]
      exact no fun z => z2 (z.b0 (by omega))
  rw [if_neg g2]
  by_cases g3 : opk (nd N i).f0 < 3
  · rw [if_pos g3]
    by_cases z3 : (nd N i).f4 = 0
    · rw [z3]
      exact yes (fun z => absurd z g1) (fun z => absurd z g2) (fun _ => z3)
    · simp only [bne_iff_ne.mpr z3, if_pos]
      exact no fun z => z3 (z.c0 (by omega))
  · rw [if_neg g3]
    exact yes (fun z => absurd z g1) (fun z => absurd z g2) (fun z => absurd z g3)
theorem drop_cons {α : Type} (l : List α) (d : α) (j : Nat) (h : j < l.length) : l.drop j = l.getD j d :: l.drop (j + 1) := by
  rw [List.drop_eq_getElem_cons h, List.getD_eq_getElem?_getD, List.getElem?_eq_getElem h]
  rfl
theorem pn_cons (l : List Pn) (j : Nat) (h : j < l.length) : l.drop j = pn l (j : Int) :: l.drop (j + 1) := drop_cons l _ j h
theorem cl_cons (l : List Cl) (j : Nat) (h : j < l.length) : l.drop j = cl l (j : Int) :: l.drop (j + 1) := drop_cons l _ j h
theorem pp_cons (l : List Pp) (j : Nat) (h : j < l.length) : l.drop j = pp l (j : Int) :: l.drop (j + 1) := drop_cons l _ j h
def frm (N : List Nd) (op : Int) : Nat → Nat → List Int
  | _, 0 => []
  | i, d + 1 => if (nd N (i : Int)).f0 = op then (i : Int) :: frm N op (i + 1) d else frm N op (i + 1) d
structure Small (N : List Nd) (I : List Pn) (C : List Cl) (P : List Pp) (Q : List Pn) : Prop where
  n : N.length ≤ 100000
  i : I.length ≤ 100000
  c : C.length ≤ 100000
  p : P.length ≤ 100000
  q : Q.length ≤ 100000
theorem great_f {N I C P Q} : ∃ b : Bool, w9_Great.f N I C P Q = some b ∧ (b = false → Small N I C P Q ∧ N.length ≤ 300) := by
  unfold w9_Great.f
  by_cases h1 : (N.length : Int) > 300
  · exact ⟨true, by rw [if_pos h1], by simp⟩
  rw [if_neg h1]
  by_cases h2 : (I.length : Int) > 100
  · exact ⟨true, by rw [if_pos h2], by simp⟩
  rw [if_neg h2]
  by_cases h3 : (C.length : Int) > 300
  · exact ⟨true, by rw [if_pos h3], by simp⟩
  rw [if_neg h3]
  by_cases h4 : (P.length : Int) > 40
  · exact ⟨true, by rw [if_pos h4], by simp⟩
  rw [if_neg h4]
  exact ⟨_, rfl, fun h => by have := of_decide_eq_false h; exact ⟨⟨by omega, by omega, by omega, by omega, by omega⟩, by omega⟩⟩
theorem pins_ev {N I C P Q} (s : Small N I C P Q) : ∃ b : Bool, Ev (fun k => r9_pins.f k N I C P Q) b ∧ (b = true ↔ I.map (·.f1) = frm N 21 0 N.length ∧ C.map (·.f1) = frm N 22 0 N.length) := by
  have loop : ∀ d (i a c : Nat), i + d = N.length → a ≤ I.length → c ≤ C.length → ∃ b : Bool, Ev (fun k => r9_pins.l0 k (a : Int) (c : Int) (i : Int) N I C P Q) b ∧ (b = true ↔ (I.drop a).map (·.f1) = frm N 21 i d ∧ (C.drop c).map (·.f1) = frm N 22 i d) := by
    have s1 := s.n
    have s2 := s.i
    have s3 := s.c
    intro d
    induction d with
    | zero =>
      intro i a c hi ha hc
      have z : ¬ ((i : Int) < (N.length : Int)) := by omega
      by_cases h1 : (a : Int) = (I.length : Int)
      · refine ⟨_, Ev.step (fun k => by simp only [r9_pins.l0]; rw [if_neg z, if_pos h1]) (Ev.now _), ?_⟩
        have e : a = I.length := by omega
        subst e
        simp [frm]
        omega
      · refine ⟨_, Ev.step (fun k => by simp only [r9_pins.l0]; rw [if_neg z, if_neg h1]) (Ev.now _), ?_⟩
        simp [frm]
        omega
    | succ d ih =>
      intro i a c hi ha hc
      have z : (i : Int) < (N.length : Int) := by omega
      have z0 : (0 : Int) ≤ (i : Int) := by omega
      have j1 : ∀ a' : Nat, a' ≤ I.length → ∃ b : Bool, Ev (fun k => r9_pins.j1 k (a' : Int) (c : Int) (i : Int) N I C P Q) b ∧ (b = true ↔ (I.drop a').map (·.f1) = frm N 21 (i + 1) d ∧ (C.drop c).map (·.f1) = frm N 22 i (d + 1)) := by
        intro a' ha'
        by_cases o : (nd N (i : Int)).f0 = 22
        · by_cases h2 : (c : Int) ≥ (C.length : Int)
          · refine ⟨_, Ev.step (fun k => by simp only [r9_pins.j1]; rw [if_pos z0, if_pos z, if_pos o, if_pos h2]) (Ev.now _), ?_⟩
            have e : C.drop c = [] := List.drop_eq_nil_of_le (by omega)
            rw [e]
            simp [frm, o]
          · have h3 : (c : Int) < (C.length : Int) := by omega
            rw [cl_cons C c (by omega)]
            simp only [frm, if_pos o, List.map_cons, List.cons.injEq]
            by_cases h4 : (cl C (c : Int)).f1 = (i : Int)
            · obtain ⟨b, hb, hf⟩ := ih (i + 1) a' (c + 1) (by omega) ha' (by omega)
              refine ⟨b, Ev.step (fun k => by simp only [r9_pins.j1]; rw [if_pos z0, if_pos z, if_pos o, if_neg h2, if_pos (by omega), if_pos h3, if_pos h4, succ64 (by omega), succ64 (by omega)]) hb, ?_⟩
              rw [hf]
              simp [h4]
            · refine ⟨_, Ev.step (fun k => by simp only [r9_pins.j1]; rw [if_pos z0, if_pos z, if_pos o, if_neg h2, if_pos (by omega), if_pos h3, if_neg h4]) (Ev.now _), ?_⟩
              simp [h4]
        · obtain ⟨b, hb, hf⟩ := ih (i + 1) a' c (by omega) ha' hc
          refine ⟨b, Ev.step (fun k => by simp only [r9_pins.j1]; rw [if_pos z0, if_pos z, if_neg o, succ64 (by omega)]) hb, ?_⟩
          rw [hf]
          simp [frm, o]
      by_cases o : (nd N (i : Int)).f0 = 21
      · by_cases h2 : (a : Int) ≥ (I.length : Int)
        · refine ⟨_, Ev.step (fun k => by simp only [r9_pins.l0]; rw [if_pos z, if_pos z0, if_pos o, if_pos h2]) (Ev.now _), ?_⟩
          have e : I.drop a = [] := List.drop_eq_nil_of_le (by omega)
          rw [e]
          simp [frm, o]
        · have h3 : (a : Int) < (I.length : Int) := by omega
          rw [pn_cons I a (by omega)]
          by_cases h4 : (pn I (a : Int)).f1 = (i : Int)
          · obtain ⟨b, hb, hf⟩ := j1 (a + 1) (by omega)
            refine ⟨b, Ev.step (fun k => by simp only [r9_pins.l0]; rw [if_pos z, if_pos z0, if_pos o, if_neg h2, if_pos (by omega), if_pos h3, if_pos h4, succ64 (by omega)]) hb, ?_⟩
            rw [hf]
            simp only [frm, if_pos o, List.map_cons, List.cons.injEq]
            simp [h4]
          · refine ⟨_, Ev.step (fun k => by simp only [r9_pins.l0]; rw [if_pos z, if_pos z0, if_pos o, if_neg h2, if_pos (by omega), if_pos h3, if_neg h4]) (Ev.now _), ?_⟩
            simp only [frm, if_pos o, List.map_cons, List.cons.injEq]
            simp [h4]
      · obtain ⟨b, hb, hf⟩ := j1 a ha
        refine ⟨b, Ev.step (fun k => by simp only [r9_pins.l0]; rw [if_pos z, if_pos z0, if_neg o]) hb, ?_⟩
        rw [hf]
        simp [frm, o]
  obtain ⟨b, hb, hf⟩ := loop N.length 0 0 0 (by omega) (by omega) (by omega)
  exact ⟨b, hb, by simpa using hf⟩
theorem frm_mem {N : List Nd} {op : Int} : ∀ (d i : Nat) (x : Int), x ∈ frm N op i d → (i : Int) ≤ x ∧ x < (i : Int) + d ∧ (nd N x).f0 = op := by
  intro d
  induction d with
  | zero => intro i x h; simp [frm] at h
  | succ d ih =>
    intro i x h
    simp only [frm] at h
    split at h
    · rcases List.mem_cons.1 h with rfl | h
      · exact ⟨by omega, by omega, by assumption⟩
      · have := ih _ _ h
        exact ⟨by omega, by omega, this.2.2⟩
    · have := ih _ _ h
      exact ⟨by omega, by omega, this.2.2⟩
def CellP (N : List Nd) (c : Cl) : Prop := wid N c.f2 N.length = (nd N c.f1).f1 ∧ 0 ≤ c.f3 ∧ c.f3 ≤ P2 (nd N c.f1).f1 - 1
def PropP (N : List Nd) (p : Pp) : Prop := 8 ≤ p.f0 ∧ p.f0 ≤ 10 ∧ wid N p.f2 N.length = 1
def wsum (N : List Nd) (l : List Cl) : Int := (l.map fun c => (nd N c.f1).f1).sum
structure RightP (N : List Nd) (I : List Pn) (C : List Cl) (P : List Pp) (Q : List Pn) : Prop where
  n : N.length ≤ 4000
  i : I.length ≤ 64
  c : C.length ≤ 256
  p : P.length ≤ 16
  nodes : ∀ j : Nat, j < N.length → NodeP N j
  ins : I.map (·.f1) = frm N 21 0 N.length
  cells : C.map (·.f1) = frm N 22 0 N.length
  cell : ∀ c ∈ C, CellP N c
  prop : ∀ p ∈ P, PropP N p
  name : ∀ q ∈ Q, wid N q.f1 N.length ≠ 0
  bits : wsum N C ≤ 256
theorem there_f {N I C P Q} {a : Int} : r9_there.f N I C P Q a = some (wid N a N.length) := by
  unfold r9_there.f
  rw [wide_f (by omega)]
  rfl
theorem l3_ev {N I C P Q} (s : Small N I C P Q) (x : Int) : ∀ d (j : Nat), j + d = Q.length → ∃ b : Bool, Ev (fun k => r9_Right.l3 k x (j : Int) N I C P Q) b ∧ (b = true ↔ (∀ q ∈ Q.drop j, wid N q.f1 N.length ≠ 0) ∧ x ≤ 256) := by
  have s1 := s.q
  intro d
  induction d with
  | zero =>
    intro j hj
    have z : ¬ ((j : Int) < (Q.length : Int)) := by omega
    refine ⟨_, Ev.step (fun k => by simp only [r9_Right.l3]; rw [if_neg z]) (Ev.now _), ?_⟩
    rw [List.drop_eq_nil_of_le (by omega)]
    simp
  | succ d ih =>
    intro j hj
    have z : (j : Int) < (Q.length : Int) := by omega
    rw [pn_cons Q j (by omega)]
    by_cases h : wid N (pn Q (j : Int)).f1 N.length = 0
    · refine ⟨_, Ev.step (fun k => by simp only [r9_Right.l3]; rw [if_pos z, if_pos (by omega), there_f, Option.bind_some, if_pos h]) (Ev.now _), ?_⟩
      simp [h]
    · obtain ⟨b, hb, hf⟩ := ih (j + 1) (by omega)
      refine ⟨b, Ev.step (fun k => by simp only [r9_Right.l3]; rw [if_pos z, if_pos (by omega), there_f, Option.bind_some, if_neg h, succ64 (by omega)]) hb, ?_⟩
      rw [hf]
      simp [h]
theorem l2_ev {N I C P Q} (s : Small N I C P Q) (x : Int) : ∀ d (j : Nat), j + d = P.length → ∃ b : Bool, Ev (fun k => r9_Right.l2 k x (j : Int) N I C P Q) b ∧ (b = true ↔ (∀ p ∈ P.drop j, PropP N p) ∧ (∀ q ∈ Q, wid N q.f1 N.length ≠ 0) ∧ x ≤ 256) := by
  have s1 := s.p
  intro d
  induction d with
  | zero =>
    intro j hj
    have z : ¬ ((j : Int) < (P.length : Int)) := by omega
    obtain ⟨b, hb, hf⟩ := l3_ev s x Q.length 0 (by omega)
    refine ⟨b, Ev.step (fun k => by simp only [r9_Right.l2]; exact if_neg z) hb, ?_⟩
    rw [List.drop_eq_nil_of_le (by omega)]
    simpa using hf
  | succ d ih =>
    intro j hj
    have z : (j : Int) < (P.length : Int) := by omega
    rw [pp_cons P j (by omega)]
    have no : ∀ b : Bool, b = false → ¬ PropP N (pp P (j : Int)) → (b = true ↔ (∀ p ∈ pp P (j : Int) :: P.drop (j + 1), PropP N p) ∧ (∀ q ∈ Q, wid N q.f1 N.length ≠ 0) ∧ x ≤ 256) := fun b hb hn => by subst hb; simp [hn]
    have j5 : Ev (fun k => r9_Right.j5 k x (j : Int) true N I C P Q) false := Ev.step (fun k => by simp only [r9_Right.j5]; rw [if_pos trivial]) (Ev.now _)
    by_cases h1 : (pp P (j : Int)).f0 < 8
    · exact ⟨false, Ev.step (fun k => by simp only [r9_Right.l2]; rw [if_pos z, if_pos (by omega), if_pos h1]) j5, no _ rfl (fun q => by have := q.1; omega)⟩
    by_cases h2 : (pp P (j : Int)).f0 > 10
    · exact ⟨false, Ev.step (fun k => by simp only [r9_Right.l2]; rw [if_pos z, if_pos (by omega), if_neg h1, if_pos h2]) j5, no _ rfl (fun q => by have := q.2.1; omega)⟩
    by_cases h3 : wid N (pp P (j : Int)).f2 N.length = 1
    · obtain ⟨b, hb, hf⟩ := ih (j + 1) (by omega)
      have j5' : Ev (fun k => r9_Right.j5 k x (j : Int) false N I C P Q) b := Ev.step (fun k => by simp only [r9_Right.j5]; rw [if_neg (by decide), succ64 (by omega)]) hb
      refine ⟨b, Ev.step (fun k => by simp only [r9_Right.l2]; rw [if_pos z, if_pos (by omega), if_neg h1, if_neg h2, there_f, Option.bind_some, bne_eq_false_iff_eq.mpr h3]) j5', ?_⟩
      rw [hf]
      have : PropP N (pp P (j : Int)) := ⟨by omega, by omega, h3⟩
      simp [this]
    · refine ⟨false, Ev.step (fun k => by simp only [r9_Right.l2]; rw [if_pos z, if_pos (by omega), if_neg h1, if_neg h2, there_f, Option.bind_some, bne_iff_ne.mpr h3]) j5, no _ rfl (fun q => h3 q.2.2)⟩
theorem rmask_le {x : Int} (h : 1 ≤ x ∧ x ≤ 16) : r8_Mask.f x = some (P2 x - 1) := rmask_f (by omega) (by omega)
theorem l1_ev {N I C P Q} (s : Small N I C P Q) (hn : ∀ j : Nat, j < N.length → NodeP N j) (hc : C.map (·.f1) = frm N 22 0 N.length) : ∀ d (j : Nat) (x : Int), j + d = C.length → 0 ≤ x → x ≤ 16 * j → ∃ b : Bool, Ev (fun k => r9_Right.l1 k x (j : Int) N I C P Q) b ∧ (b = true ↔ (∀ c ∈ C.drop j, CellP N c) ∧ (∀ p ∈ P, PropP N p) ∧ (∀ q ∈ Q, wid N q.f1 N.length ≠ 0) ∧ x + wsum N (C.drop j) ≤ 256) := by
  have s1 := s.c
  intro d
  induction d with
  | zero =>
    intro j x hj hx hx2
    have z : ¬ ((j : Int) < (C.length : Int)) := by omega
    obtain ⟨b, hb, hf⟩ := l2_ev s x P.length 0 (by omega)
    refine ⟨b, Ev.step (fun k => by simp only [r9_Right.l1]; exact if_neg z) hb, ?_⟩
    rw [List.drop_eq_nil_of_le (by omega)]
    simpa [wsum] using hf
  | succ d ih =>
    intro j x hj hx hx2
    have z : (j : Int) < (C.length : Int) := by omega
    have hm : (cl C (j : Int)).f1 ∈ frm N 22 0 N.length := by
      rw [← hc]
      refine List.mem_map.2 ⟨_, ?_, rfl⟩
      have := cl_cons C j (by omega)
      exact List.mem_of_mem_drop (by rw [this]; exact List.mem_cons_self)
    obtain ⟨m0', m1, -⟩ := frm_mem _ _ _ hm
    have m0 : 0 ≤ (cl C (j : Int)).f1 := m0'
    rw [cl_cons C j (by omega)]
    generalize hcc0 : cl C (j : Int) = c at *
    have hcc : rd_T43 C (j : Int) = c := hcc0
    have hw := hn c.f1.toNat (by omega)
    have e0 : ((c.f1.toNat : Nat) : Int) = c.f1 := by omega
    rw [e0] at hw
    have w1 := hw.w1
    have w16 := hw.w16
    have hx' : wrap64 (x + (nd N c.f1).f1) = x + (nd N c.f1).f1 := w64 (by omega) (by omega)
    have no : ¬ CellP N c → (false = true ↔ (∀ d ∈ c :: C.drop (j + 1), CellP N d) ∧ (∀ p ∈ P, PropP N p) ∧ (∀ q ∈ Q, wid N q.f1 N.length ≠ 0) ∧ x + wsum N (c :: C.drop (j + 1)) ≤ 256) := fun h => by simp [h]
    have j3 : ∀ y, Ev (fun k => r9_Right.j3 k y (j : Int) true N I C P Q) false := fun y => Ev.step (fun k => by simp only [r9_Right.j3]; rw [if_pos trivial]) (Ev.now _)
    by_cases h1 : wid N c.f2 N.length = (nd N c.f1).f1
    · by_cases h2 : c.f3 < 0
      · exact ⟨false, Ev.step (fun k => by simp only [r9_Right.l1]; rw [if_pos z, if_pos (by omega), hcc, if_pos m0, if_pos (by omega), there_f, Option.bind_some, if_pos h1, if_pos h2]) (j3 _), no fun q => by have := q.2.1; omega⟩
      · by_cases h3 : c.f3 > P2 (nd N c.f1).f1 - 1
        · exact ⟨false, Ev.step (fun k => by simp only [r9_Right.l1]; rw [if_pos z, if_pos (by omega), hcc, if_pos m0, if_pos (by omega), there_f, Option.bind_some, if_pos h1, if_neg h2, rmask_le ⟨w1, w16⟩, Option.bind_some, decide_eq_true h3]) (j3 _), no fun q => by have := q.2.2; omega⟩
        · obtain ⟨b, hb, hf⟩ := ih (j + 1) (x + (nd N c.f1).f1) (by omega) (by omega) (by omega)
          have j3' : Ev (fun k => r9_Right.j3 k (x + (nd N c.f1).f1) (j : Int) false N I C P Q) b := Ev.step (fun k => by simp only [r9_Right.j3]; rw [if_neg (by decide), succ64 (by omega)]) hb
          refine ⟨b, Ev.step (fun k => by simp only [r9_Right.l1]; rw [if_pos z, if_pos (by omega), hcc, if_pos m0, if_pos (by omega), there_f, Option.bind_some, if_pos h1, if_neg h2, rmask_le ⟨w1, w16⟩, Option.bind_some, decide_eq_false h3, hx']) j3', ?_⟩
          rw [hf]
          have : CellP N c := ⟨h1, by omega, by omega⟩
          simp only [List.mem_cons, forall_eq_or_imp, this, true_and, wsum, List.map_cons, List.sum_cons, Int.add_assoc]
    · exact ⟨false, Ev.step (fun k => by simp only [r9_Right.l1]; rw [if_pos z, if_pos (by omega), hcc, if_pos m0, if_pos (by omega), there_f, Option.bind_some, if_neg h1]) (j3 _), no fun q => h1 q.1⟩
theorem l0_ev {N I C P Q} (s : Small N I C P Q) : ∀ d (j : Nat), j + d = N.length → (∀ i : Nat, i < j → NodeP N i) → ∃ b : Bool, Ev (fun k => r9_Right.l0 k (j : Int) N I C P Q) b ∧ (b = true ↔ (∀ i : Nat, i < N.length → NodeP N i) ∧ (I.map (·.f1) = frm N 21 0 N.length ∧ C.map (·.f1) = frm N 22 0 N.length) ∧ (∀ c ∈ C, CellP N c) ∧ (∀ p ∈ P, PropP N p) ∧ (∀ q ∈ Q, wid N q.f1 N.length ≠ 0) ∧ wsum N C ≤ 256) := by
  have s1 := s.n
  intro d
  induction d with
  | zero =>
    intro j hj hn
    have z : ¬ ((j : Int) < (N.length : Int)) := by omega
    have hn' : ∀ i : Nat, i < N.length → NodeP N i := fun i hi => hn i (by omega)
    obtain ⟨b, hb, hf⟩ := pins_ev (P := P) (Q := Q) s
    have st : ∀ r, Ev (fun k => (r9_pins.f k N I C P Q).bind fun t => if t = true then r9_Right.l1 k 0 0 N I C P Q else some false) r → Ev (fun k => r9_Right.l0 k (j : Int) N I C P Q) r := fun r h => Ev.step (fun k => by simp only [r9_Right.l0]; rw [if_neg z]) h
    cases b with
    | false =>
      refine ⟨false, st _ (Ev.bind (f := fun k t => if t = true then r9_Right.l1 k 0 0 N I C P Q else some false) hb (Ev.ite_neg (by decide) (Ev.now _))), ?_⟩
      have : ¬ (I.map (·.f1) = frm N 21 0 N.length ∧ C.map (·.f1) = frm N 22 0 N.length) := fun q => by have := hf.2 q; simp at this
      simp [this]
    | true =>
      have hp := hf.1 rfl
      obtain ⟨b, hb2, hf2⟩ := l1_ev (I := I) s hn' hp.2 C.length 0 0 (by omega) (by omega) (by omega)
      refine ⟨b, st _ (Ev.bind (f := fun k t => if t = true then r9_Right.l1 k 0 0 N I C P Q else some false) hb (Ev.ite_pos rfl hb2)), ?_⟩
      rw [hf2]
      simp only [hp, List.drop_zero, Int.zero_add, true_and, and_true]
      exact ⟨fun q => ⟨hn', q⟩, fun q => q.2⟩
  | succ d ih =>
    intro j hj hn
    have z : (j : Int) < (N.length : Int) := by omega
    obtain ⟨b, hb, hf⟩ := node_f (I := I) (C := C) (P := P) (Q := Q) (i := j) (by omega) hn 0
    have hb' : Ev (fun k => r9_node.f k N I C P Q (j : Int)) b := Ev.of (fun k => r9_node.mono _ _ _ _ _ _ k) hb
    have st : ∀ r, Ev (fun k => (r9_node.f k N I C P Q (j : Int)).bind fun t => if t = true then r9_Right.l0 k (((j + 1 : Nat)) : Int) N I C P Q else some false) r → Ev (fun k => r9_Right.l0 k (j : Int) N I C P Q) r := fun r h => Ev.step (fun k => by simp only [r9_Right.l0]; rw [if_pos z, succ64 (i := j) (by omega)]) h
    cases b with
    | false =>
      refine ⟨false, st _ (Ev.bind (f := fun k t => if t = true then r9_Right.l0 k (((j + 1 : Nat)) : Int) N I C P Q else some false) hb' (Ev.ite_neg (by decide) (Ev.now _))), ?_⟩
      have : ¬ (∀ i : Nat, i < N.length → NodeP N i) := fun q => by have := hf.2 (q j (by omega)); simp at this
      simp [this]
    | true =>
      obtain ⟨b, hb2, hf2⟩ := ih (j + 1) (by omega) (fun i hi => by
        rcases Nat.lt_or_ge i j with h | h
        · exact hn i h
        · obtain rfl : i = j := by omega
          exact hf.1 rfl)
      exact ⟨b, st _ (Ev.bind (f := fun k t => if t = true then r9_Right.l0 k (((j + 1 : Nat)) : Int) N I C P Q else some false) hb' (Ev.ite_pos rfl hb2)), hf2⟩
theorem right_ev {N I C P Q} (s : Small N I C P Q) : ∃ b : Bool, Ev (fun k => r9_Right.f k N I C P Q) b ∧ (b = true ↔ RightP N I C P Q) := by
  have s1 := s.n
  unfold r9_Right.f
  have j0 : Ev (fun k => r9_Right.j0 k true N I C P Q) false := Ev.step (fun k => by simp only [r9_Right.j0]; rw [if_pos trivial]) (Ev.now _)
  by_cases h1 : (N.length : Int) > 4000
  · exact ⟨false, Ev.ite_pos h1 j0, by simp; intro q; have := q.n; omega⟩
  by_cases h2 : (I.length : Int) > 64
  · exact ⟨false, Ev.ite_neg h1 (Ev.ite_pos h2 j0), by simp; intro q; have := q.i; omega⟩
  by_cases h3 : (C.length : Int) > 256
  · exact ⟨false, Ev.ite_neg h1 (Ev.ite_neg h2 (Ev.ite_pos h3 j0)), by simp; intro q; have := q.c; omega⟩
  by_cases h4 : (P.length : Int) > 16
  · refine ⟨false, Ev.ite_neg h1 (Ev.ite_neg h2 (Ev.ite_neg h3 ?_)), by simp; intro q; have := q.p; omega⟩
    rw [decide_eq_true h4]
    exact j0
  · obtain ⟨b, hb, hf⟩ := l0_ev s N.length 0 (by omega) (fun i hi => by omega)
    refine ⟨b, Ev.ite_neg h1 (Ev.ite_neg h2 (Ev.ite_neg h3 ?_)), ?_⟩
    · rw [decide_eq_false h4]
      exact Ev.step (fun k => by simp only [r9_Right.j0]; exact if_neg (by decide)) hb
    · rw [hf]
      exact ⟨fun ⟨q1, q2, q3, q4, q5, q6⟩ => ⟨by omega, by omega, by omega, by omega, q1, q2.1, q2.2, q3, q4, q5, q6⟩, fun q => ⟨q.nodes, ⟨q.ins, q.cells⟩, q.cell, q.prop, q.name, q.bits⟩⟩
end Go.Proofs.Yteblbknmikieoaa.P9
