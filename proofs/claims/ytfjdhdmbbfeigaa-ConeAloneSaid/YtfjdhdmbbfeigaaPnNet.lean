/- Nets, told plainly: when the document's Right says that a net is right, and what it says then. -/
import Derived.Test.YtfjdhdmbbfeigaaPnBl5
namespace Go.Proofs.Ytfjdhdmbbfeigaa.Am
set_option linter.unusedVariables false
set_option linter.unusedSimpArgs false
theorem rmask_f {n : Nat} {k : Int} (h0 : 0 ≤ k) (h1 : k ≤ 62) : ref08_Mask n k = some (P2 k - 1, ()) := by
  have h2 := p2_62 h1
  have h3 := p2_pos k
  unfold ref08_Mask
  rw [ask_of h0, shl_p2 h1 (by omega) (by omega), Int.one_mul, w64 (by omega) (by omega)]
abbrev Nd := Kiiiiiii
abbrev Pn := Ksi
abbrev Cl := Ksiii
abbrev Pw := Kisi
/-- The width of a node, if it stands ahead of a place; else 0. -/
def wid (N : List Nd) (a of : Int) : Int := if a < 0 ∨ of ≤ a then 0 else (Kiiiiiii_at N a).2.1
/-- How many operands an op has; -1: it is none. -/
def opk (x : Int) : Int := if x = 1 ∨ x = 21 ∨ x = 22 then 0 else if x = 3 ∨ x = 4 ∨ x = 5 ∨ x = 18 then 1 else if (6 ≤ x ∧ x ≤ 15) ∨ x = 17 then 2 else if x = 16 then 3 else -1
/-- The fields of a node fit, its operands being so wide. -/
def FitP (x : Nd) (a b c : Int) : Prop :=
  (x.1 = 1 ∧ 0 ≤ x.2.2.2.2.2.1 ∧ x.2.2.2.2.2.1 ≤ P2 x.2.1 - 1 ∧ x.2.2.2.2.2.2 = 0) ∨ ((x.1 = 21 ∨ x.1 = 22) ∧ x.2.2.2.2.2.1 = 0 ∧ x.2.2.2.2.2.2 = 0) ∨ (x.1 = 3 ∧ x.2.2.2.2.2.1 = 0 ∧ x.2.2.2.2.2.2 = 0 ∧ a = x.2.1) ∨ ((x.1 = 4 ∨ x.1 = 5) ∧ x.2.2.2.2.2.1 = 0 ∧ x.2.1 = 1 ∧ a = x.2.2.2.2.2.2 ∧ 0 < a) ∨
  ((6 ≤ x.1 ∧ x.1 ≤ 11) ∧ x.2.2.2.2.2.1 = 0 ∧ x.2.2.2.2.2.2 = 0 ∧ a = x.2.1 ∧ b = x.2.1) ∨ ((12 ≤ x.1 ∧ x.1 ≤ 15) ∧ x.2.2.2.2.2.1 = 0 ∧ x.2.1 = 1 ∧ a = x.2.2.2.2.2.2 ∧ b = x.2.2.2.2.2.2 ∧ 0 < a) ∨ (x.1 = 16 ∧ x.2.2.2.2.2.1 = 0 ∧ x.2.2.2.2.2.2 = 0 ∧ a = 1 ∧ b = x.2.1 ∧ c = x.2.1) ∨
  (x.1 = 17 ∧ x.2.2.2.2.2.1 = 0 ∧ x.2.2.2.2.2.2 = 0 ∧ 0 < a ∧ 0 < b ∧ a + b = x.2.1) ∨ (x.1 = 18 ∧ 0 ≤ x.2.2.2.2.2.2 ∧ x.2.2.2.2.2.2 ≤ x.2.2.2.2.2.1 ∧ x.2.2.2.2.2.1 < a ∧ x.2.1 = x.2.2.2.2.2.1 - x.2.2.2.2.2.2 + 1)
/-- A node is right, those ahead of it being so. -/
structure NodeP (N : List Nd) (i : Int) : Prop where
  w1 : 1 ≤ (Kiiiiiii_at N i).2.1
  w16 : (Kiiiiiii_at N i).2.1 ≤ 16
  op : 0 ≤ opk (Kiiiiiii_at N i).1
  a0 : opk (Kiiiiiii_at N i).1 < 1 → (Kiiiiiii_at N i).2.2.1 = 0
  b0 : opk (Kiiiiiii_at N i).1 < 2 → (Kiiiiiii_at N i).2.2.2.1 = 0
  c0 : opk (Kiiiiiii_at N i).1 < 3 → (Kiiiiiii_at N i).2.2.2.2.1 = 0
  fit : FitP (Kiiiiiii_at N i) (wid N (Kiiiiiii_at N i).2.2.1 i) (wid N (Kiiiiiii_at N i).2.2.2.1 i) (wid N (Kiiiiiii_at N i).2.2.2.2.1 i)
theorem wide_f {n : Nat} {N I C P Q} {a b : Int} (hb : b ≤ N.length) : ref09_wide n N I C P Q a b = some (wid N a b, ()) := by
  unfold ref09_wide wid
  simp only [cond_dec, ask_if]
  grind
theorem wid_le {N : List Nd} {i : Nat} (h : ∀ j : Nat, j < i → NodeP N j) (a : Int) : 0 ≤ wid N a i ∧ wid N a i ≤ 16 := by
  unfold wid
  split
  · omega
  · have := h a.toNat (by omega)
    have e : ((a.toNat : Nat) : Int) = a := by omega
    rw [e] at this
    exact ⟨by have := this.w1; omega, this.w16⟩
theorem operands_f {n : Nat} (x : Int) : ref09_operands n x = some (opk x, ()) := by
  by_cases h : x = 1 ∨ x = 21 ∨ x = 22 ∨ x = 3 ∨ x = 4 ∨ x = 5 ∨ x = 18 ∨ x = 6 ∨ x = 7 ∨ x = 8 ∨ x = 9 ∨ x = 10 ∨ x = 11 ∨ x = 12 ∨ x = 13 ∨ x = 14 ∨ x = 15 ∨ x = 17 ∨ x = 16
  · rcases h with rfl | rfl | rfl | rfl | rfl | rfl | rfl | rfl | rfl | rfl | rfl | rfl | rfl | rfl | rfl | rfl | rfl | rfl | rfl <;> rfl
  · simp only [not_or] at h
    have e : opk x = -1 := by unfold opk; (repeat' split) <;> omega
    rw [e]
    unfold ref09_operands
    simp [h]
theorem opk_cases {x : Int} (h : 0 ≤ opk x) : x = 1 ∨ x = 21 ∨ x = 22 ∨ x = 3 ∨ x = 4 ∨ x = 5 ∨ x = 18 ∨ x = 6 ∨ x = 7 ∨ x = 8 ∨ x = 9 ∨ x = 10 ∨ x = 11 ∨ x = 12 ∨ x = 13 ∨ x = 14 ∨ x = 15 ∨ x = 17 ∨ x = 16 := by
  unfold opk at h
  repeat' split at h
  all_goals omega
/-- What the fields' test comes to, its op being one. -/
theorem fits_f {n : Nat} {N I C P Q} {i : Nat} (hi : i < N.length) (h : ∀ j : Nat, j < i → NodeP N j) (w1 : 1 ≤ (Kiiiiiii_at N i).2.1) (w16 : (Kiiiiiii_at N i).2.1 ≤ 16) (op : 0 ≤ opk (Kiiiiiii_at N i).1) :
    ∃ b : Bool, ref09_fits n N I C P Q (i : Int) = some (b, ()) ∧ (b = true ↔ FitP (Kiiiiiii_at N i) (wid N (Kiiiiiii_at N i).2.2.1 i) (wid N (Kiiiiiii_at N i).2.2.2.1 i) (wid N (Kiiiiiii_at N i).2.2.2.2.1 i)) := by
  have ha := wid_le h (Kiiiiiii_at N i).2.2.1
  have hb := wid_le h (Kiiiiiii_at N i).2.2.2.1
  have hc := wid_le h (Kiiiiiii_at N i).2.2.2.2.1
  have hp := p2_16 w16
  unfold ref09_fits ref09_fits_j1 ref09_fits_j2 ref09_fits_j3
  rw [ask_of (by omega), wide_f (by omega), wide_f (by omega), wide_f (by omega), rmask_f (by omega) (by omega)]
  simp only [bindS]
  generalize wid N (Kiiiiiii_at N i).2.2.1 i = a at *
  generalize wid N (Kiiiiiii_at N i).2.2.2.1 i = b at *
  generalize wid N (Kiiiiiii_at N i).2.2.2.2.1 i = c at *
  change ∃ b : Bool, _ ∧ (b = true ↔ FitP (Kiiiiiii_at N i) _ _ _)
  generalize Kiiiiiii_at N i = x at *
  have hw : IntKind.wrap .i64 (a + b) = a + b := w64 (by omega) (by omega)
  unfold FitP
  rw [hw]
  rcases opk_cases op with o | o | o | o | o | o | o | o | o | o | o | o | o | o | o | o | o | o | o
  case inr.inr.inr.inr.inr.inr.inl =>
    have hs : 0 ≤ x.2.2.2.2.2.2 → x.2.2.2.2.2.2 ≤ x.2.2.2.2.2.1 → x.2.2.2.2.2.1 < a → IntKind.wrap .i64 (IntKind.wrap .i64 (x.2.2.2.2.2.1 - x.2.2.2.2.2.2) + 1) = x.2.2.2.2.2.1 - x.2.2.2.2.2.2 + 1 := fun h1 h2 h3 => by
      rw [w64 (n := x.2.2.2.2.2.1 - x.2.2.2.2.2.2) (by omega) (by omega), w64 (by omega) (by omega)]
    simp only [o, cond_dec, cond_if, ite_bind, bindS]
    by_cases h1 : 0 ≤ x.2.2.2.2.2.2 <;> by_cases h2 : x.2.2.2.2.2.2 ≤ x.2.2.2.2.2.1 <;> by_cases h3 : x.2.2.2.2.2.1 < a <;> simp [h1, h2, h3] <;> grind
  all_goals simp only [o, cond_dec, cond_if, ite_bind, bindS]
  all_goals simp
  all_goals (repeat' split)
  all_goals simp_all
  all_goals omega
theorem node_f {n : Nat} {N I C P Q} {i : Nat} (hi : i < N.length) (h : ∀ j : Nat, j < i → NodeP N j) :
    ∃ b : Bool, ref09_node n N I C P Q (i : Int) = some (b, ()) ∧ (b = true ↔ NodeP N i) := by
  unfold ref09_node
  rw [ask_of (by omega), operands_f, bindS]
  simp only [cond_dec]
  have no : ¬ NodeP N i → ∃ b : Bool, some (false, ()) = some (b, ()) ∧ (b = true ↔ NodeP N i) := fun z => ⟨false, rfl, by simp [z]⟩
  by_cases h1 : (Kiiiiiii_at N i).2.1 < 1
  · rw [if_pos h1]
    exact no fun z => by have := z.w1; omega
  rw [if_neg h1]
  by_cases h2 : (Kiiiiiii_at N i).2.1 > 16
  · rw [if_pos h2]
    exact no fun z => by have := z.w16; omega
  rw [if_neg h2]
  by_cases h3 : opk (Kiiiiiii_at N i).1 < 0
  · rw [if_pos h3]
    exact no fun z => by have := z.op; omega
  rw [if_neg h3]
  obtain ⟨b, hb, hf⟩ := fits_f (n := n) (I := I) (C := C) (P := P) (Q := Q) hi h (by omega) (by omega) (by omega)
  simp only [hb, bindS]
  by_cases z : (opk (Kiiiiiii_at N i).1 < 1 → (Kiiiiiii_at N i).2.2.1 = 0) ∧ (opk (Kiiiiiii_at N i).1 < 2 → (Kiiiiiii_at N i).2.2.2.1 = 0) ∧ (opk (Kiiiiiii_at N i).1 < 3 → (Kiiiiiii_at N i).2.2.2.2.1 = 0)
  · refine ⟨b, ?_, fun q => ⟨by omega, by omega, by omega, z.1, z.2.1, z.2.2, hf.1 q⟩, fun q => hf.2 q.fit⟩
    grind
  · refine ⟨false, ?_, by simp; exact fun q => z ⟨q.a0, q.b0, q.c0⟩⟩
    grind
/-- The places of an op's nodes, d places from one on. -/
def frm (N : List Nd) (op : Int) : Nat → Nat → List Int
  | _, 0 => []
  | i, d + 1 => if (Kiiiiiii_at N (i : Int)).1 = op then (i : Int) :: frm N op (i + 1) d else frm N op (i + 1) d
/-- A net's lists are of no great length. -/
structure Small (N : List Nd) (I : List Pn) (C : List Cl) (P : List Pw) (Q : List Pn) : Prop where
  n : N.length ≤ 301
  i : I.length ≤ 100
  c : C.length ≤ 300
  p : P.length ≤ 41
  q : Q.length ≤ 300
theorem great_f {n : Nat} {N I C P Q} : ∃ b : Bool, law09_Great n N I C P Q = some (b, ()) ∧ (b = false → Small N I C P Q) := by
  unfold law09_Great
  simp only [cond_dec]
  by_cases h1 : 300 < (N.length : Int)
  · exact ⟨true, by rw [if_pos h1], by simp⟩
  rw [if_neg h1]
  by_cases h2 : 100 < (I.length : Int)
  · exact ⟨true, by rw [if_pos h2], by simp⟩
  rw [if_neg h2]
  by_cases h3 : 300 < (C.length : Int)
  · exact ⟨true, by rw [if_pos h3], by simp⟩
  rw [if_neg h3]
  by_cases h4 : 40 < (P.length : Int)
  · exact ⟨true, by rw [if_pos h4], by simp⟩
  rw [if_neg h4]
  exact ⟨_, rfl, fun h => by have := of_decide_eq_false h; exact ⟨by omega, by omega, by omega, by omega, by omega⟩⟩
theorem drop_all {α : Type} (l : List α) {n : Nat} (h : l.length ≤ n) : l.drop n = [] := List.drop_eq_nil_of_le h
theorem drop_cons {t : Ty} (l : List t.D) (j : Nat) (h : j < l.length) : l.drop j = at_ t l (j : Int) :: l.drop (j + 1) := by
  rw [List.drop_eq_getElem_cons h, at_nat h]
theorem pn_cons (l : List Pn) (j : Nat) (h : j < l.length) : l.drop j = Ksi_at l (j : Int) :: l.drop (j + 1) := drop_cons (t := Ksi_) l j h
theorem cl_cons (l : List Cl) (j : Nat) (h : j < l.length) : l.drop j = Ksiii_at l (j : Int) :: l.drop (j + 1) := drop_cons (t := Ksiii_) l j h
theorem pw_cons (l : List Pw) (j : Nat) (h : j < l.length) : l.drop j = Kisi_at l (j : Int) :: l.drop (j + 1) := drop_cons (t := Kisi_) l j h
theorem pins_f {n : Nat} {N I C P Q} (s : Small N I C P Q) (hn : 1000 < n) : ∃ b : Bool, ref09_pins n N I C P Q = some (b, ()) ∧ (b = true ↔ I.map (·.2) = frm N 21 0 N.length ∧ C.map (·.2.1) = frm N 22 0 N.length) := by
  have s1 := s.n
  have s2 := s.i
  have s3 := s.c
  unfold ref09_pins ref09_pins_l2
  generalize hK : (Sum.elim (fun d10 : Bool × Unit => some (d10.1, ())) fun d11 : Int × Int × Unit => cond (decide (d11.1 = (I.length : Int))) (some (decide (d11.2.1 = (C.length : Int)), ())) (some (false, ()))) = K
  have K1 : K (.inl (false, ())) = some (false, ()) := by rw [← hK]; rfl
  have loop : ∀ d (i a c m : Nat), i + d = N.length → a ≤ I.length → c ≤ C.length → d < m → ∃ b : Bool, (iter (ref09_pins_l2b n N I C) m ((a : Int), (c : Int), (i : Int), ())).bind K = some (b, ()) ∧ (b = true ↔ (I.drop a).map (·.2) = frm N 21 i d ∧ (C.drop c).map (·.2.1) = frm N 22 i d) := by
    intro d
    induction d with
    | zero =>
      intro i a c m hi ha hc hm
      obtain ⟨m, rfl⟩ : ∃ k, m = k + 1 := ⟨m - 1, by omega⟩
      rw [iter_s]
      unfold ref09_pins_l2b
      have z : ¬ ((i : Int) < (N.length : Int)) := by omega
      simp only [cond_dec, if_neg z, bindS, ← hK, Sum.elim_inr, frm, List.map_eq_nil_iff, List.drop_eq_nil_iff]
      by_cases h1 : (a : Int) = (I.length : Int)
      · rw [if_pos h1]
        exact ⟨_, rfl, by simp; omega⟩
      · rw [if_neg h1]
        exact ⟨_, rfl, by simp; omega⟩
    | succ d ih =>
      intro i a c m hi ha hc hm
      obtain ⟨m, rfl⟩ : ∃ k, m = k + 1 := ⟨m - 1, by omega⟩
      have z : (i : Int) < (N.length : Int) := by omega
      have ih' := fun i a c h1 h2 h3 => ih i a c m h1 h2 h3 (by omega)
      rw [iter_s]
      generalize iter (ref09_pins_l2b n N I C) m = self at ih' ⊢
      unfold ref09_pins_l2b ref09_pins_j1
      simp only [cond_dec, if_pos z, ask_if, Int.natCast_nonneg, true_and]
      -- a state's own cell
      have j1 : ∀ a' : Nat, a' ≤ I.length → ∃ b : Bool, (if (Kiiiiiii_at N (i : Int)).1 = 22 then if (C.length : Int) ≤ (c : Int) then some (.inl (false, ())) else if (c : Int) < (C.length : Int) then if (Ksiii_at C (c : Int)).2.1 ≠ (i : Int) then some (.inl (false, ())) else self ((a' : Int), IntKind.wrap .i64 ((c : Int) + 1), IntKind.wrap .i64 ((i : Int) + 1), ()) else none else self ((a' : Int), (c : Int), IntKind.wrap .i64 ((i : Int) + 1), ())).bind K = some (b, ()) ∧ (b = true ↔ (I.drop a').map (·.2) = frm N 21 (i + 1) d ∧ (C.drop c).map (·.2.1) = frm N 22 i (d + 1)) := by
        intro a' ha'
        rw [succ64 (by omega), succ64 (by omega)]
        by_cases o : (Kiiiiiii_at N (i : Int)).1 = 22
        · rw [if_pos o]
          by_cases h2 : (C.length : Int) ≤ (c : Int)
          · rw [if_pos h2, bindS, K1]
            refine ⟨_, rfl, ?_⟩
            rw [drop_all C (by omega)]
            simp [frm, o]
          · rw [if_neg h2, if_pos (by omega), cl_cons C c (by omega)]
            simp only [frm, if_pos o, List.map_cons, List.cons.injEq]
            by_cases h4 : (Ksiii_at C (c : Int)).2.1 = (i : Int)
            · rw [if_neg (by omega)]
              obtain ⟨b, hb, hf⟩ := ih' (i + 1) a' (c + 1) (by omega) ha' (by omega)
              exact ⟨b, hb, by rw [hf]; simp [h4]⟩
            · rw [if_pos h4, bindS, K1]
              exact ⟨_, rfl, by simp [h4]⟩
        · rw [if_neg o]
          obtain ⟨b, hb, hf⟩ := ih' (i + 1) a' c (by omega) ha' hc
          exact ⟨b, hb, by rw [hf]; simp [frm, o]⟩
      by_cases o : (Kiiiiiii_at N (i : Int)).1 = 21
      · rw [if_pos o]
        by_cases h2 : (I.length : Int) ≤ (a : Int)
        · rw [if_pos h2]
          simp only [bindS, Sum.elim_inl, K1]
          refine ⟨_, rfl, ?_⟩
          rw [drop_all I (by omega)]
          simp [frm, o]
        · rw [if_neg h2, if_pos (by omega), pn_cons I a (by omega)]
          have e21 : frm N 21 i (d + 1) = (i : Int) :: frm N 21 (i + 1) d := by simp [frm, o]
          rw [e21]
          simp only [List.map_cons, List.cons.injEq]
          by_cases h4 : (Ksi_at I (a : Int)).2 = (i : Int)
          · rw [if_neg (by omega), succ64 (by omega)]
            simp only [bindS, Sum.elim_inr]
            obtain ⟨b, hb, hf⟩ := j1 (a + 1) (by omega)
            exact ⟨b, hb, by rw [hf]; simp [h4]⟩
          · rw [if_pos h4]
            simp only [bindS, Sum.elim_inl, K1]
            exact ⟨_, rfl, by simp [h4]⟩
      · rw [if_neg o]
        simp only [bindS, Sum.elim_inr]
        obtain ⟨b, hb, hf⟩ := j1 a ha
        exact ⟨b, hb, by rw [hf]; simp [frm, o]⟩
  obtain ⟨b, hb, hf⟩ := loop N.length 0 0 0 n (by omega) (by omega) (by omega) (by omega)
  exact ⟨b, hb, by simpa using hf⟩
theorem frm_mem {N : List Nd} {op : Int} : ∀ (d i : Nat) (x : Int), x ∈ frm N op i d → (i : Int) ≤ x ∧ x < (i : Int) + d ∧ (Kiiiiiii_at N x).1 = op := by
  intro d
  induction d with
  | zero => intro i x h; simp [frm] at h
  | succ d ih =>
    intro i x h
    simp only [frm] at h
    split at h
    · rcases List.mem_cons.1 h with rfl | h
      · exact ⟨by omega, by omega, by assumption⟩
      · have := ih _ _ h
        exact ⟨by omega, by omega, this.2.2⟩
    · have := ih _ _ h
      exact ⟨by omega, by omega, this.2.2⟩
/-- A cell is right, of a net whose nodes are. -/
def CellP (N : List Nd) (c : Cl) : Prop := wid N c.2.2.1 N.length = (Kiiiiiii_at N c.2.1).2.1 ∧ 0 ≤ c.2.2.2 ∧ c.2.2.2 ≤ P2 (Kiiiiiii_at N c.2.1).2.1 - 1
def PropP (N : List Nd) (p : Pw) : Prop := 8 ≤ p.1 ∧ p.1 ≤ 10 ∧ wid N p.2.2 N.length = 1
def wsum (N : List Nd) (l : List Cl) : Int := (l.map fun c => (Kiiiiiii_at N c.2.1).2.1).sum
/-- A net is right. -/
structure RightP (N : List Nd) (I : List Pn) (C : List Cl) (P : List Pw) (Q : List Pn) : Prop where
  n : N.length ≤ 4000
  i : I.length ≤ 64
  c : C.length ≤ 256
  p : P.length ≤ 16
  nodes : ∀ j : Nat, j < N.length → NodeP N j
  ins : I.map (·.2) = frm N 21 0 N.length
  cells : C.map (·.2.1) = frm N 22 0 N.length
  cell : ∀ j : Nat, j < C.length → CellP N (Ksiii_at C j)
  prop : ∀ j : Nat, j < P.length → PropP N (Kisi_at P j)
  name : ∀ j : Nat, j < Q.length → wid N (Ksi_at Q j).2 N.length ≠ 0
  bits : wsum N C ≤ 256
theorem there_f {n : Nat} {N I C P Q} {a : Int} : ref09_there n N I C P Q a = some (wid N a N.length, ()) := by
  unfold ref09_there
  rw [wide_f (by omega)]
  rfl
theorem wsum_take {N : List Nd} {C : List Cl} {j : Nat} (h : j < C.length) : wsum N (C.take (j + 1)) = wsum N (C.take j) + (Kiiiiiii_at N (Ksiii_at C (j : Int)).2.1).2.1 := by
  unfold wsum
  have e : C.take (j + 1) = C.take j ++ [Ksiii_at C (j : Int)] := by
    rw [List.take_add_one, List.getElem?_eq_getElem h]
    show _ ++ [C[j]] = _ ++ [at_ Ksiii_ C (j : Int)]
    rw [at_nat (t := Ksiii_) h]
  rw [e]
  simp
theorem mem_at {t : Ty} {l : List t.D} {j : Nat} (h : j < l.length) : at_ t l (j : Int) ∈ l := by rw [at_nat h]; exact List.getElem_mem h
/-- A cell's node. -/
theorem cell_node {N : List Nd} {C : List Cl} (hc : C.map (·.2.1) = frm N 22 0 N.length) {j : Nat} (hj : j < C.length) : 0 ≤ (Ksiii_at C (j : Int)).2.1 ∧ (Ksiii_at C (j : Int)).2.1 < N.length ∧ (Kiiiiiii_at N (Ksiii_at C (j : Int)).2.1).1 = 22 := by
  have hm : (Ksiii_at C (j : Int)).2.1 ∈ frm N 22 0 N.length := by
    rw [← hc]
    exact List.mem_map.2 ⟨_, mem_at (t := Ksiii_) hj, rfl⟩
  have := frm_mem _ _ _ hm
  exact ⟨by omega, by omega, this.2.2⟩
theorem pin_node {N : List Nd} {I : List Pn} (hc : I.map (·.2) = frm N 21 0 N.length) {j : Nat} (hj : j < I.length) : 0 ≤ (Ksi_at I (j : Int)).2 ∧ (Ksi_at I (j : Int)).2 < N.length ∧ (Kiiiiiii_at N (Ksi_at I (j : Int)).2).1 = 21 := by
  have hm : (Ksi_at I (j : Int)).2 ∈ frm N 21 0 N.length := by
    rw [← hc]
    exact List.mem_map.2 ⟨_, mem_at (t := Ksi_) hj, rfl⟩
  have := frm_mem _ _ _ hm
  exact ⟨by omega, by omega, this.2.2⟩
theorem node_at {N : List Nd} (h : ∀ j : Nat, j < N.length → NodeP N j) {x : Int} (h0 : 0 ≤ x) (h1 : x < N.length) : NodeP N x := by
  have := h x.toNat (by omega)
  rwa [show ((x.toNat : Nat) : Int) = x by omega] at this
theorem wsum_le {N : List Nd} {C : List Cl} (hn : ∀ j : Nat, j < N.length → NodeP N j) (hc : C.map (·.2.1) = frm N 22 0 N.length) : ∀ j : Nat, j ≤ C.length → 0 ≤ wsum N (C.take j) ∧ wsum N (C.take j) ≤ 16 * j
  | 0, _ => by simp [wsum]
  | j + 1, h => by
    rw [wsum_take (by omega)]
    have ih := wsum_le hn hc j (by omega)
    obtain ⟨m0, m1, -⟩ := cell_node hc (j := j) (by omega)
    have hw := node_at hn m0 m1
    have := hw.w1
    have := hw.w16
    omega
theorem right_f {n : Nat} {N I C P Q} (s : Small N I C P Q) (hn : 1000 < n) : ∃ b : Bool, ref09_Right n N I C P Q = some (b, ()) ∧ (b = true ↔ RightP N I C P Q) := by
  have s1 := s.n
  have s2 := s.i
  have s3 := s.c
  have s4 := s.p
  have s5 := s.q
  have no : ¬ RightP N I C P Q → ∃ b : Bool, some (false, ()) = some (b, ()) ∧ (b = true ↔ RightP N I C P Q) := fun z => ⟨false, rfl, by simp [z]⟩
  unfold ref09_Right
  simp only [cond_dec, cond_if, decide_eq_true_eq]
  rw [if_neg (by omega)]
  by_cases h2 : 64 < (I.length : Int)
  · rw [if_pos h2]; exact no fun z => by have := z.i; omega
  rw [if_neg h2]
  by_cases h3 : 256 < (C.length : Int)
  · rw [if_pos h3]; exact no fun z => by have := z.c; omega
  rw [if_neg h3]
  by_cases h4 : 16 < (P.length : Int)
  · rw [if_pos h4]; exact no fun z => by have := z.p; omega
  rw [if_neg h4]
  -- nodes
  have l1 := iter_all (F := ref09_Right_l1b n N I C P Q) (fun j => ((j : Int), ())) (fun j => NodeP N (j : Int)) (fun _ => (false, ())) () (len := N.length) (m := n)
    (fun self j hj hall hk => by
      obtain ⟨b, hb, hf⟩ := node_f (n := n) (I := I) (C := C) (P := P) (Q := Q) hj hall
      unfold ref09_Right_l1b
      simp only [cond_dec]
      rw [if_pos (by omega), hb, bindS, hf.2 hk, succ64 (by omega)]
      rfl)
    (fun self j hj hall hk => by
      obtain ⟨b, hb, hf⟩ := node_f (n := n) (I := I) (C := C) (P := P) (Q := Q) hj hall
      have : b = false := by cases b with | false => rfl | true => exact absurd (hf.1 rfl) hk
      subst this
      unfold ref09_Right_l1b
      simp only [cond_dec]
      rw [if_pos (by omega), hb, bindS]
      rfl)
    (fun _ self => by
      unfold ref09_Right_l1b
      simp only [cond_dec]
      rw [if_neg (by omega)]) (by omega)
  rcases l1 with ⟨hN, l1⟩ | ⟨j, hj, -, hk, l1⟩
  rotate_left
  · rw [show ref09_Right_l1 n N I C P Q (0, ()) = _ from l1]
    exact no fun z => hk (z.nodes j hj)
  rw [show ref09_Right_l1 n N I C P Q (0, ()) = _ from l1]
  simp only [bindS, Sum.elim_inr]
  -- pins
  obtain ⟨b, hb, hf⟩ := pins_f s hn
  rw [hb]
  simp only [bindS]
  cases b with
  | false => exact no fun z => by have := hf.2 ⟨z.ins, z.cells⟩; cases this
  | true =>
  obtain ⟨hI, hC⟩ := hf.1 rfl
  simp only [Bool.not_true, Bool.false_eq_true, if_false]
  -- cells
  have l2 := iter_all (F := ref09_Right_l2b n N I C P Q) (fun j => (wsum N (C.take j), (j : Int), ())) (fun j => CellP N (Ksiii_at C (j : Int))) (fun _ => (false, ())) (wsum N C, ()) (len := C.length) (m := n)
    (fun self j hj hall hk => by
      obtain ⟨m0, m1, -⟩ := cell_node hC hj
      have hw := node_at hN m0 m1
      have w1 := hw.w1
      have w16 := hw.w16
      have hs := wsum_le hN hC j (by omega)
      unfold ref09_Right_l2b
      simp only [cond_dec]
      rw [if_pos (by omega), ask_of (by omega), ask_of (by omega), there_f, bindS, rmask_f (by omega) (by omega)]
      simp only [bindS]
      obtain ⟨k1, k2, k3⟩ := hk
      rw [if_neg (by omega), if_neg (by omega), if_neg (by omega), succ64 (by omega), w64 (by omega) (by omega), wsum_take hj])
    (fun self j hj hall hk => by
      obtain ⟨m0, m1, -⟩ := cell_node hC hj
      have hw := node_at hN m0 m1
      have w1 := hw.w1
      have w16 := hw.w16
      unfold ref09_Right_l2b
      simp only [cond_dec]
      rw [if_pos (by omega), ask_of (by omega), ask_of (by omega), there_f, bindS, rmask_f (by omega) (by omega)]
      simp only [bindS]
      by_cases k1 : wid N (Ksiii_at C (j : Int)).2.2.1 N.length = (Kiiiiiii_at N (Ksiii_at C (j : Int)).2.1).2.1
      · rw [if_neg (by omega)]
        by_cases k2 : (Ksiii_at C (j : Int)).2.2.2 < 0
        · rw [if_pos k2]
        · rw [if_neg k2, if_pos]
          have : ¬ ((Ksiii_at C (j : Int)).2.2.2 ≤ P2 (Kiiiiiii_at N (Ksiii_at C (j : Int)).2.1).2.1 - 1) := fun q => hk ⟨k1, by omega, q⟩
          omega
      · rw [if_pos k1])
    (fun _ self => by
      unfold ref09_Right_l2b
      simp only [cond_dec]
      rw [if_neg (by omega), List.take_length]) (by omega)
  rcases l2 with ⟨hCell, l2⟩ | ⟨j, hj, -, hk, l2⟩
  rotate_left
  · rw [show ref09_Right_l2 n N I C P Q (0, 0, ()) = _ from l2]
    exact no fun z => hk (z.cell j hj)
  rw [show ref09_Right_l2 n N I C P Q (0, 0, ()) = _ from l2]
  simp only [bindS, Sum.elim_inr]
  -- properties
  have l3 := iter_all (F := ref09_Right_l3b n N I C P Q) (fun j => ((j : Int), ())) (fun j => PropP N (Kisi_at P (j : Int))) (fun _ => (false, ())) () (len := P.length) (m := n)
    (fun self j hj hall hk => by
      obtain ⟨k1, k2, k3⟩ := hk
      unfold ref09_Right_l3b
      simp only [cond_dec]
      rw [if_pos (by omega), ask_of (by omega), if_neg (by omega), if_neg (by omega), there_f, bindS]
      simp only
      rw [if_neg (by omega), succ64 (by omega)])
    (fun self j hj hall hk => by
      unfold ref09_Right_l3b
      simp only [cond_dec]
      rw [if_pos (by omega), ask_of (by omega), there_f, bindS]
      simp only
      by_cases k1 : (Kisi_at P (j : Int)).1 < 8
      · rw [if_pos k1]
      · rw [if_neg k1]
        by_cases k2 : 10 < (Kisi_at P (j : Int)).1
        · rw [if_pos k2]
        · rw [if_neg k2, if_pos]
          exact fun q => hk ⟨by omega, by omega, q⟩)
    (fun _ self => by
      unfold ref09_Right_l3b
      simp only [cond_dec]
      rw [if_neg (by omega)]) (by omega)
  rcases l3 with ⟨hProp, l3⟩ | ⟨j, hj, -, hk, l3⟩
  rotate_left
  · rw [show ref09_Right_l3 n N I C P Q (0, ()) = _ from l3]
    exact no fun z => hk (z.prop j hj)
  rw [show ref09_Right_l3 n N I C P Q (0, ()) = _ from l3]
  simp only [bindS, Sum.elim_inr]
  -- names
  have l4 := iter_all (F := ref09_Right_l4b n N I C P Q) (fun j => ((j : Int), ())) (fun j => wid N (Ksi_at Q (j : Int)).2 N.length ≠ 0) (fun _ => (false, ())) () (len := Q.length) (m := n)
    (fun self j hj hall hk => by
      unfold ref09_Right_l4b
      simp only [cond_dec]
      rw [if_pos (by omega), ask_of (by omega), there_f, bindS]
      simp only
      rw [if_neg hk, succ64 (by omega)])
    (fun self j hj hall hk => by
      unfold ref09_Right_l4b
      simp only [cond_dec]
      rw [if_pos (by omega), ask_of (by omega), there_f, bindS]
      simp only
      rw [if_pos (Classical.not_not.1 hk)])
    (fun _ self => by
      unfold ref09_Right_l4b
      simp only [cond_dec]
      rw [if_neg (by omega)]) (by omega)
  rcases l4 with ⟨hName, l4⟩ | ⟨j, hj, -, hk, l4⟩
  rotate_left
  · rw [show ref09_Right_l4 n N I C P Q (0, ()) = _ from l4]
    exact no fun z => hk (z.name j hj)
  rw [show ref09_Right_l4 n N I C P Q (0, ()) = _ from l4]
  simp only [bindS, Sum.elim_inr]
  exact ⟨_, rfl, by simp; exact ⟨fun q => ⟨by omega, by omega, by omega, by omega, hN, hI, hC, hCell, hProp, hName, q⟩, fun z => z.bits⟩⟩
end Go.Proofs.Ytfjdhdmbbfeigaa.Am
