/- Slimmed by this session: what nothing names is struck out. -/
import Derived.Test.YteblbknmikieoaaP9
import Derived.Test.YteblbknmikieoaaXbI
import Derived.Test.YteblbknmikieoaaXbE
import Derived.Test.YteblbknmikieoaaXbH
import Derived.Test.YteblbknmikieoaaXb76
namespace Go.Proofs.Yteblbknmikieoaa.P9
open Go.RowKit Go.Proofs.YteblbknmikieoaaW.PrintWords Go.Proofs.YteblbknmikieoaaW.PrintMore Go.Proofs.Yteblbknmikieoaa.PBits Go.Proofs.Yteblbknmikieoaa.PVec Go.Proofs.Yteblbknmikieoaa.Xb
set_option linter.unusedVariables false
set_option linter.unusedSimpArgs false
theorem cat_lt {W wb x y : Int} (h0 : 0 ≤ wb) (h1 : wb ≤ W) (hx : Num_ (W - wb) x) (hy : Num_ wb y) : 0 ≤ x * P2 wb ∧ x * P2 wb + y < P2 W := by
  have e : P2 W = P2 (W - wb) * P2 wb := by rw [← p2_add (by omega) h0]; congr 1; omega
  have h2 := p2_pos wb
  have h3 : (x + 1) * P2 wb ≤ P2 (W - wb) * P2 wb := Int.mul_le_mul_of_nonneg_right (by have := hx.2; omega) (by omega)
  rw [Int.add_mul, Int.one_mul] at h3
  exact ⟨Int.mul_nonneg hx.1 (by omega), by rw [e]; have := hy.2; omega⟩
theorem wid_pos {N : List Nd} {a : Int} {i : Nat} (h : 0 < wid N a i) : 0 ≤ a ∧ a < i ∧ wid N a i = (nd N a).f1 := by
  unfold wid at h ⊢
  split at h
  · omega
  · rename_i hn
    exact ⟨by omega, by omega, by rw [if_neg hn]⟩
theorem bit01 {P : Prop} [Decidable P] : Num_ 1 (if P then (1 : Int) else 0) := by unfold Num_; rw [p2_one]; split <;> omega
theorem bit10 {P : Prop} [Decidable P] : Num_ 1 (if P then (0 : Int) else 1) := by unfold Num_; rw [p2_one]; split <;> omega
theorem do_ok {N : List Nd} {i : Nat} (hall : ∀ j : Nat, j < i → NodeP N j) (h : NodeP N i) (ho : ¬ ((nd N i).f0 = 21 ∨ (nd N i).f0 = 22)) {v : List Int} (hv : ∀ j : Int, 0 ≤ j → j < i → Num_ (nd N j).f1 (rd v j)) :
    ∃ y, vec_Do.f (nd N i).f0 (nd N i).f1 (nd N i).f2 (nd N i).f3 (nd N i).f4 (nd N i).f5 (nd N i).f6 (rd v (nd N i).f2) (rd v (nd N i).f3) (rd v (nd N i).f4) (nd N (nd N i).f3).f1 = some y ∧ Num_ (nd N i).f1 y := by
  have w1 := h.w1
  have w16 := h.w16
  have ha := wid_le hall (nd N i).f2
  have hb := wid_le hall (nd N i).f3
  have hc := wid_le hall (nd N i).f4
  have num : ∀ {a : Int}, 0 < wid N a i → Num_ (wid N a i) (rd v a) := fun {a} q => by
    obtain ⟨q0, q1, q2⟩ := wid_pos q
    rw [q2]
    exact hv a q0 q1
  rcases h.fit with ⟨o, f1, f2, f3⟩ | ⟨o, -⟩ | ⟨o, f1, f2, f3⟩ | ⟨o, f1, f2, f3, f4⟩ | ⟨o, f1, f2, f3, f4⟩ | ⟨o, f1, f2, f3, f4, f5⟩ | ⟨o, f1, f2, f3, f4, f5⟩ | ⟨o, f1, f2, f3, f4, f5⟩ | ⟨o, f1, f2, f3, f4⟩
  · rw [o]
    exact ⟨_, do_lit, by omega, by omega⟩
  · exact absurd o ho
  · have hx := num (a := (nd N i).f2) (by omega)
    rw [f3] at hx
    rw [o]
    exact ⟨_, do_inv (by omega) (by omega) hx, by have := hx.2; omega, by have := hx.1; omega⟩
  · rw [f2]
    rcases o with o | o
    · rw [o]
      exact ⟨_, do_redor, bit10⟩
    · rw [o]
      exact ⟨_, do_redand (by omega) (by omega), bit01⟩
  · have o' : (nd N i).f0 = 6 ∨ (nd N i).f0 = 7 ∨ (nd N i).f0 = 8 ∨ (nd N i).f0 = 9 ∨ (nd N i).f0 = 10 ∨ (nd N i).f0 = 11 := by omega
    rcases o' with o | o | o | o | o | o <;> rw [o]
    · exact ⟨_, do_and (by omega) (by omega), num_mod _ _⟩
    · exact ⟨_, do_or (by omega) (by omega), num_mod _ _⟩
    · exact ⟨_, do_xor (by omega) (by omega), num_mod _ _⟩
    · exact ⟨_, do_add (by omega) (by omega), num_mod _ _⟩
    · exact ⟨_, do_sub (by omega) (by omega), num_mod _ _⟩
    · exact ⟨_, do_mul (by omega) (by omega), num_mod _ _⟩
  · have o' : (nd N i).f0 = 12 ∨ (nd N i).f0 = 13 ∨ (nd N i).f0 = 14 ∨ (nd N i).f0 = 15 := by omega
    rw [f2]
    rcases o' with o | o | o | o <;> rw [o]
    · exact ⟨_, do_eq, bit01⟩
    · exact ⟨_, do_ne, bit10⟩
    · exact ⟨_, do_lt, bit01⟩
    · exact ⟨_, do_le, bit01⟩
  · have hy := num (a := (nd N i).f3) (by omega)
    have hz := num (a := (nd N i).f4) (by omega)
    rw [f4] at hy
    rw [f5] at hz
    rw [o]
    refine ⟨_, do_mux, ?_⟩
    split
    · exact hy
    · exact hz
  · have hx := num (a := (nd N i).f2) (by omega)
    have hy := num (a := (nd N i).f3) (by omega)
    obtain ⟨-, -, e⟩ := wid_pos (N := N) (a := (nd N i).f3) (i := i) (by omega)
    have e2 : wid N (nd N i).f2 i = (nd N i).f1 - wid N (nd N i).f3 i := by omega
    rw [e2] at hx
    have hl := cat_lt (by omega) (by omega) hx hy
    have hp := p2_16 w16
    rw [o, ← e]
    exact ⟨_, do_cat (by omega) (by omega) hx.1 hy (by omega), by have := hy.1; omega, hl.2⟩
  · rw [o]
    refine ⟨_, do_slice (by omega) (by omega) (by omega) (by omega) (by omega), ?_⟩
    rw [← f4]
    exact num_mod _ _
def setS (l ps xs : List Int) : Nat → List Int
  | 0 => l
  | i + 1 => (setS l ps xs i).set (rd ps i).toNat (rd xs i)
theorem setS_len (l ps xs : List Int) : ∀ i, (setS l ps xs i).length = l.length
  | 0 => rfl
  | i + 1 => by rw [setS, List.length_set, setS_len l ps xs i]
def doV (N : List Nd) (v : List Int) (x : Nd) : Int := (vec_Do.f x.f0 x.f1 x.f2 x.f3 x.f4 x.f5 x.f6 (rd v x.f2) (rd v x.f3) (rd v x.f4) (nd N x.f3).f1).getD 0
def evN (N : List Nd) (l : List Int) : Nat → List Int
  | 0 => l
  | i + 1 => if (nd N i).f0 = 21 ∨ (nd N i).f0 = 22 then evN N l i else (evN N l i).set i (doV N (evN N l i) (nd N i))
theorem evN_len (N : List Nd) (l : List Int) : ∀ i, (evN N l i).length = l.length
  | 0 => rfl
  | i + 1 => by
    rw [evN]
    split
    · exact evN_len N l i
    · rw [List.length_set, evN_len N l i]
def insV (N : List Nd) (ins : List Int) : List Int := setS (List.replicate N.length 0) (frm N 21 0 N.length) ins (frm N 21 0 N.length).length
def stV (N : List Nd) (st ins : List Int) : List Int := setS (insV N ins) (frm N 22 0 N.length) st (frm N 22 0 N.length).length
def evalV (N : List Nd) (st ins : List Int) : List Int := evN N (stV N st ins) N.length
theorem evalV_len (N : List Nd) (st ins : List Int) : (evalV N st ins).length = N.length := by
  unfold evalV stV insV
  rw [evN_len, setS_len, setS_len, List.length_replicate]
theorem rd_set {l : List Int} {i j : Nat} {x : Int} (hi : i < l.length) : rd (l.set i x) (j : Int) = if i = j then x else rd l (j : Int) := by
  unfold rd
  simp only [Int.toNat_natCast, List.getD_eq_getElem?_getD, List.getElem?_set]
  split
  · rename_i e
    subst e
    simp [hi]
  · rfl
def Nums (N : List Nd) (v : List Int) : Prop := v.length = N.length ∧ ∀ j : Nat, j < N.length → Num_ (nd N (j : Int)).f1 (rd v (j : Int))
theorem nums_set {N : List Nd} {v : List Int} (h : Nums N v) {i : Nat} {x : Int} (hx : i < N.length → Num_ (nd N (i : Int)).f1 x) : Nums N (v.set i x) := by
  refine ⟨by rw [List.length_set]; exact h.1, fun j hj => ?_⟩
  by_cases c : i < v.length
  · rw [rd_set c]
    split
    · rename_i e
      subst e
      exact hx hj
    · exact h.2 j hj
  · rw [List.set_eq_of_length_le (by omega)]
    exact h.2 j hj
theorem nums_zero (N : List Nd) : Nums N (List.replicate N.length 0) := by
  refine ⟨List.length_replicate, fun j hj => ?_⟩
  have : rd (List.replicate N.length 0) (j : Int) = 0 := by
    unfold rd
    simp [List.getD_eq_getElem?_getD, List.getElem?_replicate]
    split <;> rfl
  rw [this]
  exact num_zero _
def Fits (N : List Nd) (ps xs : List Int) : Prop := xs.length = ps.length ∧ ∀ j : Nat, j < ps.length → Num_ (nd N (rd ps (j : Int))).f1 (rd xs (j : Int))
theorem rd_mem {l : List Int} {j : Nat} (h : j < l.length) : rd l (j : Int) ∈ l := by
  unfold rd
  rw [Int.toNat_natCast, List.getD_eq_getElem?_getD, List.getElem?_eq_getElem h]
  exact List.getElem_mem h
theorem nums_setS {N : List Nd} {l xs : List Int} {op : Int} (h : Nums N l) (hf : Fits N (frm N op 0 N.length) xs) : ∀ i, i ≤ (frm N op 0 N.length).length → Nums N (setS l (frm N op 0 N.length) xs i)
  | 0, _ => h
  | i + 1, hi => by
    rw [setS]
    obtain ⟨m0, m1, -⟩ := frm_mem _ _ _ (rd_mem (l := frm N op 0 N.length) (j := i) (by omega))
    refine nums_set (nums_setS h hf i (by omega)) fun _ => ?_
    have e : (((rd (frm N op 0 N.length) (i : Int)).toNat : Nat) : Int) = rd (frm N op 0 N.length) (i : Int) := by omega
    rw [e]
    exact hf.2 i (by omega)
theorem nums_evN {N : List Nd} (hall : ∀ j : Nat, j < N.length → NodeP N j) {l : List Int} (h : Nums N l) : ∀ i, i ≤ N.length → Nums N (evN N l i)
  | 0, _ => h
  | i + 1, hi => by
    have ih := nums_evN hall h i (by omega)
    rw [evN]
    split
    · exact ih
    · rename_i o
      refine nums_set ih fun _ => ?_
      obtain ⟨y, hy, hn⟩ := do_ok (fun j hj => hall j (by omega)) (hall i (by omega)) o (v := evN N l i) (fun j h0 h1 => by
        have := ih.2 j.toNat (by omega)
        have e : ((j.toNat : Nat) : Int) = j := by omega
        rw [e] at this
        exact this)
      unfold doV
      rw [hy]
      exact hn
theorem nums_stV {N : List Nd} {st ins : List Int} (hi : Fits N (frm N 21 0 N.length) ins) (hs : Fits N (frm N 22 0 N.length) st) : Nums N (stV N st ins) := nums_setS (nums_setS (nums_zero N) hi _ (Nat.le_refl _)) hs _ (Nat.le_refl _)
theorem rd_pin {I : List Pn} {j : Nat} (h : j < I.length) : rd (I.map (·.f1)) (j : Int) = (pn I (j : Int)).f1 := by
  unfold rd pn rd_T47
  simp [List.getD_eq_getElem?_getD, h]
theorem rd_cell {C : List Cl} {j : Nat} (h : j < C.length) : rd (C.map (·.f1)) (j : Int) = (cl C (j : Int)).f1 := by
  unfold rd cl rd_T43
  simp [List.getD_eq_getElem?_getD, h]
theorem opnds {N : List Nd} {i : Nat} (hi : i < N.length) (h : NodeP N i) : (0 ≤ (nd N i).f2 ∧ (nd N i).f2 < N.length) ∧ (0 ≤ (nd N i).f3 ∧ (nd N i).f3 < N.length) ∧ (0 ≤ (nd N i).f4 ∧ (nd N i).f4 < N.length) := by
  have w1 := h.w1
  have pos : ∀ a : Int, a = 0 ∨ 0 < wid N a i → 0 ≤ a ∧ a < N.length := fun a q => by
    rcases q with q | q
    · omega
    · have := wid_pos q
      omega
  have k : ((nd N i).f2 = 0 ∨ 0 < wid N (nd N i).f2 i) ∧ ((nd N i).f3 = 0 ∨ 0 < wid N (nd N i).f3 i) ∧ ((nd N i).f4 = 0 ∨ 0 < wid N (nd N i).f4 i) := by
    have a0 := h.a0
    have b0 := h.b0
    have c0 := h.c0
    have hf := h.fit
    unfold opk at a0 b0 c0
    unfold FitP at hf
    generalize (nd N i).f0 = op at *
    refine ⟨?_, ?_, ?_⟩
    · by_cases q : op = 1 ∨ op = 21 ∨ op = 22
      · rw [if_pos q] at a0
        exact Or.inl (a0 (by omega))
      · right
        omega
    · by_cases q : op = 1 ∨ op = 21 ∨ op = 22
      · rw [if_pos q] at b0
        exact Or.inl (b0 (by omega))
      · by_cases q2 : op = 3 ∨ op = 4 ∨ op = 5 ∨ op = 18
        · rw [if_neg q, if_pos q2] at b0
          exact Or.inl (b0 (by omega))
        · right
          omega
    · by_cases q : op = 16
      · right
        omega
      · left
        refine c0 ?_
        (repeat' split) <;> omega
  exact ⟨pos _ k.1, pos _ k.2.1, pos _ k.2.2⟩
theorem eval_ev {N I C P Q} {st ins : List Int} (s : Small N I C P Q) (r : RightP N I C P Q) (hi : Fits N (frm N 21 0 N.length) ins) (hs : Fits N (frm N 22 0 N.length) st) : Ev (fun k => net_Eval.f k N I C P Q st ins) (evalV N st ins) := by
  have s1 := s.n
  have s2 := s.i
  have s3 := s.c
  have lI : (frm N 21 0 N.length).length = I.length := by rw [← r.ins, List.length_map]
  have lC : (frm N 22 0 N.length).length = C.length := by rw [← r.cells, List.length_map]
  have hl0 := nums_stV hi hs
  have l2 : ∀ d (i : Nat), i + d = N.length → Ev (fun k => net_Eval.l2 k (evN N (stV N st ins) i) N (N.length : Int) (i : Int) N I C P Q) (evalV N st ins) := by
    intro d
    induction d with
    | zero =>
      intro i h
      have z : ¬ ((i : Int) < (N.length : Int)) := by omega
      obtain rfl : i = N.length := by omega
      exact Ev.step (fun k => by simp only [net_Eval.l2]; rw [if_neg z]; rfl) (Ev.now _)
    | succ d ih =>
      intro i h
      have z : (i : Int) < (N.length : Int) := by omega
      have z0 : (0 : Int) ≤ (i : Int) := by omega
      have hd := ih (i + 1) (by omega)
      rw [evN] at hd
      by_cases o1 : (nd N (i : Int)).f0 = 21
      · rw [if_pos (Or.inl o1)] at hd
        exact Ev.step (fun k => by simp only [net_Eval.l2]; rw [if_pos z, if_pos z0, if_pos z, if_pos o1, succ64 (by omega)]) hd
      by_cases o2 : (nd N (i : Int)).f0 = 22
      · rw [if_pos (Or.inr o2)] at hd
        exact Ev.step (fun k => by simp only [net_Eval.l2]; rw [if_pos z, if_pos z0, if_pos z, if_neg o1, if_pos o2, succ64 (by omega)]) hd
      rw [if_neg (by omega)] at hd
      have hi' := r.nodes i (by omega)
      obtain ⟨⟨a0, a1⟩, ⟨b0, b1⟩, ⟨c0, c1⟩⟩ := opnds (by omega) hi'
      have hn := nums_evN r.nodes hl0 i (by omega)
      obtain ⟨y, hy, -⟩ := do_ok (fun j hj => r.nodes j (by omega)) hi' (by omega) (v := evN N (stV N st ins) i) (fun j h0 h1 => by
        have := hn.2 j.toNat (by omega)
        have e : ((j.toNat : Nat) : Int) = j := by omega
        rw [e] at this
        exact this)
      have ed : doV N (evN N (stV N st ins) i) (nd N (i : Int)) = y := by
        unfold doV
        rw [hy]
        rfl
      rw [ed] at hd
      have hl := hn.1
      generalize evN N (stV N st ins) i = v at *
      have a2 : (nd N (i : Int)).f2 < (v.length : Int) := by omega
      have b2 : (nd N (i : Int)).f3 < (v.length : Int) := by omega
      have c2 : (nd N (i : Int)).f4 < (v.length : Int) := by omega
      exact Ev.step (fun k => by simp only [net_Eval.l2]; rw [if_pos z, if_pos z0, if_pos z, if_neg o1, if_neg o2, if_pos a0, if_pos a2, if_pos b0, if_pos b2, if_pos c0, if_pos c2, if_pos b1, hy, Option.bind_some, if_pos (by omega), Int.toNat_natCast, succ64 (by omega)]) hd
  have l1 : ∀ d (i : Nat), i + d = C.length → Ev (fun k => net_Eval.l1 k st (setS (insV N ins) (frm N 22 0 N.length) st i) C (C.length : Int) (i : Int) N I C P Q) (evalV N st ins) := by
    intro d
    induction d with
    | zero =>
      intro i h
      have z : ¬ ((i : Int) < (C.length : Int)) := by omega
      obtain rfl : i = C.length := by omega
      have hd := l2 N.length 0 (by omega)
      rw [evN, stV, lC] at hd
      exact Ev.step (fun k => by simp only [net_Eval.l1]; exact if_neg z) hd
    | succ d ih =>
      intro i h
      have z : (i : Int) < (C.length : Int) := by omega
      have z0 : (0 : Int) ≤ (i : Int) := by omega
      have hd := ih (i + 1) (by omega)
      have hm := rd_mem (l := frm N 22 0 N.length) (j := i) (by omega)
      have e : rd (frm N 22 0 N.length) (i : Int) = (cl C (i : Int)).f1 := by rw [← r.cells]; exact rd_cell (by omega)
      obtain ⟨m0', m1, -⟩ := frm_mem _ _ _ hm
      rw [e] at m0' m1
      have m0 : 0 ≤ (cl C (i : Int)).f1 := m0'
      rw [setS, e] at hd
      have hl := setS_len (insV N ins) (frm N 22 0 N.length) st i
      have hl2 : (insV N ins).length = N.length := by rw [insV, setS_len, List.length_replicate]
      have hs1 := hs.1
      generalize setS (insV N ins) (frm N 22 0 N.length) st i = v at *
      have m2 : (cl C (i : Int)).f1 < (v.length : Int) := by omega
      exact Ev.step (fun k => by simp only [net_Eval.l1]; rw [if_pos z, if_pos z0, if_pos z, if_pos (by omega), if_pos m0, if_pos m2, succ64 (by omega)]) hd
  have l0 : ∀ d (i : Nat), i + d = I.length → Ev (fun k => net_Eval.l0 k st ins (setS (List.replicate N.length 0) (frm N 21 0 N.length) ins i) I (I.length : Int) (i : Int) N I C P Q) (evalV N st ins) := by
    intro d
    induction d with
    | zero =>
      intro i h
      have z : ¬ ((i : Int) < (I.length : Int)) := by omega
      obtain rfl : i = I.length := by omega
      have hd := l1 C.length 0 (by omega)
      rw [setS, insV, lI] at hd
      exact Ev.step (fun k => by simp only [net_Eval.l0]; exact if_neg z) hd
    | succ d ih =>
      intro i h
      have z : (i : Int) < (I.length : Int) := by omega
      have z0 : (0 : Int) ≤ (i : Int) := by omega
      have hd := ih (i + 1) (by omega)
      have hm := rd_mem (l := frm N 21 0 N.length) (j := i) (by omega)
      have e : rd (frm N 21 0 N.length) (i : Int) = (pn I (i : Int)).f1 := by rw [← r.ins]; exact rd_pin (by omega)
      obtain ⟨m0', m1, -⟩ := frm_mem _ _ _ hm
      rw [e] at m0' m1
      have m0 : 0 ≤ (pn I (i : Int)).f1 := m0'
      rw [setS, e] at hd
      have hl := setS_len (List.replicate N.length 0) (frm N 21 0 N.length) ins i
      rw [List.length_replicate] at hl
      have hs1 := hi.1
      generalize setS (List.replicate N.length 0) (frm N 21 0 N.length) ins i = v at *
      have m2 : (pn I (i : Int)).f1 < (v.length : Int) := by omega
      exact Ev.step (fun k => by simp only [net_Eval.l0]; rw [if_pos z, if_pos z0, if_pos z, if_pos (by omega), if_pos m0, if_pos m2, succ64 (by omega)]) hd
  unfold net_Eval.f
  refine Ev.ite_pos (by omega) (Ev.ite_pos (by omega) ?_)
  exact l0 I.length 0 (by omega)
def fillS (l : List Int) (g : Nat → Int) : Nat → List Int
  | 0 => l
  | i + 1 => (fillS l g i).set i (g i)
theorem fillS_len (l : List Int) (g : Nat → Int) : ∀ i, (fillS l g i).length = l.length
  | 0 => rfl
  | i + 1 => by rw [fillS, List.length_set, fillS_len l g i]
def firstV (C : List Cl) : List Int := fillS (List.replicate C.length 0) (fun j => (cl C (j : Int)).f3) C.length
def afterV (C : List Cl) (v : List Int) : List Int := fillS (List.replicate C.length 0) (fun j => rd v (cl C (j : Int)).f2) C.length
theorem first_ev {N I C P Q} (s : Small N I C P Q) : Ev (fun k => net_First.f k N I C P Q) (firstV C) := by
  have s3 := s.c
  have l0 : ∀ d (i : Nat), i + d = C.length → Ev (fun k => net_First.l0 k (fillS (List.replicate C.length 0) (fun j => (cl C (j : Int)).f3) i) C (C.length : Int) (i : Int)) (firstV C) := by
    intro d
    induction d with
    | zero =>
      intro i h
      have z : ¬ ((i : Int) < (C.length : Int)) := by omega
      obtain rfl : i = C.length := by omega
      exact Ev.step (fun k => by simp only [net_First.l0]; rw [if_neg z]; rfl) (Ev.now _)
    | succ d ih =>
      intro i h
      have z : (i : Int) < (C.length : Int) := by omega
      have hd := ih (i + 1) (by omega)
      rw [fillS] at hd
      have hl := fillS_len (List.replicate C.length 0) (fun j => (cl C (j : Int)).f3) i
      rw [List.length_replicate] at hl
      generalize fillS (List.replicate C.length 0) (fun j => (cl C (j : Int)).f3) i = v at *
      exact Ev.step (fun k => by simp only [net_First.l0]; rw [if_pos z, if_pos (by omega), if_pos z, if_pos (by omega), Int.toNat_natCast, succ64 (by omega)]) hd
  unfold net_First.f
  refine Ev.ite_pos (by omega) (Ev.ite_pos (by omega) ?_)
  exact l0 C.length 0 (by omega)
theorem next_pos {N I C P Q} (r : RightP N I C P Q) {j : Nat} (h : j < C.length) : 0 ≤ (cl C (j : Int)).f2 ∧ (cl C (j : Int)).f2 < N.length ∧ (nd N (cl C (j : Int)).f2).f1 = (nd N (cl C (j : Int)).f1).f1 ∧ CellP N (cl C (j : Int)) ∧ 0 ≤ (cl C (j : Int)).f1 ∧ (cl C (j : Int)).f1 < N.length ∧ 1 ≤ (nd N (cl C (j : Int)).f1).f1 ∧ (nd N (cl C (j : Int)).f1).f1 ≤ 16 := by
  have hm : cl C (j : Int) ∈ C := List.mem_of_mem_drop (i := j) (by rw [cl_cons C j h]; exact List.mem_cons_self)
  have hc := r.cell _ hm
  have hf : (cl C (j : Int)).f1 ∈ frm N 22 0 N.length := by rw [← r.cells]; exact List.mem_map.2 ⟨_, hm, rfl⟩
  obtain ⟨m0, m1, -⟩ := frm_mem _ _ _ hf
  generalize cl C (j : Int) = c at *
  have hw := r.nodes c.f1.toNat (by omega)
  have e0 : ((c.f1.toNat : Nat) : Int) = c.f1 := by omega
  rw [e0] at hw
  have w1 := hw.w1
  have w16 := hw.w16
  have h1 := hc.1
  obtain ⟨q0, q1, q2⟩ := wid_pos (N := N) (a := c.f2) (i := N.length) (by omega)
  exact ⟨q0, q1, by omega, hc, by omega, by omega, w1, w16⟩
theorem after_ev {N I C P Q} {st ins : List Int} (s : Small N I C P Q) (r : RightP N I C P Q) (hi : Fits N (frm N 21 0 N.length) ins) (hs : Fits N (frm N 22 0 N.length) st) : Ev (fun k => net_After.f k N I C P Q st ins) (afterV C (evalV N st ins)) := by
  have s3 := s.c
  have hlen := evalV_len N st ins
  unfold net_After.f
  refine Ev.bind (f := fun k t => if 0 ≤ (C.length : Int) then (if ((C.length : Int) : Int).toNat ≤ 35184372088832 then (net_After.l0 k t (List.replicate ((C.length : Int) : Int).toNat 0) C (C.length : Int) 0) else (none)) else (none)) (eval_ev s r hi hs) ?_
  generalize evalV N st ins = v at *
  have l0 : ∀ d (i : Nat), i + d = C.length → Ev (fun k => net_After.l0 k v (fillS (List.replicate C.length 0) (fun j => rd v (cl C (j : Int)).f2) i) C (C.length : Int) (i : Int)) (afterV C v) := by
    intro d
    induction d with
    | zero =>
      intro i h
      have z : ¬ ((i : Int) < (C.length : Int)) := by omega
      obtain rfl : i = C.length := by omega
      exact Ev.step (fun k => by simp only [net_After.l0]; rw [if_neg z]; rfl) (Ev.now _)
    | succ d ih =>
      intro i h
      have z : (i : Int) < (C.length : Int) := by omega
      have hd := ih (i + 1) (by omega)
      rw [fillS] at hd
      have hl := fillS_len (List.replicate C.length 0) (fun j => rd v (cl C (j : Int)).f2) i
      rw [List.length_replicate] at hl
      obtain ⟨q0, q1', -⟩ := next_pos r (j := i) (by omega)
      have q1 : (cl C (i : Int)).f2 < (v.length : Int) := by omega
      generalize fillS (List.replicate C.length 0) (fun j => rd v (cl C (j : Int)).f2) i = o at *
      exact Ev.step (fun k => by simp only [net_After.l0]; rw [if_pos z, if_pos (by omega), if_pos z, if_pos q0, if_pos q1, if_pos (by omega), Int.toNat_natCast, succ64 (by omega)]) hd
  refine Ev.ite_pos (by omega) (Ev.ite_pos (by omega) ?_)
  exact l0 C.length 0 (by omega)
theorem rd_app {l : List Int} {x : Int} {j : Nat} (h : j ≤ l.length) : rd (l ++ [x]) (j : Int) = if j < l.length then rd l (j : Int) else x := by
  unfold rd
  simp only [Int.toNat_natCast, List.getD_eq_getElem?_getD]
  split
  · rename_i c
    rw [List.getElem?_append_left c]
  · rename_i c
    obtain rfl : j = l.length := by omega
    simp
theorem num_and {x w : Int} (hx : 0 ≤ x ∧ x ≤ 65535) (h1 : 1 ≤ w) (h2 : w ≤ 16) : Num_ w (Go.bits .and .i64 (wrap64 x) (P2 w - 1)) := by
  rw [w64 (by omega) (by omega), and_mask (by omega) (by omega)]
  exact num_mod _ _
theorem rows_ev {N I C P Q} {a b : List Int} (s : Small N I C P Q) (r : RightP N I C P Q) (ha : ∀ z ∈ a, 0 ≤ z ∧ z ≤ 65535) (hb : ∀ z ∈ b, 0 ≤ z ∧ z ≤ 65535) :
    ∃ st ins, Ev (fun k => w9_Rows.f k N I C P Q a b) (st, ins) ∧ Fits N (frm N 21 0 N.length) ins ∧ Fits N (frm N 22 0 N.length) st := by
  have s2 := s.i
  have s3 := s.c
  have lI : (frm N 21 0 N.length).length = I.length := by rw [← r.ins, List.length_map]
  have lC : (frm N 22 0 N.length).length = C.length := by rw [← r.cells, List.length_map]
  have app : ∀ (ps l : List Int) (x : Int) (i : Nat), l.length = i → (∀ j : Nat, j < i → Num_ (nd N (rd ps (j : Int))).f1 (rd l (j : Int))) → Num_ (nd N (rd ps (i : Int))).f1 x → ∀ j : Nat, j < i + 1 → Num_ (nd N (rd ps (j : Int))).f1 (rd (l ++ [x]) (j : Int)) := by
    intro ps l x i hl h hx j hj
    rw [rd_app (by omega)]
    split
    · exact h j (by omega)
    · obtain rfl : j = i := by omega
      exact hx
  have l1 : ∀ d (i : Nat) (st ins : List Int), i + d = I.length → ins.length = i → (∀ j : Nat, j < i → Num_ (nd N (rd (frm N 21 0 N.length) (j : Int))).f1 (rd ins (j : Int))) → Fits N (frm N 22 0 N.length) st →
      ∃ st' ins', Ev (fun k => w9_Rows.l1 k b st ins (i : Int) N I C P Q) (st', ins') ∧ Fits N (frm N 21 0 N.length) ins' ∧ Fits N (frm N 22 0 N.length) st' := by
    intro d
    induction d with
    | zero =>
      intro i st ins h hl hn hs
      have z : ¬ ((i : Int) < (I.length : Int)) := by omega
      exact ⟨st, ins, Ev.step (fun k => by simp only [w9_Rows.l1]; rw [if_neg z]) (Ev.now _), ⟨by omega, fun j hj => hn j (by omega)⟩, hs⟩
    | succ d ih =>
      intro i st ins h hl hn hs
      have z : (i : Int) < (I.length : Int) := by omega
      have z0 : (0 : Int) ≤ (i : Int) := by omega
      have hm := rd_mem (l := frm N 21 0 N.length) (j := i) (by omega)
      have e : rd (frm N 21 0 N.length) (i : Int) = (pn I (i : Int)).f1 := by rw [← r.ins]; exact rd_pin (by omega)
      obtain ⟨m0', m1', -⟩ := frm_mem _ _ _ hm
      rw [e] at m0' m1'
      have m0 : 0 ≤ (pn I (i : Int)).f1 := m0'
      have m1 : (pn I (i : Int)).f1 < (N.length : Int) := by omega
      have hw := r.nodes (pn I (i : Int)).f1.toNat (by omega)
      have e0 : (((pn I (i : Int)).f1.toNat : Nat) : Int) = (pn I (i : Int)).f1 := by omega
      rw [e0] at hw
      by_cases c : (i : Int) < (b.length : Int)
      · obtain ⟨st', ins', h1, h2⟩ := ih (i + 1) st (ins ++ [Go.bits .and .i64 (wrap64 (rd b (i : Int))) (P2 (nd N (pn I (i : Int)).f1).f1 - 1)]) (by omega) (by simp [hl]) (app _ _ _ _ hl hn (by rw [e]; exact num_and (hb _ (rd_mem (by omega))) hw.w1 hw.w16)) hs
        exact ⟨st', ins', Ev.step (fun k => by simp only [w9_Rows.l1]; rw [if_pos z, if_pos c, if_pos z0, if_pos m0, if_pos m1, rmask_le ⟨hw.w1, hw.w16⟩, Option.bind_some, if_pos (by omega), succ64 (by omega)]) h1, h2⟩
      · obtain ⟨st', ins', h1, h2⟩ := ih (i + 1) st (ins ++ [0]) (by omega) (by simp [hl]) (app _ _ _ _ hl hn (num_zero _)) hs
        exact ⟨st', ins', Ev.step (fun k => by simp only [w9_Rows.l1]; rw [if_pos z, if_neg c, if_pos (by omega), succ64 (by omega)]) h1, h2⟩
  have l0 : ∀ d (i : Nat) (st : List Int), i + d = C.length → st.length = i → (∀ j : Nat, j < i → Num_ (nd N (rd (frm N 22 0 N.length) (j : Int))).f1 (rd st (j : Int))) →
      ∃ st' ins', Ev (fun k => w9_Rows.l0 k a b st (i : Int) N I C P Q) (st', ins') ∧ Fits N (frm N 21 0 N.length) ins' ∧ Fits N (frm N 22 0 N.length) st' := by
    intro d
    induction d with
    | zero =>
      intro i st h hl hn
      have z : ¬ ((i : Int) < (C.length : Int)) := by omega
      obtain ⟨st', ins', h1, h2⟩ := l1 I.length 0 st [] (by omega) rfl (fun j hj => by omega) ⟨by omega, fun j hj => hn j (by omega)⟩
      exact ⟨st', ins', Ev.step (fun k => by simp only [w9_Rows.l0]; exact if_neg z) h1, h2⟩
    | succ d ih =>
      intro i st h hl hn
      have z : (i : Int) < (C.length : Int) := by omega
      have z0 : (0 : Int) ≤ (i : Int) := by omega
      have e : rd (frm N 22 0 N.length) (i : Int) = (cl C (i : Int)).f1 := by rw [← r.cells]; exact rd_cell (by omega)
      obtain ⟨-, -, -, -, m0, m1, w1, w16⟩ := next_pos r (j := i) (by omega)
      by_cases c : (i : Int) < (a.length : Int)
      · obtain ⟨st', ins', h1, h2⟩ := ih (i + 1) (st ++ [Go.bits .and .i64 (wrap64 (rd a (i : Int))) (P2 (nd N (cl C (i : Int)).f1).f1 - 1)]) (by omega) (by simp [hl]) (app _ _ _ _ hl hn (by rw [e]; exact num_and (ha _ (rd_mem (by omega))) w1 w16))
        exact ⟨st', ins', Ev.step (fun k => by simp only [w9_Rows.l0]; rw [if_pos z, if_pos c, if_pos z0, if_pos m0, if_pos m1, rmask_le ⟨w1, w16⟩, Option.bind_some, if_pos (by omega), succ64 (by omega)]) h1, h2⟩
      · obtain ⟨st', ins', h1, h2⟩ := ih (i + 1) (st ++ [0]) (by omega) (by simp [hl]) (app _ _ _ _ hl hn (num_zero _))
        exact ⟨st', ins', Ev.step (fun k => by simp only [w9_Rows.l0]; rw [if_pos z, if_neg c, if_pos (by omega), succ64 (by omega)]) h1, h2⟩
  obtain ⟨st, ins, h1, h2⟩ := l0 C.length 0 [] (by omega) rfl (fun j hj => by omega)
  exact ⟨st, ins, h1, h2⟩
end Go.Proofs.Yteblbknmikieoaa.P9
