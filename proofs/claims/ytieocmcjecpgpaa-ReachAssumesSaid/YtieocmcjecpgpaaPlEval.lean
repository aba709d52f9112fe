/- What all nodes of a right net are, what its cells are first and next, and rows of raw numbers for it. -/
import Derived.Test.YtieocmcjecpgpaaPlNet
namespace Go.Proofs.Ytieocmcjecpgpaa.Am
set_option linter.unusedVariables false
set_option linter.unusedSimpArgs false
theorem cat_lt {W wb x y : Int} (h0 : 0 ≤ wb) (h1 : wb ≤ W) (hx : Num_ (W - wb) x) (hy : Num_ wb y) : 0 ≤ x * P2 wb ∧ x * P2 wb + y < P2 W := by
  have e : P2 W = P2 (W - wb) * P2 wb := by rw [← p2_add (by omega) h0]; congr 1; omega
  have h2 := p2_pos wb
  have h3 : (x + 1) * P2 wb ≤ P2 (W - wb) * P2 wb := Int.mul_le_mul_of_nonneg_right (by have := hx.2; omega) (by omega)
  rw [Int.add_mul, Int.one_mul] at h3
  exact ⟨Int.mul_nonneg hx.1 (by omega), by rw [e]; have := hy.2; omega⟩
theorem wid_pos {N : List Nd} {a : Int} {i : Nat} (h : 0 < wid N a i) : 0 ≤ a ∧ a < i ∧ wid N a i = (Kiiiiiii_at N a).2.1 := by
  unfold wid at h ⊢
  split at h
  · omega
  · rename_i hn
    exact ⟨by omega, by omega, by rw [if_neg hn]⟩
theorem bit01 {P : Prop} [Decidable P] : Num_ 1 (if P then (1 : Int) else 0) := by unfold Num_; rw [p2_one]; split <;> omega
theorem bit10 {P : Prop} [Decidable P] : Num_ 1 (if P then (0 : Int) else 1) := by unfold Num_; rw [p2_one]; split <;> omega
/-- What a node makes of numbers. -/
noncomputable def doV (N : List Nd) (v : List Int) (x : Nd) : Int := match vec_Do 0 x.1 x.2.1 x.2.2.1 x.2.2.2.1 x.2.2.2.2.1 x.2.2.2.2.2.1 x.2.2.2.2.2.2 (Ki_at v x.2.2.1) (Ki_at v x.2.2.2.1) (Ki_at v x.2.2.2.2.1) (Kiiiiiii_at N x.2.2.2.1).2.1 with | some r => r.1 | none => 0
theorem do_same (n : Nat) (a b c d e f g h i j k : Int) : vec_Do n a b c d e f g h i j k = vec_Do 0 a b c d e f g h i j k := rfl
/-- What a node makes is a number of its width. -/
theorem do_ok {n : Nat} {N : List Nd} {i : Nat} (hall : ∀ j : Nat, j < i → NodeP N j) (h : NodeP N i) (ho : ¬ ((Kiiiiiii_at N i).1 = 21 ∨ (Kiiiiiii_at N i).1 = 22)) {v : List Int} (hv : ∀ j : Int, 0 ≤ j → j < i → Num_ (Kiiiiiii_at N j).2.1 (Ki_at v j)) :
    vec_Do n (Kiiiiiii_at N i).1 (Kiiiiiii_at N i).2.1 (Kiiiiiii_at N i).2.2.1 (Kiiiiiii_at N i).2.2.2.1 (Kiiiiiii_at N i).2.2.2.2.1 (Kiiiiiii_at N i).2.2.2.2.2.1 (Kiiiiiii_at N i).2.2.2.2.2.2 (Ki_at v (Kiiiiiii_at N i).2.2.1) (Ki_at v (Kiiiiiii_at N i).2.2.2.1) (Ki_at v (Kiiiiiii_at N i).2.2.2.2.1) (Kiiiiiii_at N (Kiiiiiii_at N i).2.2.2.1).2.1 = some (doV N v (Kiiiiiii_at N i), ()) ∧ Num_ (Kiiiiiii_at N i).2.1 (doV N v (Kiiiiiii_at N i)) := by
  have fin : (∃ y, vec_Do n (Kiiiiiii_at N i).1 (Kiiiiiii_at N i).2.1 (Kiiiiiii_at N i).2.2.1 (Kiiiiiii_at N i).2.2.2.1 (Kiiiiiii_at N i).2.2.2.2.1 (Kiiiiiii_at N i).2.2.2.2.2.1 (Kiiiiiii_at N i).2.2.2.2.2.2 (Ki_at v (Kiiiiiii_at N i).2.2.1) (Ki_at v (Kiiiiiii_at N i).2.2.2.1) (Ki_at v (Kiiiiiii_at N i).2.2.2.2.1) (Kiiiiiii_at N (Kiiiiiii_at N i).2.2.2.1).2.1 = some (y, ()) ∧ Num_ (Kiiiiiii_at N i).2.1 y) → vec_Do n (Kiiiiiii_at N i).1 (Kiiiiiii_at N i).2.1 (Kiiiiiii_at N i).2.2.1 (Kiiiiiii_at N i).2.2.2.1 (Kiiiiiii_at N i).2.2.2.2.1 (Kiiiiiii_at N i).2.2.2.2.2.1 (Kiiiiiii_at N i).2.2.2.2.2.2 (Ki_at v (Kiiiiiii_at N i).2.2.1) (Ki_at v (Kiiiiiii_at N i).2.2.2.1) (Ki_at v (Kiiiiiii_at N i).2.2.2.2.1) (Kiiiiiii_at N (Kiiiiiii_at N i).2.2.2.1).2.1 = some (doV N v (Kiiiiiii_at N i), ()) ∧ Num_ (Kiiiiiii_at N i).2.1 (doV N v (Kiiiiiii_at N i)) := by
    rintro ⟨y, h1, h2⟩
    have e : doV N v (Kiiiiiii_at N i) = y := by
      unfold doV
      rw [← do_same n, h1]
    rw [e]
    exact ⟨h1, h2⟩
  refine fin ?_
  have w1 := h.w1
  have w16 := h.w16
  have ha := wid_le hall (Kiiiiiii_at N i).2.2.1
  have hb := wid_le hall (Kiiiiiii_at N i).2.2.2.1
  have hc := wid_le hall (Kiiiiiii_at N i).2.2.2.2.1
  have num : ∀ {a : Int}, 0 < wid N a i → Num_ (wid N a i) (Ki_at v a) := fun {a} q => by
    obtain ⟨q0, q1, q2⟩ := wid_pos q
    rw [q2]
    exact hv a q0 q1
  rcases h.fit with ⟨o, f1, f2, f3⟩ | ⟨o, -⟩ | ⟨o, f1, f2, f3⟩ | ⟨o, f1, f2, f3, f4⟩ | ⟨o, f1, f2, f3, f4⟩ | ⟨o, f1, f2, f3, f4, f5⟩ | ⟨o, f1, f2, f3, f4, f5⟩ | ⟨o, f1, f2, f3, f4, f5⟩ | ⟨o, f1, f2, f3, f4⟩
  · rw [o]
    exact ⟨_, do_lit, by omega, by omega⟩
  · exact absurd o ho
  · have hx := num (a := (Kiiiiiii_at N i).2.2.1) (by omega)
    rw [f3] at hx
    rw [o]
    exact ⟨_, do_inv (by omega) (by omega) hx, by have := hx.2; omega, by have := hx.1; omega⟩
  · rw [f2]
    rcases o with o | o
    · rw [o]
      exact ⟨_, do_redor, bit10⟩
    · rw [o]
      exact ⟨_, do_redand (by omega) (by omega), bit01⟩
  · have o' : (Kiiiiiii_at N i).1 = 6 ∨ (Kiiiiiii_at N i).1 = 7 ∨ (Kiiiiiii_at N i).1 = 8 ∨ (Kiiiiiii_at N i).1 = 9 ∨ (Kiiiiiii_at N i).1 = 10 ∨ (Kiiiiiii_at N i).1 = 11 := by omega
    rcases o' with o | o | o | o | o | o <;> rw [o]
    · exact ⟨_, do_and (by omega) (by omega), num_mod _ _⟩
    · exact ⟨_, do_or (by omega) (by omega), num_mod _ _⟩
    · exact ⟨_, do_xor (by omega) (by omega), num_mod _ _⟩
    · exact ⟨_, do_add (by omega) (by omega), num_mod _ _⟩
    · exact ⟨_, do_sub (by omega) (by omega), num_mod _ _⟩
    · exact ⟨_, do_mul (by omega) (by omega), num_mod _ _⟩
  · have o' : (Kiiiiiii_at N i).1 = 12 ∨ (Kiiiiiii_at N i).1 = 13 ∨ (Kiiiiiii_at N i).1 = 14 ∨ (Kiiiiiii_at N i).1 = 15 := by omega
    rw [f2]
    rcases o' with o | o | o | o <;> rw [o]
    · exact ⟨_, do_eq, bit01⟩
    · exact ⟨_, do_ne, bit10⟩
    · exact ⟨_, do_lt, bit01⟩
    · exact ⟨_, do_le, bit01⟩
  · have hy := num (a := (Kiiiiiii_at N i).2.2.2.1) (by omega)
    have hz := num (a := (Kiiiiiii_at N i).2.2.2.2.1) (by omega)
    rw [f4] at hy
    rw [f5] at hz
    rw [o]
    refine ⟨_, do_mux, ?_⟩
    split
    · exact hy
    · exact hz
  · have hx := num (a := (Kiiiiiii_at N i).2.2.1) (by omega)
    have hy := num (a := (Kiiiiiii_at N i).2.2.2.1) (by omega)
    obtain ⟨-, -, e⟩ := wid_pos (N := N) (a := (Kiiiiiii_at N i).2.2.2.1) (i := i) (by omega)
    have e2 : wid N (Kiiiiiii_at N i).2.2.1 i = (Kiiiiiii_at N i).2.1 - wid N (Kiiiiiii_at N i).2.2.2.1 i := by omega
    rw [e2] at hx
    have hl := cat_lt (by omega) (by omega) hx hy
    have hp := p2_16 w16
    rw [o, ← e]
    exact ⟨_, do_cat (by omega) (by omega) hx.1 hy (by omega), by have := hy.1; omega, hl.2⟩
  · rw [o]
    refine ⟨_, do_slice (by omega) (by omega) (by omega) (by omega) (by omega), ?_⟩
    rw [← f4]
    exact num_mod _ _
/-- Numbers put at places, so many of them. -/
def setS (l : List Int) (p : Nat → Int) (x : Nat → Int) : Nat → List Int
  | 0 => l
  | i + 1 => (setS l p x i).set (p i).toNat (x i)
theorem setS_len (l : List Int) (p x : Nat → Int) : ∀ i, (setS l p x i).length = l.length
  | 0 => rfl
  | i + 1 => by rw [setS, List.length_set, setS_len l p x i]
noncomputable def evN (N : List Nd) (l : List Int) : Nat → List Int
  | 0 => l
  | i + 1 => if (Kiiiiiii_at N i).1 = 21 ∨ (Kiiiiiii_at N i).1 = 22 then evN N l i else (evN N l i).set i (doV N (evN N l i) (Kiiiiiii_at N i))
theorem evN_len (N : List Nd) (l : List Int) : ∀ i, (evN N l i).length = l.length
  | 0 => rfl
  | i + 1 => by
    rw [evN]
    split
    · exact evN_len N l i
    · rw [List.length_set, evN_len N l i]
def insV (N : List Nd) (I : List Pn) (ins : List Int) : List Int := setS (List.replicate N.length 0) (fun j => (Ksi_at I j).2) (fun j => Ki_at ins j) I.length
def stV (N : List Nd) (I : List Pn) (C : List Cl) (st ins : List Int) : List Int := setS (insV N I ins) (fun j => (Ksiii_at C j).2.1) (fun j => Ki_at st j) C.length
/-- What all nodes are. -/
noncomputable def evalV (N : List Nd) (I : List Pn) (C : List Cl) (st ins : List Int) : List Int := evN N (stV N I C st ins) N.length
theorem stV_len (N : List Nd) (I : List Pn) (C : List Cl) (st ins : List Int) : (stV N I C st ins).length = N.length := by
  unfold stV insV
  rw [setS_len, setS_len, List.length_replicate]
theorem evalV_len (N : List Nd) (I : List Pn) (C : List Cl) (st ins : List Int) : (evalV N I C st ins).length = N.length := by
  unfold evalV
  rw [evN_len, stV_len]
/-- All are numbers of their widths. -/
def Nums (N : List Nd) (v : List Int) : Prop := v.length = N.length ∧ ∀ j : Nat, j < N.length → Num_ (Kiiiiiii_at N (j : Int)).2.1 (Ki_at v (j : Int))
theorem nums_set {N : List Nd} {v : List Int} (h : Nums N v) {i : Nat} {x : Int} (hx : i < N.length → Num_ (Kiiiiiii_at N (i : Int)).2.1 x) : Nums N (v.set i x) := by
  refine ⟨by rw [List.length_set]; exact h.1, fun j hj => ?_⟩
  by_cases c : i < v.length
  · rw [show Ki_at (v.set i x) (j : Int) = _ from at_set (t := i_) c]
    split
    · rename_i e
      subst e
      exact hx hj
    · exact h.2 j hj
  · rw [List.set_eq_of_length_le (by omega)]
    exact h.2 j hj
theorem nums_zero (N : List Nd) : Nums N (List.replicate N.length 0) := by
  refine ⟨List.length_replicate, fun j hj => ?_⟩
  have : Ki_at (List.replicate N.length 0) (j : Int) = 0 := by
    show at_ i_ _ _ = _
    rw [at_nat (by simpa using hj)]
    simp
  rw [this]
  exact num_zero _
/-- Rows of numbers for the inputs, for the cells. -/
def FitI (N : List Nd) (I : List Pn) (xs : List Int) : Prop := xs.length = I.length ∧ ∀ j : Nat, j < I.length → Num_ (Kiiiiiii_at N (Ksi_at I j).2).2.1 (Ki_at xs (j : Int))
def FitC (N : List Nd) (C : List Cl) (xs : List Int) : Prop := xs.length = C.length ∧ ∀ j : Nat, j < C.length → Num_ (Kiiiiiii_at N (Ksiii_at C j).2.1).2.1 (Ki_at xs (j : Int))
theorem nums_setS {N : List Nd} {l : List Int} {p x : Nat → Int} {k : Nat} (h : Nums N l) (hf : ∀ j, j < k → 0 ≤ p j ∧ Num_ (Kiiiiiii_at N (p j)).2.1 (x j)) : ∀ i, i ≤ k → Nums N (setS l p x i)
  | 0, _ => h
  | i + 1, hi => by
    rw [setS]
    obtain ⟨h0, h1⟩ := hf i (by omega)
    refine nums_set (nums_setS h hf i (by omega)) fun _ => ?_
    have e : (((p i).toNat : Nat) : Int) = p i := by omega
    rw [e]
    exact h1
theorem nums_evN {N : List Nd} (hall : ∀ j : Nat, j < N.length → NodeP N j) {l : List Int} (h : Nums N l) : ∀ i, i ≤ N.length → Nums N (evN N l i)
  | 0, _ => h
  | i + 1, hi => by
    have ih := nums_evN hall h i (by omega)
    rw [evN]
    split
    · exact ih
    · rename_i o
      refine nums_set ih fun _ => ?_
      exact (do_ok (n := 0) (fun j hj => hall j (by omega)) (hall i (by omega)) o (v := evN N l i) (fun j h0 h1 => by
        have := ih.2 j.toNat (by omega)
        have e : ((j.toNat : Nat) : Int) = j := by omega
        rw [e] at this
        exact this)).2
section
variable {N : List Nd} {I : List Pn} {C : List Cl} {P : List Pw} {Q : List Pn} {st ins : List Int}
theorem nums_stV (r : RightP N I C P Q) (hi : FitI N I ins) (hs : FitC N C st) : Nums N (stV N I C st ins) :=
  nums_setS (nums_setS (nums_zero N) (fun j hj => ⟨(pin_node r.ins hj).1, hi.2 j hj⟩) _ (Nat.le_refl _)) (fun j hj => ⟨(cell_node r.cells hj).1, hs.2 j hj⟩) _ (Nat.le_refl _)
theorem nums_evalV (r : RightP N I C P Q) (hi : FitI N I ins) (hs : FitC N C st) : Nums N (evalV N I C st ins) := nums_evN r.nodes (nums_stV r hi hs) _ (Nat.le_refl _)
end
/-- Its operands' places are places; those that it has stand ahead. -/
theorem opnds {N : List Nd} {i : Nat} (hi : i < N.length) (h : NodeP N i) : (0 ≤ (Kiiiiiii_at N i).2.2.1 ∧ (Kiiiiiii_at N i).2.2.1 < N.length ∧ (0 < opk (Kiiiiiii_at N i).1 → (Kiiiiiii_at N i).2.2.1 < i)) ∧ (0 ≤ (Kiiiiiii_at N i).2.2.2.1 ∧ (Kiiiiiii_at N i).2.2.2.1 < N.length ∧ (1 < opk (Kiiiiiii_at N i).1 → (Kiiiiiii_at N i).2.2.2.1 < i)) ∧ (0 ≤ (Kiiiiiii_at N i).2.2.2.2.1 ∧ (Kiiiiiii_at N i).2.2.2.2.1 < N.length ∧ (2 < opk (Kiiiiiii_at N i).1 → (Kiiiiiii_at N i).2.2.2.2.1 < i)) := by
  have w1 := h.w1
  have a0 := h.a0
  have b0 := h.b0
  have c0 := h.c0
  have pos : ∀ a : Int, 0 < wid N a i → 0 ≤ a ∧ a < i := fun a q => ⟨(wid_pos q).1, (wid_pos q).2.1⟩
  have ho := opk_cases h.op
  have pa := pos (Kiiiiiii_at N i).2.2.1
  have pb := pos (Kiiiiiii_at N i).2.2.2.1
  have pc := pos (Kiiiiiii_at N i).2.2.2.2.1
  have hf := h.fit
  unfold FitP at hf
  generalize wid N (Kiiiiiii_at N i).2.2.1 i = wa at *
  generalize wid N (Kiiiiiii_at N i).2.2.2.1 i = wb at *
  generalize wid N (Kiiiiiii_at N i).2.2.2.2.1 i = wc at *
  generalize Kiiiiiii_at N i = x at *
  unfold opk at a0 b0 c0 ⊢
  rcases ho with o | o | o | o | o | o | o | o | o | o | o | o | o | o | o | o | o | o | o <;> simp only [o] at a0 b0 c0 hf ⊢ <;> simp at a0 b0 c0 hf ⊢ <;> omega
theorem eval_f {n : Nat} {N I C P Q} {st ins : List Int} (s : Small N I C P Q) (r : RightP N I C P Q) (hi : FitI N I ins) (hs : FitC N C st) (hn : 1000 < n) : net_Eval n N I C P Q st ins = some (evalV N I C st ins, ()) := by
  have s1 := s.n
  have s2 := s.i
  have s3 := s.c
  have l1 := iter_up (F := net_Eval_l1b n I ins) (fun j => ((j : Int), setS (List.replicate N.length 0) (fun j => (Ksi_at I j).2) (fun j => Ki_at ins j) j, ())) (insV N I ins, ()) (len := I.length) (m := n)
    (fun self j hj => by
      obtain ⟨m0, m1, -⟩ := pin_node r.ins hj
      have hl := setS_len (List.replicate N.length 0) (fun j => (Ksi_at I j).2) (fun j => Ki_at ins j) j
      rw [List.length_replicate] at hl
      have := hi.1
      unfold net_Eval_l1b
      simp only [cond_dec]
      rw [if_pos (by omega), ask_of (by omega), ask_of (by omega), ask_of (by omega), succ64 (by omega), setS])
    (fun self => by
      unfold net_Eval_l1b
      simp only [cond_dec]
      rw [if_neg (by omega)]
      rfl) (by omega)
  have l2 := iter_up (F := net_Eval_l2b n C st) (fun j => ((j : Int), setS (insV N I ins) (fun j => (Ksiii_at C j).2.1) (fun j => Ki_at st j) j, ())) (stV N I C st ins, ()) (len := C.length) (m := n)
    (fun self j hj => by
      obtain ⟨m0, m1, -⟩ := cell_node r.cells hj
      have hl := setS_len (insV N I ins) (fun j => (Ksiii_at C j).2.1) (fun j => Ki_at st j) j
      have hl2 : (insV N I ins).length = N.length := by rw [insV, setS_len, List.length_replicate]
      have := hs.1
      unfold net_Eval_l2b
      simp only [cond_dec]
      rw [if_pos (by omega), ask_of (by omega), ask_of (by omega), ask_of (by omega), succ64 (by omega), setS])
    (fun self => by
      unfold net_Eval_l2b
      simp only [cond_dec]
      rw [if_neg (by omega)]
      rfl) (by omega)
  have l3 := iter_up (F := net_Eval_l3b n N) (fun j => ((j : Int), evN N (stV N I C st ins) j, ())) (evalV N I C st ins, ()) (len := N.length) (m := n)
    (fun self j hj => by
      have hi' := r.nodes j hj
      obtain ⟨⟨a0, a1, -⟩, ⟨b0, b1, -⟩, ⟨c0, c1, -⟩⟩ := opnds hj hi'
      have hnu := nums_evN r.nodes (nums_stV r hi hs) j (by omega)
      have hl := hnu.1
      unfold net_Eval_l3b
      simp only [cond_dec, ite_bind, bindS, cond_if, decide_eq_true_eq]
      rw [if_pos (by omega), ask_of (by omega), evN]
      by_cases o1 : (Kiiiiiii_at N (j : Int)).1 = 21
      · rw [if_neg (by omega), if_neg (by decide), if_pos (Or.inl o1), succ64 (by omega)]
      · rw [if_pos o1]
        by_cases o2 : (Kiiiiiii_at N (j : Int)).1 = 22
        · rw [if_neg (by omega), if_pos (Or.inr o2), succ64 (by omega)]
        · rw [if_pos o2, if_neg (by omega)]
          obtain ⟨d1, -⟩ := do_ok (n := n) (fun k hk => r.nodes k (by omega)) hi' (by omega) (v := evN N (stV N I C st ins) j) (fun k h0 h1 => by
            have := hnu.2 k.toNat (by omega)
            rwa [show ((k.toNat : Nat) : Int) = k by omega] at this)
          rw [ask_of (by omega), ask_of (by omega), ask_of (by omega), ask_of (by omega), d1]
          simp only [bindS]
          rw [ask_of (by omega), succ64 (by omega), Int.toNat_natCast])
    (fun self => by
      unfold net_Eval_l3b
      simp only [cond_dec]
      rw [if_neg (by omega)]
      rfl) (by omega)
  unfold net_Eval
  rw [ask_of (by omega), Int.toNat_natCast, show net_Eval_l1 n I ins (0, List.replicate N.length 0, ()) = _ from l1, bindS, show net_Eval_l2 n C st (0, insV N I ins, ()) = _ from l2, bindS, show net_Eval_l3 n N (0, stV N I C st ins, ()) = _ from l3]
  rfl
def firstV (C : List Cl) : List Int := (List.range C.length).map fun j : Nat => (Ksiii_at C (j : Int)).2.2.2
def afterV (C : List Cl) (v : List Int) : List Int := (List.range C.length).map fun j : Nat => Ki_at v (Ksiii_at C (j : Int)).2.2.1
theorem first_f {n : Nat} {N I C P Q} (s : Small N I C P Q) (hn : 1000 < n) : net_First n N I C P Q = some (firstV C, ()) := by
  have s3 := s.c
  have l1 := iter_up (F := net_First_l1b n C) (fun j => ((j : Int), fillN C.length (fun j => (Ksiii_at C (j : Int)).2.2.2) 0 j, ())) (firstV C, ()) (len := C.length) (m := n)
    (fun self j hj => by
      have hl := fillN_len (g := fun j => (Ksiii_at C (j : Int)).2.2.2) (z := 0) (Nat.le_of_lt hj)
      unfold net_First_l1b
      simp only [cond_dec]
      rw [if_pos (by omega), ask_of (by omega), ask_of (by omega), succ64 (by omega), Int.toNat_natCast, ← fillN_set hj])
    (fun self => by
      unfold net_First_l1b
      simp only [cond_dec]
      rw [if_neg (by omega), fillN_n]
      rfl) (by omega)
  rw [fillN_0] at l1
  unfold net_First
  rw [ask_of (by omega), Int.toNat_natCast, show net_First_l1 n C (0, List.replicate C.length 0, ()) = _ from l1]
  rfl
/-- A cell's next node. -/
theorem next_pos {N I C P Q} (r : RightP N I C P Q) {j : Nat} (h : j < C.length) : 0 ≤ (Ksiii_at C (j : Int)).2.2.1 ∧ (Ksiii_at C (j : Int)).2.2.1 < N.length ∧ (Kiiiiiii_at N (Ksiii_at C (j : Int)).2.2.1).2.1 = (Kiiiiiii_at N (Ksiii_at C (j : Int)).2.1).2.1 := by
  have hc := r.cell j h
  obtain ⟨m0, m1, -⟩ := cell_node r.cells h
  have hw := node_at r.nodes m0 m1
  have w1 := hw.w1
  have h1 := hc.1
  obtain ⟨q0, q1, q2⟩ := wid_pos (N := N) (a := (Ksiii_at C (j : Int)).2.2.1) (i := N.length) (by omega)
  exact ⟨q0, q1, by omega⟩
theorem after_f {n : Nat} {N I C P Q} {st ins : List Int} (s : Small N I C P Q) (r : RightP N I C P Q) (hi : FitI N I ins) (hs : FitC N C st) (hn : 1000 < n) : net_After n N I C P Q st ins = some (afterV C (evalV N I C st ins), ()) := by
  have s3 := s.c
  have hlen := evalV_len N I C st ins
  unfold net_After
  rw [show net_Eval n N I C P Q st ins = _ from eval_f s r hi hs hn, bindS]
  generalize evalV N I C st ins = v at *
  have l1 := iter_up (F := net_After_l1b n (v, ()) C) (fun j => ((j : Int), fillN C.length (fun j => Ki_at v (Ksiii_at C (j : Int)).2.2.1) 0 j, ())) (afterV C v, ()) (len := C.length) (m := n)
    (fun self j hj => by
      have hl := fillN_len (g := fun j => Ki_at v (Ksiii_at C (j : Int)).2.2.1) (z := 0) (Nat.le_of_lt hj)
      obtain ⟨q0, q1, -⟩ := next_pos r hj
      unfold net_After_l1b
      simp only [cond_dec]
      rw [if_pos (by omega), ask_of (by omega), ask_of (by omega), ask_of (by omega), succ64 (by omega), Int.toNat_natCast, ← fillN_set hj])
    (fun self => by
      unfold net_After_l1b
      simp only [cond_dec]
      rw [if_neg (by omega), fillN_n]
      rfl) (by omega)
  rw [fillN_0] at l1
  rw [ask_of (by omega), Int.toNat_natCast, show net_After_l1 n (v, ()) C (0, List.replicate C.length 0, ()) = _ from l1]
  rfl
theorem at_len {t : Ty} {l : List t.D} {j : Int} {k : Nat} (h : j = k) (hk : k < l.length) : at_ t l j = l[k] := by subst h; exact at_nat hk
theorem fit_first {N I C P Q} (r : RightP N I C P Q) : FitC N C (firstV C) := by
  refine ⟨by simp [firstV], fun j hj => ?_⟩
  rw [show Ki_at (firstV C) (j : Int) = _ from at_range (t := i_) hj]
  have := r.cell j hj
  exact ⟨this.2.1, by have := this.2.2; omega⟩
theorem fit_after {N I C P Q} (r : RightP N I C P Q) {v : List Int} (hv : Nums N v) : FitC N C (afterV C v) := by
  refine ⟨by simp [afterV], fun j hj => ?_⟩
  rw [show Ki_at (afterV C v) (j : Int) = _ from at_range (t := i_) hj]
  obtain ⟨q0, q1, q2⟩ := next_pos r hj
  rw [← q2]
  have := hv.2 (Ksiii_at C (j : Int)).2.2.1.toNat (by omega)
  rwa [show (((Ksiii_at C (j : Int)).2.2.1.toNat : Nat) : Int) = (Ksiii_at C (j : Int)).2.2.1 by omega] at this
theorem num_and {x w : Int} (hx : 0 ≤ x ∧ x ≤ 65535) (h1 : 1 ≤ w) (h2 : w ≤ 16) : Num_ w (bits .and .i64 (IntKind.wrap .i64 x) (P2 w - 1)) := by
  rw [and_mask (by omega) (by omega)]
  exact num_mod _ _
/-- Raw numbers, cut to widths; 0 where there are none. -/
def rawV (a : List Int) (w : Nat → Int) (n : Nat) : List Int := (List.range n).map fun j => if j < a.length then bits .and .i64 (IntKind.wrap .i64 (Kw_at a (j : Int))) (P2 (w j) - 1) else 0
def rowC (N : List Nd) (C : List Cl) (a : List Int) : List Int := rawV a (fun j => (Kiiiiiii_at N (Ksiii_at C (j : Int)).2.1).2.1) C.length
def rowI (N : List Nd) (I : List Pn) (b : List Int) : List Int := rawV b (fun j => (Kiiiiiii_at N (Ksi_at I (j : Int)).2).2.1) I.length
def U16s (a : List Int) : Prop := ∀ x ∈ a, (Lit.int .u16 x).wf = true
theorem u16_at {a : List Int} (h : U16s a) {j : Nat} (hj : j < a.length) : 0 ≤ Kw_at a (j : Int) ∧ Kw_at a (j : Int) ≤ 65535 := lit_u16 (h _ (mem_at (t := u16_) hj))
theorem raw_fit {a : List Int} (ha : U16s a) {w : Nat → Int} {n : Nat} (hw : ∀ j, j < n → 1 ≤ w j ∧ w j ≤ 16) {j : Nat} (hj : j < n) : Num_ (w j) (Ki_at (rawV a w n) (j : Int)) := by
  rw [show Ki_at (rawV a w n) (j : Int) = _ from at_range (t := i_) hj]
  split
  · rename_i h
    exact num_and (u16_at ha h) (hw j hj).1 (hw j hj).2
  · exact num_zero _
theorem fit_rowC {N I C P Q} (r : RightP N I C P Q) {a : List Int} (ha : U16s a) : FitC N C (rowC N C a) := by
  refine ⟨by simp [rowC, rawV], fun j hj => raw_fit ha (fun j hj => ?_) hj⟩
  obtain ⟨m0, m1, -⟩ := cell_node r.cells hj
  have hw := node_at r.nodes m0 m1
  exact ⟨hw.w1, hw.w16⟩
theorem fit_rowI {N I C P Q} (r : RightP N I C P Q) {b : List Int} (hb : U16s b) : FitI N I (rowI N I b) := by
  refine ⟨by simp [rowI, rawV], fun j hj => raw_fit hb (fun j hj => ?_) hj⟩
  obtain ⟨m0, m1, -⟩ := pin_node r.ins hj
  have hw := node_at r.nodes m0 m1
  exact ⟨hw.w1, hw.w16⟩
end Go.Proofs.Ytieocmcjecpgpaa.Am
