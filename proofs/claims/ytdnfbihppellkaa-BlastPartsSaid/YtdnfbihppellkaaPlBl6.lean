/- What the laws ask of graphs and bits. -/
import Derived.Test.YtdnfbihppellkaaPlBl5
namespace Go.Proofs.Ytdnfbihppellkaa.Am
set_option linter.unusedVariables false
set_option linter.unusedSimpArgs false
section
variable {n : Nat} {ins : Int} {g : List Kii}
theorem bits14_f {l : List Int} {w : Nat} (r : RG ins g) (hl : ∀ x ∈ l, (Lit.int .u16 x).wf = true) (hw : w ≤ 1000) (hn : 30000 < n) : ∃ L, law14_Bits n ins g l (w : Int) = some (L, ()) ∧ L.length = w ∧ Lits ins g L := by
  have i0 := r.i0
  have i1 := r.i1
  have hg := r.len
  obtain ⟨R, e, L, hR, hL, hLs⟩ := iter_ex (F := law14_Bits_l2b n ins g l (w : Int)) (len := w) (m := n) (d := (0, [], ()))
    (fun j d => ∃ L, d = ((j : Int), L, ()) ∧ L.length = j ∧ Lits ins g L)
    (fun R => ∃ L, R = (L, ()) ∧ L.length = w ∧ Lits ins g L)
    (fun self j d hj ⟨L, hd, hL, hLs⟩ => by
      subst hd
      obtain ⟨y, e, hy⟩ : ∃ y, law14_Bits_j1 n ((j : Int), L, ()) ins g l = some (y, ()) ∧ LitG ins g y := by
        unfold law14_Bits_j1
        simp only [cond_dec]
        split
        · rename_i h
          have hx := lit_u16 (hl _ (at_mem (t := .int .u16) (l := l) (j := j) (by omega)))
          have hx' : 0 ≤ Kw_at l (j : Int) ∧ Kw_at l (j : Int) ≤ 65535 := hx
          rw [wrap_small (x := ins + (g.length : Int)) (by omega) (by omega), wrap_small (x := ins + (g.length : Int) + 1) (by omega) (by omega), wrap_small (x := 2 * (ins + (g.length : Int) + 1)) (by omega) (by omega), wrap_small (x := Kw_at l (j : Int)) (by omega) (by omega), ask_of (by omega), ask_of (by omega), tmodn (by omega)]
          exact ⟨_, rfl, Int.emod_nonneg _ (by omega), Int.emod_lt_of_pos _ (by omega)⟩
        · exact ⟨0, rfl, zero_lit r⟩
      unfold law14_Bits_l2b
      simp only [cond_dec]
      rw [if_pos (by omega), e, bindS, ask_of (by simp; omega), succ64 (by omega)]
      exact ⟨_, rfl, L ++ [y], rfl, by simp [hL], hLs.snoc hy⟩)
    (fun self d ⟨L, hd, hL, hLs⟩ => by
      subst hd
      unfold law14_Bits_l2b
      simp only [cond_dec]
      rw [if_neg (by omega)]
      exact ⟨_, rfl, L, rfl, hL, hLs⟩) (by omega) ⟨[], rfl, rfl, fun x hx => by simp at hx⟩
  subst hR
  unfold law14_Bits
  rw [show law14_Bits_l2 n ins g l (w : Int) (0, [], ()) = _ from e, bindS]
  exact ⟨L, rfl, hL, hLs⟩
theorem rlit_f {V : List Bool} {x : Int} (h0 : 0 ≤ x) (h1 : x / 2 < (V.length : Int)) (h2 : x < 1000000) : ref13_Lit n V x = some (lv V x, ()) := by
  unfold ref13_Lit
  rw [ask_of (by omega), tdiv2 h0, wrap_small (x := x / 2) (by omega) (by omega), ask_of (by omega), ask_of (by omega), tmodn h0]
  rfl
theorem alit_f {V : List Bool} {x : Int} (h0 : 0 ≤ x) (h1 : x / 2 < (V.length : Int)) (h2 : x < 1000000) : aig_Lit n V x = some (lv V x, ()) := by
  unfold aig_Lit
  have sh : shrI .i64 x 1 = x / 2 := shr_p2 (by omega)
  rw [ask_of (by omega), sh, ask_of (by omega), and_one x h0 (by omega)]
  rfl
theorem num_f {V : List Bool} {l : List Int} (hl : l.length ≤ 40) (h : ∀ x ∈ l, 0 ≤ x ∧ x / 2 < (V.length : Int) ∧ x < 1000000) (hn : 30000 < n) : law14_num n V l = some ((nb (bv V l) : Int), ()) := by
  have hlt : ∀ j, nb (bv V (l.drop j)) < 2 ^ 40 := fun j => by
    have h1 := nbv_lt V (l.drop j)
    exact Nat.lt_of_lt_of_le h1 (Nat.pow_le_pow_right (by omega) (by simp; omega))
  have l1 := iter_up (F := law14_num_l1b n V l) (fun j => ((nb (bv V (l.drop (l.length - j))) : Int), (l.length : Int) - 1 - (j : Int), ())) ((nb (bv V l) : Int), ()) (len := l.length) (m := n)
    (fun self j hj => by
      have hi : (l.length : Int) - 1 - (j : Int) = ((l.length - 1 - j : Nat) : Int) := by omega
      have hat : Ki_at l ((l.length - 1 - j : Nat) : Int) ∈ l := at_mem (t := .int .i64) (by omega)
      obtain ⟨q1, q2, q3⟩ := h _ hat
      have hd : l.drop (l.length - (j + 1)) = Ki_at l ((l.length - 1 - j : Nat) : Int) :: l.drop (l.length - j) := by
        rw [show Ki_at l ((l.length - 1 - j : Nat) : Int) = l[l.length - 1 - j] from at_nat (t := .int .i64) (by omega), show l.length - (j + 1) = l.length - 1 - j by omega, List.drop_eq_getElem_cons (by omega)]
        congr 2
        omega
      have hb : bv V (l.drop (l.length - (j + 1))) = lv V (Ki_at l ((l.length - 1 - j : Nat) : Int)) :: bv V (l.drop (l.length - j)) := by rw [hd]; rfl
      have h0 := hlt (l.length - j)
      unfold law14_num_l1b
      simp only [cond_dec, cond_if, decide_eq_true_eq]
      rw [if_pos (by omega), hi, ask_of (by omega), rlit_f q1 q2 q3, bindS, hb, nb]
      simp only
      rw [w64 (n := (nb (bv V (l.drop (l.length - j))) : Int) + (nb (bv V (l.drop (l.length - j))) : Int)) (by omega) (by omega), w64 (n := ((l.length - 1 - j : Nat) : Int) - 1) (by omega) (by omega), w64 (n := (nb (bv V (l.drop (l.length - j))) : Int) + (nb (bv V (l.drop (l.length - j))) : Int) + 1) (by omega) (by omega)]
      cases lv V (Ki_at l ((l.length - 1 - j : Nat) : Int)) with
      | true =>
        simp only [↓reduceIte, Bool.toNat_true]
        congr 2
        · omega
        · congr 1; omega
      | false =>
        simp only [Bool.false_eq_true, ↓reduceIte, Bool.toNat_false]
        congr 2
        · omega
        · congr 1; omega)
    (fun self => by
      unfold law14_num_l1b
      simp only [cond_dec]
      rw [if_neg (by omega), Nat.sub_self, List.drop_zero]) (by omega)
  unfold law14_num
  rw [w64 (by omega) (by omega)]
  have e0 : (l.length : Int) - 1 - ((0 : Nat) : Int) = (l.length : Int) - 1 := by omega
  rw [Nat.sub_zero, List.drop_length, e0] at l1
  rw [show law14_num_l1 n V l (0, (l.length : Int) - 1, ()) = _ from l1, bindS]
theorem right14_f {l : List Int} (r : RG ins g) (h : Lits ins g l) (hl : l.length ≤ 1000) (hn : 30000 < n) : law14_right n ins g l = some (true, ()) := by
  have i0 := r.i0
  have i1 := r.i1
  have hg := r.len
  have l1 := iter_up (F := law14_right_l1b n ins g l) (fun j => ((j : Int), ())) (.inr ()) (len := l.length) (m := n)
    (fun self j hj => by
      obtain ⟨q1, q2⟩ := h.at hj
      unfold law14_right_l1b
      simp only [cond_dec]
      rw [if_pos (by omega), ask_of (by omega), if_neg (by omega), ask_of (by omega), ask_of (by omega), tdiv2 q1, wrap_small (x := ins + (g.length : Int)) (by omega) (by omega), wrap_small (x := Ki_at l (j : Int) / 2) (by omega) (by omega), if_neg (by omega), succ64 (by omega)])
    (fun self => by
      unfold law14_right_l1b
      simp only [cond_dec]
      rw [if_neg (by omega)]) (by omega)
  unfold law14_right
  rw [show law14_right_l1 n ins g l (0, ()) = _ from l1]
  rfl
theorem bits13_f {l : List Bool} (r : RG ins g) (hn : 30000 < n) : ∃ L, law13_Bits n ins g l = some (L, ()) ∧ (L.length : Int) = ins := by
  have i0 := r.i0
  have i1 := r.i1
  obtain ⟨R, e, L, hR, hL⟩ := iter_ex (F := law13_Bits_l1b n ins l) (len := ins.toNat) (m := n) (d := (0, [], ()))
    (fun j d => ∃ L, d = ((j : Int), L, ()) ∧ L.length = j)
    (fun R => ∃ L, R = (L, ()) ∧ (L.length : Int) = ins)
    (fun self j d hj ⟨L, hd, hL⟩ => by
      subst hd
      unfold law13_Bits_l1b
      simp only [cond_dec]
      rw [if_pos (by omega)]
      split
      · rw [ask_of (by omega), ask_of (by simp; omega), succ64 (by omega)]
        exact ⟨_, rfl, _, rfl, by simp [hL]⟩
      · rw [ask_of (by simp; omega), succ64 (by omega)]
        exact ⟨_, rfl, _, rfl, by simp [hL]⟩)
    (fun self d ⟨L, hd, hL⟩ => by
      subst hd
      unfold law13_Bits_l1b
      simp only [cond_dec]
      rw [if_neg (by omega)]
      exact ⟨_, rfl, L, rfl, by omega⟩) (by omega) ⟨[], rfl, rfl⟩
  subst hR
  unfold law13_Bits
  rw [show law13_Bits_l1 n ins l (0, [], ()) = _ from e, bindS]
  exact ⟨L, rfl, hL⟩
theorem b_app1 {V W : List Bool} {k : Int} (h0 : 0 ≤ k) (h : k < (V.length : Int)) : Kb_at (V ++ W) k = Kb_at V k := by
  obtain ⟨j, rfl⟩ := Int.eq_ofNat_of_zero_le h0
  exact at_app1 (t := .bool) (by omega)
theorem lv_app {V W : List Bool} {x : Int} (h0 : 0 ≤ x) (h : x / 2 < (V.length : Int)) : lv (V ++ W) x = lv V x := by
  unfold lv
  rw [b_app1 (by omega) h]
theorem eval_f {inp : List Bool} (r : RG ins g) (hi : (inp.length : Int) = ins) (hn : 30000 < n) : ∃ W, aig_Eval n ins g inp = some ((false :: inp) ++ W, ()) ∧ W.length = g.length ∧ Mod ins g ((false :: inp) ++ W) := by
  have i0 := r.i0
  have i1 := r.i1
  have hg := r.len
  have hV0 : (false :: inp).length = inp.length + 1 := rfl
  obtain ⟨R, e, W, hR, hW, hM⟩ := iter_ex (F := aig_Eval_l1b n g) (len := g.length) (m := n) (d := (0, false :: inp, ()))
    (fun j d => ∃ W, d = ((j : Int), (false :: inp) ++ W, ()) ∧ W.length = j ∧ ∀ i : Nat, i < j → Kb_at ((false :: inp) ++ W) (ins + 1 + (i : Int)) = (lv ((false :: inp) ++ W) (Kii_at g (i : Int)).1 && lv ((false :: inp) ++ W) (Kii_at g (i : Int)).2))
    (fun R => ∃ W, R = ((false :: inp) ++ W, ()) ∧ W.length = g.length ∧ Mod ins g ((false :: inp) ++ W))
    (fun self j d hj ⟨W, hd, hW, hM⟩ => by
      subst hd
      obtain ⟨a1, a2, a3, a4⟩ := r.a j hj
      have hlen : ((false :: inp) ++ W).length = inp.length + 1 + j := by simp [hW]; omega
      generalize hV : (false :: inp) ++ W = V at hM hlen ⊢
      have ext : ∀ b, b = (lv V (Kii_at g (j : Int)).1 && lv V (Kii_at g (j : Int)).2) → ∃ W', ((((j + 1 : Nat) : Int), V ++ [b], ()) : Int × List Bool × Unit) = (((j + 1 : Nat) : Int), (false :: inp) ++ W', ()) ∧ W'.length = j + 1 ∧ ∀ i : Nat, i < j + 1 → Kb_at ((false :: inp) ++ W') (ins + 1 + (i : Int)) = (lv ((false :: inp) ++ W') (Kii_at g (i : Int)).1 && lv ((false :: inp) ++ W') (Kii_at g (i : Int)).2) := fun b hb => by
        refine ⟨W ++ [b], by rw [← hV, List.append_assoc], by simp [hW], fun i hi => ?_⟩
        rw [← List.append_assoc, hV]
        obtain ⟨b1, b2, b3, b4⟩ := r.a i (by omega)
        rw [lv_app (x := (Kii_at g (i : Int)).1) (by omega) (by omega), lv_app (x := (Kii_at g (i : Int)).2) (by omega) (by omega)]
        by_cases c : i = j
        · subst c
          have : Kb_at (V ++ [b]) (V.length : Int) = b := at_app2 (t := .bool)
          rw [show ins + 1 + (i : Int) = (V.length : Int) by omega, this, hb]
        · rw [b_app1 (by omega) (by omega), hM i (by omega)]
      unfold aig_Eval_l1b
      simp only [cond_dec, cond_if, decide_eq_true_eq]
      rw [if_pos (by omega), ask_of (by omega), ask_of (by omega), alit_f (by omega) (by omega) (by omega), bindS]
      cases hx : lv V (Kii_at g (j : Int)).1 with
      | true =>
        simp only [↓reduceIte]
        rw [ask_of (by omega), alit_f (by omega) (by omega) (by omega), bindS, ask_of (by simp; omega), succ64 (by omega)]
        obtain ⟨W', e1, e2, e3⟩ := ext _ rfl
        rw [hx, Bool.true_and] at e1
        exact ⟨_, rfl, W', e1, e2, e3⟩
      | false =>
        simp only [Bool.false_eq_true, ↓reduceIte]
        rw [ask_of (by simp; omega), succ64 (by omega)]
        obtain ⟨W', e1, e2, e3⟩ := ext _ rfl
        rw [hx, Bool.false_and] at e1
        exact ⟨_, rfl, W', e1, e2, e3⟩)
    (fun self d ⟨W, hd, hW, hM⟩ => by
      subst hd
      unfold aig_Eval_l1b
      simp only [cond_dec]
      rw [if_neg (by omega)]
      exact ⟨_, rfl, W, rfl, hW, rfl, hM⟩) (by omega) ⟨[], by simp, rfl, fun i hi => absurd hi (Nat.not_lt_zero _)⟩
  subst hR
  unfold aig_Eval
  have w1 : IntKind.wrap .i64 (1 + ins) = ((inp.length + 1 : Nat) : Int) := by rw [wrap_small (by omega) (by omega)]; omega
  have hc : cpy (List.replicate (inp.length + 1) false) 1 (inp.length + 1 - 1) inp = false :: inp := by
    unfold cpy
    simp
    omega
  rw [w1, wrap_small (x := ((inp.length + 1 : Nat) : Int) + (g.length : Int)) (by omega) (by omega), ask_of (by omega), Int.toNat_natCast, ask_of (by simp; omega), ask_of trivial, List.length_replicate, show (1 : Int).toNat = 1 from rfl, hc, show aig_Eval_l1 n g (0, false :: inp, ()) = _ from e, bindS]
  exact ⟨W, rfl, hW, hM⟩
theorem weight_f {op w u lo : Int} {wa wb wc W K : Nat} (h : NodeOK op w u lo wa wb wc W K) : ref14_Weight n op w 0 0 0 u lo = some ((K : Int), ()) := by
  have fin : ∀ {x : Int} {K : Nat}, x = K → K ≤ 100000 → (some (IntKind.wrap .i64 x, ()) : Option (Int × Unit)) = some ((K : Int), ()) := fun hx hK => by rw [hx, w64 (by omega) (by omega)]
  cases h with
  | lit k N h1 h2 h3 => rfl
  | inv k h1 h2 =>
    unfold ref14_Weight ref14_Weight_j1
    simp only [cond_dec, bindS, Int.reduceEq, ↓reduceIte, decide_true, decide_false, cond_true, cond_false]
    exact fin (by omega) (by omega)
  | red op k h0 h1 h2 =>
    rcases h0 with rfl | rfl <;> unfold ref14_Weight ref14_Weight_j1 <;> simp only [cond_dec, bindS, Int.reduceEq, ↓reduceIte, decide_true, decide_false, cond_true, cond_false] <;> exact fin (by omega) (by omega)
  | two op k h0 h1 h2 =>
    rcases h0 with rfl | rfl | rfl | rfl | rfl <;> unfold ref14_Weight ref14_Weight_j1 <;> simp only [cond_dec, bindS, Int.reduceEq, ↓reduceIte, decide_true, decide_false, cond_true, cond_false] <;> exact fin (by omega) (by omega)
  | mul k h1 h2 =>
    have hkk : 20 * wa * wa ≤ 5120 := Nat.mul_le_mul (show 20 * wa ≤ 320 by omega) h2
    unfold ref14_Weight ref14_Weight_j1
    simp only [cond_dec, bindS, Int.reduceEq, ↓reduceIte, decide_true, decide_false, cond_true, cond_false]
    exact fin (by rw [w64 (by omega) (by omega)]; push_cast; rfl) (by omega)
  | ord op k h0 h1 h2 =>
    rcases h0 with rfl | rfl | rfl | rfl <;> unfold ref14_Weight ref14_Weight_j1 <;> simp only [cond_dec, bindS, Int.reduceEq, ↓reduceIte, decide_true, decide_false, cond_true, cond_false] <;> exact fin (by omega) (by omega)
  | mux k h1 h2 =>
    unfold ref14_Weight ref14_Weight_j1
    simp only [cond_dec, bindS, Int.reduceEq, ↓reduceIte, decide_true, decide_false, cond_true, cond_false]
    exact fin (by omega) (by omega)
  | cat a b h1 h2 h3 =>
    unfold ref14_Weight ref14_Weight_j1
    simp only [cond_dec, bindS, Int.reduceEq, ↓reduceIte, decide_true, decide_false, cond_true, cond_false]
    exact fin (by omega) (by omega)
  | slice k N L h1 h2 h3 =>
    unfold ref14_Weight ref14_Weight_j1
    simp only [cond_dec, bindS, Int.reduceEq, ↓reduceIte, decide_true, decide_false, cond_true, cond_false]
    exact fin (by omega) (by omega)
end
end Go.Proofs.Ytdnfbihppellkaa.Am
