/- Circuits' steps; what the bits of a net's circuit are. -/
import Derived.Test.YtnjoiokbeknopaaGreatPnR
namespace Go.Proofs.YtnjoiokbeknopaaGreat.Am
set_option linter.unusedVariables false
set_option linter.unusedSimpArgs false
section
variable {n : Nat} {ins : Int} {g : List Kii}
theorem b_app1 {V W : List Bool} {k : Int} (h0 : 0 ≤ k) (h : k < (V.length : Int)) : Kb_at (V ++ W) k = Kb_at V k := by
  obtain ⟨j, rfl⟩ := Int.eq_ofNat_of_zero_le h0
  exact at_app1 (t := .bool) (by omega)
theorem lv_app {V W : List Bool} {x : Int} (h0 : 0 ≤ x) (h : x / 2 < (V.length : Int)) : lv (V ++ W) x = lv V x := by
  unfold lv
  rw [b_app1 (by omega) h]
theorem alit_f {V : List Bool} {x : Int} (h0 : 0 ≤ x) (h1 : x / 2 < (V.length : Int)) (h2 : x < 1000000) : aig_Lit n V x = some (lv V x, ()) := by
  unfold aig_Lit
  have sh : shrI .i64 x 1 = x / 2 := shr_p2 (by omega)
  rw [ask_of (by omega), sh, ask_of (by omega), and_one _ h0 (by omega)]
  rfl
theorem aeval_f {inp : List Bool} (r : RG ins g) (hi : (inp.length : Int) = ins) (hn : 30000 < n) : ∃ W, aig_Eval_o n ins g inp = some ((false :: inp) ++ W, ()) ∧ W.length = g.length ∧ Mod ins g ((false :: inp) ++ W) := by
  have i0 := r.i0
  have i1 := r.i1
  have hg := r.len
  have hV0 : (false :: inp).length = inp.length + 1 := rfl
  obtain ⟨R, e, W, hR, hW, hM⟩ := iter_ex (F := aig_Eval_o_l1b n g) (len := g.length) (m := n) (d := (0, false :: inp, ()))
    (fun j d => ∃ W, d = ((j : Int), (false :: inp) ++ W, ()) ∧ W.length = j ∧ ∀ i : Nat, i < j → Kb_at ((false :: inp) ++ W) (ins + 1 + (i : Int)) = (lv ((false :: inp) ++ W) (Kii_at g (i : Int)).1 && lv ((false :: inp) ++ W) (Kii_at g (i : Int)).2))
    (fun R => ∃ W, R = ((false :: inp) ++ W, ()) ∧ W.length = g.length ∧ Mod ins g ((false :: inp) ++ W))
    (fun self j d hj ⟨W, hd, hW, hM⟩ => by
      subst hd
      obtain ⟨a1, a2, a3, a4⟩ := r.a j hj
      have hlen : ((false :: inp) ++ W).length = inp.length + 1 + j := by simp [hW]; omega
      generalize hV : (false :: inp) ++ W = V at hM hlen ⊢
      have ext : ∀ b, b = (lv V (Kii_at g (j : Int)).1 && lv V (Kii_at g (j : Int)).2) → ∃ W', ((((j + 1 : Nat) : Int), V ++ [b], ()) : Int × List Bool × Unit) = (((j + 1 : Nat) : Int), (false :: inp) ++ W', ()) ∧ W'.length = j + 1 ∧ ∀ i : Nat, i < j + 1 → Kb_at ((false :: inp) ++ W') (ins + 1 + (i : Int)) = (lv ((false :: inp) ++ W') (Kii_at g (i : Int)).1 && lv ((false :: inp) ++ W') (Kii_at g (i : Int)).2) := fun b hb => by
        refine ⟨W ++ [b], by rw [← hV, List.append_assoc], by simp [hW], fun i hi => ?_⟩
        rw [← List.append_assoc, hV]
        obtain ⟨b1, b2, b3, b4⟩ := r.a i (by omega)
        rw [lv_app (x := (Kii_at g (i : Int)).1) (by omega) (by omega), lv_app (x := (Kii_at g (i : Int)).2) (by omega) (by omega)]
        by_cases c : i = j
        · subst c
          have : Kb_at (V ++ [b]) (V.length : Int) = b := at_app2 (t := .bool)
          rw [show ins + 1 + (i : Int) = (V.length : Int) by omega, this, hb]
        · rw [b_app1 (by omega) (by omega), hM i (by omega)]
      unfold aig_Eval_o_l1b
      simp only [cond_dec, cond_if, decide_eq_true_eq]
      rw [if_pos (by omega), ask_of (by omega), ask_of (by omega), alit_f (by omega) (by omega) (by omega), bindS]
      cases hx : lv V (Kii_at g (j : Int)).1 with
      | true =>
        simp only [↓reduceIte]
        rw [ask_of (by omega), alit_f (by omega) (by omega) (by omega), bindS, ask_of (by simp; omega), succ64 (by omega)]
        obtain ⟨W', e1, e2, e3⟩ := ext _ rfl
        rw [hx, Bool.true_and] at e1
        exact ⟨_, rfl, W', e1, e2, e3⟩
      | false =>
        simp only [Bool.false_eq_true, ↓reduceIte]
        rw [ask_of (by simp; omega), succ64 (by omega)]
        obtain ⟨W', e1, e2, e3⟩ := ext _ rfl
        rw [hx, Bool.false_and] at e1
        exact ⟨_, rfl, W', e1, e2, e3⟩)
    (fun self d ⟨W, hd, hW, hM⟩ => by
      subst hd
      unfold aig_Eval_o_l1b
      simp only [cond_dec]
      rw [if_neg (by omega)]
      exact ⟨_, rfl, W, rfl, hW, rfl, hM⟩) (by omega) ⟨[], by simp, rfl, fun i hi => absurd hi (Nat.not_lt_zero _)⟩
  subst hR
  unfold aig_Eval_o
  have w1 : IntKind.wrap .i64 (1 + ins) = ((inp.length + 1 : Nat) : Int) := by rw [wrap_small (by omega) (by omega)]; omega
  have hc : cpy (List.replicate (inp.length + 1) false) 1 (inp.length + 1 - 1) inp = false :: inp := by
    unfold cpy
    simp
    omega
  rw [w1, wrap_small (x := ((inp.length + 1 : Nat) : Int) + (g.length : Int)) (by omega) (by omega), ask_of (by omega), Int.toNat_natCast, ask_of (by simp; omega), ask_of trivial, List.length_replicate, show (1 : Int).toNat = 1 from rfl, hc, show aig_Eval_o_l1 n g (0, false :: inp, ()) = _ from e, bindS]
  exact ⟨W, rfl, hW, hM⟩
/-- A circuit's step. -/
theorem step15_w {iL oL : List Kiii} {lL : List Kiibii} {lats inps : List Bool} (h : CircR ins g iL lL oL) (h1 : lats.length = lL.length) (h2 : inps.length = iL.length) (hn : 30000 < n) : ∃ W, circ_Step n ins g iL lL oL lats inps = some ((List.range lL.length).map (fun j : Nat => lv ((false :: (inps ++ lats)) ++ W) (Kiibii_at lL (j : Int)).2.1), (List.range oL.length).map (fun j : Nat => lv ((false :: (inps ++ lats)) ++ W) (Kiii_at oL (j : Int)).2.1), ()) ∧ W.length = g.length ∧ Mod ins g ((false :: (inps ++ lats)) ++ W) := by
  have hr := h.r
  have i0 := hr.i0
  have i1 := hr.i1
  have hg := hr.len
  have hs := h.sum
  have h256 := h.l256
  have ho := h.o1000
  have hlen : ((inps ++ lats).length : Int) = ins := by simp; omega
  obtain ⟨W, e, hW, hM⟩ := aeval_f (n := n) (inp := inps ++ lats) hr hlen hn
  refine ⟨W, ?_, hW, hM⟩
  have hV : ((false :: (inps ++ lats)) ++ W).length = 1 + ins.toNat + g.length := by simp at hlen ⊢; omega
  unfold circ_Step
  have hw : IntKind.wrap .i64 ((inps.length : Int) + (lats.length : Int)) = (inps.length : Int) + (lats.length : Int) := w64 (by omega) (by omega)
  rw [hw, ask_of (by omega), show List.replicate (0 : Int).toNat false = [] from rfl, List.nil_append, ask_of (by simp; omega), ask_of (by simp; omega), e, bindS]
  generalize (false :: (inps ++ lats)) ++ W = V at hV ⊢
  have l1 := iter_up (F := circ_Step_l1b n (V, ()) lL) (fun j => ((j : Int), fillN lL.length (fun j : Nat => lv V (Kiibii_at lL (j : Int)).2.1) false j, ())) ((List.range lL.length).map (fun j : Nat => lv V (Kiibii_at lL (j : Int)).2.1), ()) (len := lL.length) (m := n)
    (fun self j hj => by
      have hl := fillN_len (g := fun j : Nat => lv V (Kiibii_at lL (j : Int)).2.1) (z := false) (Nat.le_of_lt hj)
      obtain ⟨q1, q2, q3, q4, q5⟩ := h.l j hj
      unfold circ_Step_l1b
      simp only [cond_dec]
      rw [if_pos (by omega), ask_of (by omega), alit_f q4 (by omega) (by omega), bindS]
      simp only
      rw [ask_of (by omega), succ64 (by omega), Int.toNat_natCast, ← fillN_set hj])
    (fun self => by
      unfold circ_Step_l1b
      simp only [cond_dec]
      rw [if_neg (by omega), fillN_n]) (by omega)
  have l2 := iter_up (F := circ_Step_l2b n (V, ()) oL) (fun j => ((j : Int), fillN oL.length (fun j : Nat => lv V (Kiii_at oL (j : Int)).2.1) false j, ())) ((List.range oL.length).map (fun j : Nat => lv V (Kiii_at oL (j : Int)).2.1), ()) (len := oL.length) (m := n)
    (fun self j hj => by
      have hl := fillN_len (g := fun j : Nat => lv V (Kiii_at oL (j : Int)).2.1) (z := false) (Nat.le_of_lt hj)
      obtain ⟨q1, q2, q3, q4, q5⟩ := h.o j hj
      unfold circ_Step_l2b
      simp only [cond_dec]
      rw [if_pos (by omega), ask_of (by omega), alit_f q4 (by omega) (by omega), bindS]
      simp only
      rw [ask_of (by omega), succ64 (by omega), Int.toNat_natCast, ← fillN_set hj])
    (fun self => by
      unfold circ_Step_l2b
      simp only [cond_dec]
      rw [if_neg (by omega), fillN_n]) (by omega)
  rw [fillN_0] at l1 l2
  rw [ask_of (by omega), ask_of (by omega), Int.toNat_natCast, Int.toNat_natCast, show circ_Step_l1 n (V, ()) lL (0, List.replicate lL.length false, ()) = _ from l1, bindS, show circ_Step_l2 n (V, ()) oL (0, List.replicate oL.length false, ()) = _ from l2, bindS]
theorem step15_f {iL oL : List Kiii} {lL : List Kiibii} {lats inps : List Bool} (h : CircR ins g iL lL oL) (h1 : lats.length = lL.length) (h2 : inps.length = iL.length) (hn : 30000 < n) : ∃ W, circ_Step n ins g iL lL oL lats inps = some ((List.range lL.length).map (fun j : Nat => lv ((false :: (inps ++ lats)) ++ W) (Kiibii_at lL (j : Int)).2.1), (List.range oL.length).map (fun j : Nat => lv ((false :: (inps ++ lats)) ++ W) (Kiii_at oL (j : Int)).2.1), ()) ∧ Mod ins g ((false :: (inps ++ lats)) ++ W) := by
  obtain ⟨W, e, -, hM⟩ := step15_w (n := n) h h1 h2 hn
  exact ⟨W, e, hM⟩
end
/-- A number's bits tell it. -/
theorem nb_num {x : Int} {w : Nat} (h0 : 0 ≤ x) (h1 : x < P2 (w : Int)) (hw : w ≤ 16) : ((nb ((List.range w).map (bitB x)) : Nat) : Int) = x := by
  have h2 := p2_16 (k := (w : Int)) (by omega)
  have e : nb ((List.range w).map (bitB x)) = x.toNat := by
    refine nb_bits (fun k hk => ?_) (by simp only [List.length_map, List.length_range]; rw [p2_nat] at h1; omega)
    have hk' : k < w := by simpa using hk
    rw [List.getD_eq_getElem?_getD]
    simp only [List.getElem?_map, List.getElem?_range hk', Option.map_some, Option.getD_some]
    exact bitB_tb h0 (by omega) (by omega)
  omega
/-- A bit of what bits mean. -/
theorem bitB_nb {l : List Bool} {k : Nat} (hl : l.length ≤ 16) (hk : k < l.length) : bitB (nb l : Nat) k = Kb_at l (k : Int) := by
  have h1 := nb_lt l
  have h2 : 2 ^ l.length ≤ 2 ^ 16 := Nat.pow_le_pow_right (by omega) hl
  rw [bitB_tb (by omega) (by omega) (by omega), Int.toNat_natCast, testBit_nb]
  show _ = at_ b_ l (k : Int)
  rw [at_nat (t := b_) hk, List.getD_eq_getElem?_getD, List.getElem?_eq_getElem hk]
  rfl
theorem bv_at {V : List Bool} {l : List Int} {k : Nat} (hk : k < l.length) : Kb_at (bv V l) (k : Int) = lv V (Ki_at l (k : Int)) := by
  show at_ b_ (bv V l) (k : Int) = lv V (at_ i_ l (k : Int))
  rw [at_nat (t := b_) (by rw [bv_len]; exact hk), at_nat (t := i_) hk]
  simp [bv]
/-- Variables' bits. -/
theorem bv_var {V : List Bool} {first w : Nat} : bv V (varB first w) = (List.range w).map fun k => Kb_at V ((first + k : Nat) : Int) := by
  unfold bv varB
  rw [List.map_map]
  refine List.map_congr_left fun k _ => ?_
  show lv V ((2 * (first + k) : Nat) : Int) = _
  unfold lv
  rw [show ((2 * (first + k) : Nat) : Int) / 2 = ((first + k : Nat) : Int) by omega, decide_eq_false (by omega)]
  exact Bool.bne_false _
end Go.Proofs.YtnjoiokbeknopaaGreat.Am
