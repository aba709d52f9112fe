/- A net's circuit: its inputs, and how its bits are numbered. -/
import Derived.Test.YtfjdhdmbbfeigaaPnC0
namespace Go.Proofs.Ytfjdhdmbbfeigaa.Am
set_option linter.unusedVariables false
set_option linter.unusedSimpArgs false
/-- How wide a node is. -/
def wN (N : List Nd) (x : Int) : Nat := (Kiiiiiii_at N x).2.1.toNat
/-- The bits of some nodes, in all. -/
def wl (N : List Nd) : List Int → Nat
  | [] => 0
  | x :: r => wN N x + wl N r
theorem wl_app (N : List Nd) : ∀ (l m : List Int), wl N (l ++ m) = wl N l + wl N m
  | [], m => by simp [wl]
  | x :: r, m => by rw [List.cons_append, wl, wl, wl_app N r m]; omega
theorem wl_take {N : List Nd} {l : List Int} {j : Nat} (h : j < l.length) : wl N (l.take (j + 1)) = wl N (l.take j) + wN N (Ki_at l (j : Int)) := by
  rw [take_at (t := i_) h, wl_app]; simp [wl]; rfl
theorem wl_le {N : List Nd} {l : List Int} (h : ∀ x ∈ l, wN N x ≤ 16) : wl N l ≤ 16 * l.length := by
  induction l with
  | nil => simp [wl]
  | cons x r ih =>
    have h1 := h x (by simp)
    have h2 := ih fun y hy => h y (by simp [hy])
    simp only [wl, List.length_cons]
    omega
def pinN (I : List Pn) : List Int := I.map (·.2)
def celN (C : List Cl) : List Int := C.map (·.2.1)
theorem pinN_at {I : List Pn} {j : Nat} (h : j < I.length) : Ki_at (pinN I) (j : Int) = (Ksi_at I (j : Int)).2 := by
  show at_ i_ (I.map (·.2)) _ = (at_ Ksi_ I _).2
  rw [at_nat (t := i_) (by simpa using h), at_nat (t := Ksi_) h]; simp
theorem celN_at {C : List Cl} {j : Nat} (h : j < C.length) : Ki_at (celN C) (j : Int) = (Ksiii_at C (j : Int)).2.1 := by
  show at_ i_ (C.map (·.2.1)) _ = (at_ Ksiii_ C _).2.1
  rw [at_nat (t := i_) (by simpa using h), at_nat (t := Ksiii_) h]; simp
/-- The inputs' bits, in their order. -/
def pinL (N : List Nd) (I : List Pn) : Nat → List Kiii
  | 0 => []
  | j + 1 => pinL N I j ++ (List.range (wN N (Ksi_at I (j : Int)).2)).map fun k => ((((pinL N I j).length + k + 1 : Nat) : Int), ((j : Int), (k : Int)))
theorem pinL_len {N : List Nd} {I : List Pn} : ∀ {j : Nat}, j ≤ I.length → (pinL N I j).length = wl N ((pinN I).take j)
  | 0, _ => by simp [pinL, wl]
  | j + 1, h => by
    rw [pinL, List.length_append, pinL_len (by omega), wl_take (l := pinN I) (by simp [pinN]; omega), pinN_at (by omega)]
    simp
def varB (first w : Nat) : List Int := (List.range w).map fun k => ((2 * (first + k) : Nat) : Int)
section
variable {n : Nat} {N : List Nd} {I : List Pn} {C : List Cl} {P : List Pw} {Q : List Pn}
theorem pins_l1 {j : Nat} {pins : List Int} {L : List Kiii} {M0 : List Kiii} (h0 : 0 ≤ (Kiiiiiii_at N (Ksi_at I (j : Int)).2).2.1) (h16 : (Kiiiiiii_at N (Ksi_at I (j : Int)).2).2.1 ≤ 16) (hL : L.length ≤ 100000) (hn : 30000 < n) : circ_Compile_l1 n ((j : Int), 0, N, I, C, P, Q, pins, M0, ()) N I (0, 0, N, I, C, P, Q, L, ()) = some (0, N, I, C, P, Q, L ++ (List.range (wN N (Ksi_at I (j : Int)).2)).map fun k => (((L.length + k + 1 : Nat) : Int), ((j : Int), (k : Int))), ()) := by
  have hw : ((wN N (Ksi_at I (j : Int)).2 : Nat) : Int) = (Kiiiiiii_at N (Ksi_at I (j : Int)).2).2.1 := by unfold wN; omega
  have l1 := iter_up (F := circ_Compile_l1b n ((j : Int), 0, N, I, C, P, Q, pins, M0, ()) N I) (fun k => ((k : Int), 0, N, I, C, P, Q, L ++ (List.range k).map fun k => (((L.length + k + 1 : Nat) : Int), ((j : Int), (k : Int))), ())) (0, N, I, C, P, Q, L ++ (List.range (wN N (Ksi_at I (j : Int)).2)).map fun k => (((L.length + k + 1 : Nat) : Int), ((j : Int), (k : Int))), ()) (len := wN N (Ksi_at I (j : Int)).2) (m := n)
    (fun self k hk => by
      unfold circ_Compile_l1b
      simp only [cond_dec]
      have e : IntKind.wrap .i64 (((L ++ (List.range k).map fun k => (((L.length + k + 1 : Nat) : Int), ((j : Int), (k : Int)))).length : Int) + 1) = ((L.length + k + 1 : Nat) : Int) := by
        rw [w64 (by simp; omega) (by simp; omega)]; simp
      rw [if_pos (by omega), e, ask_of (by simp; omega), succ64 (by omega), List.range_succ, List.map_append]
      simp)
    (fun self => by
      unfold circ_Compile_l1b
      simp only [cond_dec]
      rw [if_neg (by omega)]) (by omega)
  simp only [List.range_zero, List.map_nil, List.append_nil] at l1
  exact l1
theorem pins_l2 (s : Small N I C P Q) (r : RightP N I C P Q) (hn : 30000 < n) : circ_Compile_l2 n N I (0, 0, N, I, C, P, Q, [], [], ()) = some (0, N, I, C, P, Q, pinN I, pinL N I I.length, ()) := by
  have hi := r.i
  have hwid : ∀ x ∈ pinN I, wN N x ≤ 16 := fun x hx => by
    obtain ⟨y, hy, rfl⟩ := List.mem_map.1 hx
    have hm : y.2 ∈ frm N 21 0 N.length := by rw [← r.ins]; exact List.mem_map.2 ⟨y, hy, rfl⟩
    have h := frm_mem _ _ _ hm
    have := (node_at r.nodes (x := y.2) (by omega) (by omega)).w16
    unfold wN; omega
  have l2 := iter_up (F := circ_Compile_l2b n N I) (fun j => ((j : Int), 0, N, I, C, P, Q, (pinN I).take j, pinL N I j, ())) (0, N, I, C, P, Q, pinN I, pinL N I I.length, ()) (len := I.length) (m := n)
    (fun self j hj => by
      obtain ⟨p0, p1, p2⟩ := pin_node r.ins hj
      have hn' := node_at r.nodes p0 p1
      have hL : (pinL N I j).length ≤ 16 * 64 := by
        rw [pinL_len (by omega)]
        have := wl_le (N := N) (l := (pinN I).take j) fun x hx => hwid x (List.mem_of_mem_take hx)
        simp at this
        omega
      unfold circ_Compile_l2b
      simp only [cond_dec]
      rw [if_pos (by omega), ask_of (by omega), ask_of (by simp; omega), ask_of (by omega), pins_l1 (by have := hn'.w1; omega) hn'.w16 (by omega) hn, bindS, succ64 (by omega)]
      simp only
      rw [take_at (t := i_) (l := pinN I) (j := j) (by simpa [pinN] using hj)]
      have := pinN_at hj
      rw [show at_ i_ (pinN I) (j : Int) = (Ksi_at I (j : Int)).2 from this, pinL])
    (fun self => by
      unfold circ_Compile_l2b
      simp only [cond_dec]
      rw [if_neg (by omega), List.take_of_length_le (by simp [pinN])]) (by omega)
  exact l2
theorem cells_l3 (s : Small N I C P Q) (hn : 30000 < n) : circ_Compile_l3 n C (0, [], ()) = some (celN C, ()) := by
  have hc := s.c
  have l3 := iter_up (F := circ_Compile_l3b n C) (fun j => ((j : Int), (celN C).take j, ())) (celN C, ()) (len := C.length) (m := n)
    (fun self j hj => by
      unfold circ_Compile_l3b
      simp only [cond_dec]
      rw [if_pos (by omega), ask_of (by omega), ask_of (by simp; omega), succ64 (by omega), take_at (t := i_) (l := celN C) (j := j) (by simpa [celN] using hj)]
      have := celN_at hj
      rw [show at_ i_ (celN C) (j : Int) = (Ksiii_at C (j : Int)).2.1 from this])
    (fun self => by
      unfold circ_Compile_l3b
      simp only [cond_dec]
      rw [if_neg (by omega), List.take_of_length_le (by simp [celN])]) (by omega)
  exact l3
/-- Nodes that are there. -/
def There (N : List Nd) (l : List Int) : Prop := l.length ≤ 1000 ∧ ∀ x ∈ l, 0 ≤ x ∧ x < N.length ∧ 0 ≤ (Kiiiiiii_at N x).2.1 ∧ (Kiiiiiii_at N x).2.1 ≤ 16
theorem There.at {l : List Int} (h : There N l) {j : Nat} (hj : j < l.length) : 0 ≤ Ki_at l (j : Int) ∧ Ki_at l (j : Int) < N.length ∧ 0 ≤ (Kiiiiiii_at N (Ki_at l (j : Int))).2.1 ∧ (Kiiiiiii_at N (Ki_at l (j : Int))).2.1 ≤ 16 := h.2 _ (at_mem (t := i_) hj)
theorem There.w {l : List Int} (h : There N l) (j : Nat) : wl N (l.take j) ≤ 16000 := by
  have h1 := wl_le (N := N) (l := l.take j) fun x hx => by
    have := h.2 x (List.mem_of_mem_take hx)
    unfold wN; omega
  have := h.1
  simp at h1
  omega
theorem wide4 {l : List Int} {L : List Kiii} {M : List (Int × List Int)} (h : There N l) (hn : 30000 < n) : circ_compiler_wide_i2 n 0 N I C P Q l L M = some ((wl N l : Int), 0, N, I, C, P, Q, l, L, M, ()) := by
  have hl := h.1
  have l1 := iter_up (F := circ_compiler_wide_i2_l1b n N l) (fun j => (((wl N (l.take j) : Nat) : Int), (j : Int), ())) (((wl N l : Nat) : Int), ()) (len := l.length) (m := n)
    (fun self j hj => by
      obtain ⟨a0, a1, a2, a3⟩ := h.at hj
      have hw := h.w j
      unfold circ_compiler_wide_i2_l1b
      simp only [cond_dec]
      rw [if_pos (by omega), ask_of (by omega), ask_of (by omega), succ64 (by omega), w64 (by omega) (by omega), wl_take hj]
      congr 2
      unfold wN
      omega)
    (fun self => by
      unfold circ_compiler_wide_i2_l1b
      simp only [cond_dec]
      rw [if_neg (by omega), List.take_length]) (by omega)
  unfold circ_compiler_wide_i2
  rw [show circ_compiler_wide_i2_l1 n N l (0, 0, ()) = _ from l1, bindS]
theorem wide6 {l : List Int} {L : List Kiii} {M : List (Int × List Int)} (h : There N l) (hn : 30000 < n) : circ_compiler_wide_i2 n 0 N I C P Q l L M = some ((wl N l : Int), 0, N, I, C, P, Q, l, L, M, ()) := wide4 h hn
theorem vars_f {x : Int} {first : Nat} {ins : Int} {L : List Kiii} {M : List (Int × List Int)} (h0 : 0 ≤ x) (h1 : x < N.length) (w0 : 0 ≤ (Kiiiiiii_at N x).2.1) (w16 : (Kiiiiiii_at N x).2.1 ≤ 16) (hf : first ≤ 100000) (hn : 30000 < n) : circ_compiler_vars_i2 n x first ins N I C P Q L M = some (((first + wN N x : Nat) : Int), ins, N, I, C, P, Q, L, Mi_Li_put M x (varB first (wN N x)), ()) := by
  have hw : ((wN N x : Nat) : Int) = (Kiiiiiii_at N x).2.1 := by unfold wN; omega
  have l1 := iter_up (F := circ_compiler_vars_i2_l1b n x N) (fun k => (((first + k : Nat) : Int), (k : Int), varB first k, ())) (((first + wN N x : Nat) : Int), varB first (wN N x), ()) (len := wN N x) (m := n)
    (fun self k hk => by
      unfold circ_compiler_vars_i2_l1b
      simp only [cond_dec]
      rw [if_pos (by omega), ask_of (by simp [varB]; omega), succ64 (by omega), succ64 (by omega), w64 (by omega) (by omega)]
      have e : varB first (k + 1) = varB first k ++ [2 * ((first + k : Nat) : Int)] := by simp [varB, List.range_succ]
      rw [e]
      congr 2)
    (fun self => by
      unfold circ_compiler_vars_i2_l1b
      simp only [cond_dec]
      rw [if_neg (by omega)]) (by omega)
  unfold circ_compiler_vars_i2
  rw [ask_of (by omega), show circ_compiler_vars_i2_l1 n x N ((first : Int), 0, [], ()) = _ from l1, bindS]
end
theorem li_get {M : List (Int × List Int)} {k x : Int} {v : List Int} : Mi_Li_get (Mi_Li_put M k v) x [] = if x = k then v else Mi_Li_get M x [] := by
  have eqk : ∀ a b : Int, eqD i_ a b = true ↔ a = b := fun a b => by simp [eqD]
  unfold Mi_Li_get Mi_Li_put
  induction M with
  | nil =>
    unfold mput mget mget
    by_cases h : x = k
    · rw [(eqk x k).2 h, if_pos h]
    · rw [Bool.eq_false_iff.2 fun q => h ((eqk x k).1 q), if_neg h]
  | cons p l ih =>
    unfold mput
    cases c : eqD i_ k p.1 with
    | true =>
      have c := (eqk k p.1).1 c
      unfold mget
      by_cases h : x = k
      · rw [(eqk x k).2 h, if_pos h]
      · have h2 : eqD i_ x p.1 = false := Bool.eq_false_iff.2 fun q => h (((eqk x p.1).1 q).trans c.symm)
        simp only
        rw [Bool.eq_false_iff.2 fun q => h ((eqk x k).1 q), if_neg h, h2]
    | false =>
      have c : k ≠ p.1 := fun q => by rw [(eqk k p.1).2 q] at c; cases c
      simp only
      unfold mget
      cases h : eqD i_ x p.1 with
      | true =>
        have h := (eqk x p.1).1 h
        rw [if_neg fun q => c (q.symm.trans h)]
      | false => exact ih
theorem li_has {M : List (Int × List Int)} {k x : Int} {v : List Int} : Mi_Li_has (Mi_Li_put M k v) x = true ↔ x = k ∨ Mi_Li_has M x = true := by
  have eqk : ∀ a b : Int, eqD i_ a b = true ↔ a = b := fun a b => by simp [eqD]
  unfold Mi_Li_has Mi_Li_put
  induction M with
  | nil => unfold mput mhas mhas; simp [eqk, mhas]
  | cons p l ih =>
    unfold mput
    cases c : eqD i_ k p.1 with
    | true =>
      have c := (eqk k p.1).1 c
      simp only [mhas, Bool.or_eq_true, eqk]
      rw [← c]
      constructor
      · rintro (h | h)
        · exact .inl h
        · exact .inr (.inr h)
      · rintro (h | h | h)
        · exact .inl h
        · exact .inl h
        · exact .inr h
    | false =>
      simp only [mhas, Bool.or_eq_true, eqk]
      refine Iff.trans (or_congr Iff.rfl ih) ?_
      constructor
      · rintro (h | h | h)
        · exact .inr (.inl h)
        · exact .inl h
        · exact .inr (.inr h)
      · rintro (h | h | h)
        · exact .inr (.inl h)
        · exact .inl h
        · exact .inr (.inr h)
section
variable {n : Nat} {N : List Nd} {I : List Pn} {C : List Cl} {P : List Pw} {Q : List Pn}
/-- Variables for the bits of these nodes, one behind the other. -/
def VarsOK (N : List Nd) (LL : List Int) (M : List (Int × List Int)) (j : Nat) : Prop := (∀ i : Nat, i < j → Mi_Li_get M (Ki_at LL (i : Int)) [] = varB (1 + wl N (LL.take i)) (wN N (Ki_at LL (i : Int)))) ∧ ∀ x, Mi_Li_has M x = true ↔ x ∈ LL.take j
theorem vars_l4 {A B : Int × Int × List Nd × List Pn × List Cl × List Pw × List Pn × List Int × List Kiii × List (Int × List Int) × Unit} {LL : List Int} {ins : Int} {L : List Kiii} (hAB : A.2.2.2.2.2.2.2.1 ++ B.2.2.2.2.2.2.2.1 = LL) (h : There N LL) (hd : LL.Nodup) (hn : 30000 < n) : ∃ M, circ_Compile_l4 n A B (1, 0, ins, N, I, C, P, Q, L, [], ()) = some (ins, N, I, C, P, Q, L, M, ()) ∧ VarsOK N LL M LL.length := by
  have hl := h.1
  obtain ⟨R, e, M, hR, hM⟩ := iter_ex (F := circ_Compile_l4b n A B) (len := LL.length) (m := n) (d := (1, 0, ins, N, I, C, P, Q, L, [], ()))
    (fun j d => ∃ M, d = (((1 + wl N (LL.take j) : Nat) : Int), (j : Int), ins, N, I, C, P, Q, L, M, ()) ∧ VarsOK N LL M j)
    (fun R => ∃ M, R = (ins, N, I, C, P, Q, L, M, ()) ∧ VarsOK N LL M LL.length)
    (fun self j d hj ⟨M, hd2, hM1, hM2⟩ => by
      subst hd2
      obtain ⟨a0, a1, a2, a3⟩ := h.at hj
      have hw := h.w j
      unfold circ_Compile_l4b
      simp only [cond_dec, hAB]
      rw [if_pos (by omega), ask_of (by omega), vars_f a0 a1 a2 a3 (by omega) hn, bindS, succ64 (by omega)]
      refine ⟨_, rfl, Mi_Li_put M (Ki_at LL (j : Int)) (varB (1 + wl N (LL.take j)) (wN N (Ki_at LL (j : Int)))), ?_, fun i hi => ?_, fun x => ?_⟩
      · rw [wl_take hj, Nat.add_assoc]
      · rw [li_get]
        by_cases c : i = j
        · subst c; rw [if_pos rfl]
        · have hne : Ki_at LL (i : Int) ≠ Ki_at LL (j : Int) := fun q => by
            have h1 : Ki_at LL (i : Int) = LL[i] := at_nat (t := i_) (by omega)
            have h2 : Ki_at LL (j : Int) = LL[j] := at_nat (t := i_) hj
            rw [h1, h2] at q
            exact c ((List.getElem_inj hd).1 q)
          rw [if_neg hne, hM1 i (by omega)]
      · rw [li_has, hM2, take_at (t := i_) hj, List.mem_append, List.mem_singleton]
        exact Or.comm)
    (fun self d ⟨M, hd2, hM⟩ => by
      subst hd2
      unfold circ_Compile_l4b
      simp only [cond_dec, hAB]
      rw [if_neg (by omega)]
      exact ⟨_, rfl, M, rfl, hM⟩) (by omega) ⟨[], by simp [wl], fun i hi => absurd hi (Nat.not_lt_zero _), fun x => by simp [Mi_Li_has, mhas]⟩
  subst hR
  exact ⟨M, e, hM⟩
end
end Go.Proofs.Ytfjdhdmbbfeigaa.Am
