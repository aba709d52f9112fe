/- Traces of raw rows; a trace that is right; rows alike; hits. -/
import Derived.Test.YtieocmcjecpgpaaPlSim
namespace Go.Proofs.Ytieocmcjecpgpaa.Am
set_option linter.unusedVariables false
set_option linter.unusedSimpArgs false
def traceV (N : List Nd) (I : List Pn) (l : Tr) : Tr := (List.range (min l.length 64)).map fun k : Nat => rowI N I (KLw_at l (k : Int))
theorem trace_len {N I l} : (traceV N I l).length = min l.length 64 := by simp [traceV]
theorem rawV_app {a : List Int} {w : Nat → Int} {j : Nat} : rawV a w j ++ [if j < a.length then bits .and .i64 (IntKind.wrap .i64 (Kw_at a (j : Int))) (P2 (w j) - 1) else 0] = rawV a w (j + 1) := by
  unfold rawV
  rw [List.range_succ]
  simp
theorem traceRow_f {n : Nat} {N I C P Q} {l : Tr} {T : Tr} (s : Small N I C P Q) (r : RightP N I C P Q) (hn : 1000 < n) {k : Nat} (hk : k < l.length) : law11_Trace_l2 n ((k : Int), T, ()) N I l (0, [], ()) = some (rowI N I (KLw_at l (k : Int)), ()) := by
  have s2 := s.i
  exact iter_up (F := law11_Trace_l2b n ((k : Int), T, ()) N I l) (fun j => ((j : Int), rawV (KLw_at l (k : Int)) (fun j => (Kiiiiiii_at N (Ksi_at I (j : Int)).2).2.1) j, ())) (rowI N I (KLw_at l (k : Int)), ()) (len := I.length) (m := n)
    (fun self j hj => by
      obtain ⟨m0, m1, -⟩ := pin_node r.ins hj
      have hw := node_at r.nodes m0 m1
      have w1 := hw.w1
      have w16 := hw.w16
      have hl : (rawV (KLw_at l (k : Int)) (fun j => (Kiiiiiii_at N (Ksi_at I (j : Int)).2).2.1) j).length = j := by simp [rawV]
      unfold law11_Trace_l2b law11_Trace_j1
      simp only [cond_dec]
      rw [if_pos (by omega), ask_of (by omega), ← rawV_app]
      by_cases h : j < (KLw_at l (k : Int)).length
      · rw [if_pos (by omega), ask_of (by omega), ask_of (by omega), ask_of (by omega), ask_of (by omega), rmask_f (by omega) (by omega)]
        simp only [bindS]
        rw [ask_of (by simp; omega), succ64 (by omega), if_pos h]
      · rw [if_neg (by omega)]
        simp only [bindS]
        rw [ask_of (by simp; omega), succ64 (by omega), if_neg h])
    (fun self => by
      unfold law11_Trace_l2b
      simp only [cond_dec]
      rw [if_neg (by omega)]
      rfl) (by omega)
theorem trace_f {n : Nat} {N I C P Q} {l : Tr} (s : Small N I C P Q) (r : RightP N I C P Q) (hn : 1000 < n) : law11_Trace n N I C P Q l = some (traceV N I l, ()) := by
  have h := iter_up (F := law11_Trace_l3b n N I l) (fun j => ((j : Int), (List.range j).map (fun k : Nat => rowI N I (KLw_at l (k : Int))), ())) (traceV N I l, ()) (len := min l.length 64) (m := n)
    (fun self j hj => by
      unfold law11_Trace_l3b
      simp only [cond_dec]
      rw [if_pos (by omega), if_pos (by omega), traceRow_f s r hn (by omega), bindS, ask_of (by simp; omega), succ64 (by omega)]
      simp only
      rw [range_app (g := fun k : Nat => rowI N I (KLw_at l (k : Int)))])
    (fun self => by
      unfold law11_Trace_l3b
      simp only [cond_dec]
      by_cases c : l.length < 64
      · rw [if_neg (by omega)]; rfl
      · by_cases e : ((min l.length 64 : Nat) : Int) < (l.length : Int)
        · rw [if_pos e, if_neg (by omega)]; rfl
        · rw [if_neg e]; rfl) (by omega)
  unfold law11_Trace law11_Trace_l3
  rw [show iter (law11_Trace_l3b n N I l) n (0, [], ()) = _ from h]
  rfl
def U16r (l : Tr) : Prop := ∀ x ∈ l, U16s x
theorem u16_row {l : Tr} (h : U16r l) {k : Nat} (hk : k < l.length) : U16s (KLw_at l (k : Int)) := h _ (mem_at (t := KLw_) hk)
theorem trace_at {N I l} {k : Nat} (hk : k < (traceV N I l).length) : KLi_at (traceV N I l) (k : Int) = rowI N I (KLw_at l (k : Int)) := at_range (t := KLi_) (by rw [trace_len] at hk; exact hk)
theorem trace_fit {N I C P Q} {l : Tr} (r : RightP N I C P Q) (h : U16r l) : FitT N I (traceV N I l) := by
  refine ⟨by rw [trace_len]; omega, fun k hk => ?_⟩
  rw [trace_at hk]
  rw [trace_len] at hk
  exact fit_rowI r (u16_row h (by omega))
/-- A trace is right. -/
def RightT (N : List Nd) (I : List Pn) (t : Tr) : Prop := t.length ≤ 64 ∧ ∀ k : Nat, k < t.length → FitI N I (KLi_at t (k : Int))
theorem RightT.fit {N I t} (h : RightT N I t) : FitT N I t := ⟨by have := h.1; omega, h.2⟩
theorem odd_f {n : Nat} {N I C P Q} {x : Int} {nm : ByteArray} {a : Int} (ha : 0 ≤ a ∧ a < N.length) (hw : 1 ≤ (Kiiiiiii_at N a).2.1 ∧ (Kiiiiiii_at N a).2.1 ≤ 16) : ∃ b : Bool, sim_Right_1 n x nm a [(N, I, C, P, Q)] 0 = some (b, ()) ∧ (b = true ↔ ¬ Num_ (Kiiiiiii_at N a).2.1 x) := by
  unfold sim_Right_1
  have e : (KLPiiiiiiiELPsiELPsiiiELPisiELPsiE_at [(N, I, C, P, Q)] 0).1 = N := rfl
  simp only [cond_dec, e]
  by_cases h : x < 0
  · rw [if_pos h]
    exact ⟨true, rfl, by simp [Num_]; omega⟩
  · rw [if_neg h, ask_of (by omega), ask_of (by omega), shr_p2 (by omega)]
    refine ⟨_, rfl, ?_⟩
    have hp := p2_pos (Kiiiiiii_at N a).2.1
    simp only [decide_eq_true_eq, Num_, not_and]
    constructor
    · intro q _ q2
      exact q (Int.ediv_eq_zero_of_lt (by omega) q2)
    · intro q z
      have := q (by omega)
      have h2 : x / P2 (Kiiiiiii_at N a).2.1 ≥ 1 := by
        have h3 := Int.ediv_le_ediv (c := P2 (Kiiiiiii_at N a).2.1) (by omega) (show P2 (Kiiiiiii_at N a).2.1 ≤ x by omega)
        rw [Int.ediv_self (by omega)] at h3
        exact h3
      omega
theorem rightRow_f {n : Nat} {N I C P Q} {t : Tr} {k : Nat} (s : Small N I C P Q) (r : RightP N I C P Q) (hn : 1000 < n) (hl : (KLi_at t (k : Int)).length = I.length) : (FitI N I (KLi_at t (k : Int)) ∧ sim_Right_l1 n ((k : Int), ()) N I C P Q t (0, ()) = some (.inr ())) ∨ (¬ FitI N I (KLi_at t (k : Int)) ∧ sim_Right_l1 n ((k : Int), ()) N I C P Q t (0, ()) = some (.inl (false, ()))) := by
  have s2 := s.i
  have l1 := iter_all (F := sim_Right_l1b n ((k : Int), ()) N I C P Q t) (fun j => ((j : Int), ())) (fun j => Num_ (Kiiiiiii_at N (Ksi_at I (j : Int)).2).2.1 (Ki_at (KLi_at t (k : Int)) (j : Int))) (fun _ => (false, ())) () (len := I.length) (m := n)
    (fun self j hj hall hk => by
      obtain ⟨m0, m1, -⟩ := pin_node r.ins hj
      have hw := node_at r.nodes m0 m1
      obtain ⟨b, hb, hf⟩ := odd_f (n := n) (N := N) (I := I) (C := C) (P := P) (Q := Q) (x := Ki_at (KLi_at t (k : Int)) (j : Int)) (nm := (Ksi_at I (j : Int)).1) ⟨m0, m1⟩ ⟨hw.w1, hw.w16⟩
      unfold sim_Right_l1b
      simp only [cond_dec]
      rw [if_pos (by omega), ask_of (by omega), ask_of (by omega), hb, bindS]
      have : b = false := by cases b with | false => rfl | true => exact absurd hk (hf.1 rfl)
      subst this
      rw [succ64 (by omega)]
      rfl)
    (fun self j hj hall hk => by
      obtain ⟨m0, m1, -⟩ := pin_node r.ins hj
      have hw := node_at r.nodes m0 m1
      obtain ⟨b, hb, hf⟩ := odd_f (n := n) (N := N) (I := I) (C := C) (P := P) (Q := Q) (x := Ki_at (KLi_at t (k : Int)) (j : Int)) (nm := (Ksi_at I (j : Int)).1) ⟨m0, m1⟩ ⟨hw.w1, hw.w16⟩
      unfold sim_Right_l1b
      simp only [cond_dec]
      rw [if_pos (by omega), ask_of (by omega), ask_of (by omega), hb, bindS, hf.2 hk]
      rfl)
    (fun _ self => by
      unfold sim_Right_l1b
      simp only [cond_dec]
      rw [if_neg (by omega)]) (by omega)
  rcases l1 with ⟨h, e⟩ | ⟨j, hj, -, hk, e⟩
  · exact .inl ⟨⟨hl, h⟩, e⟩
  · exact .inr ⟨fun q => hk (q.2 j hj), e⟩
theorem simRight_f {n : Nat} {N I C P Q} {t : Tr} (s : Small N I C P Q) (r : RightP N I C P Q) (ht : t.length ≤ 300) (hn : 1000 < n) : ∃ b : Bool, sim_Right n N I C P Q t = some (b, ()) ∧ (b = true ↔ RightT N I t) := by
  have l2 := iter_all (F := sim_Right_l2b n N I C P Q t) (fun j => ((j : Int), ())) (fun j => FitI N I (KLi_at t (j : Int))) (fun _ => (false, ())) () (len := t.length) (m := n)
    (fun self j hj hall hk => by
      have h0 := hk.1
      unfold sim_Right_l2b
      simp only [cond_dec]
      rw [if_pos (by omega), ask_of (by omega), if_neg (by omega)]
      rcases rightRow_f (t := t) (k := j) s r hn h0 with ⟨-, e⟩ | ⟨q, -⟩
      · rw [e, bindS, succ64 (by omega)]; rfl
      · exact absurd hk q)
    (fun self j hj hall hk => by
      unfold sim_Right_l2b
      simp only [cond_dec]
      rw [if_pos (by omega), ask_of (by omega)]
      by_cases h0 : (KLi_at t (j : Int)).length = I.length
      · rw [if_neg (by omega)]
        rcases rightRow_f (t := t) (k := j) s r hn h0 with ⟨q, -⟩ | ⟨-, e⟩
        · exact absurd q hk
        · rw [e, bindS]; rfl
      · rw [if_pos (by omega)])
    (fun _ self => by
      unfold sim_Right_l2b
      simp only [cond_dec]
      rw [if_neg (by omega)]) (by omega)
  unfold sim_Right sim_Right_l2
  rcases l2 with ⟨h, e⟩ | ⟨j, hj, -, hk, e⟩
  · rw [show iter (sim_Right_l2b n N I C P Q t) n (0, ()) = _ from e, bindS, Sum.elim_inr]
    refine ⟨_, rfl, ?_⟩
    simp only [decide_eq_true_eq]
    exact ⟨fun q => ⟨by omega, h⟩, fun q => by have := q.1; omega⟩
  · rw [show iter (sim_Right_l2b n N I C P Q t) n (0, ()) = _ from e, bindS, Sum.elim_inl]
    exact ⟨false, rfl, by simp; exact fun q => hk (q.2 j hj)⟩
/-- Alike rows. -/
theorem sameRows_f {n : Nat} {x : Tr} (hx : x.length ≤ 1000) (hr : ∀ k : Nat, k < x.length → (KLi_at x (k : Int)).length ≤ 1000) (hn : 1000 < n) : ref11_SameRows n x x = some (true, ()) := by
  have row : ∀ k : Nat, k < x.length → ref11_SameRows_l1 n ((k : Int), ()) x x (0, ()) = some (.inr ()) := fun k hk => by
    have := hr k hk
    exact iter_up (F := ref11_SameRows_l1b n ((k : Int), ()) x x) (fun j => ((j : Int), ())) (.inr ()) (len := (KLi_at x (k : Int)).length) (m := n)
      (fun self j hj => by
        unfold ref11_SameRows_l1b
        simp only [cond_dec]
        rw [ask_of (by omega), if_pos (by omega), ask_of (by omega), ask_of (by omega), ask_of (by omega), ask_of (by omega), if_neg (by simp), succ64 (by omega)])
      (fun self => by
        unfold ref11_SameRows_l1b
        simp only [cond_dec]
        rw [ask_of (by omega), if_neg (by omega)]) (by omega)
  have h := iter_up (F := ref11_SameRows_l2b n x x) (fun j => ((j : Int), ())) (.inr ()) (len := x.length) (m := n)
    (fun self j hj => by
      unfold ref11_SameRows_l2b
      simp only [cond_dec]
      rw [if_pos (by omega), ask_of (by omega), ask_of (by omega), if_neg (by simp), row j hj, bindS, succ64 (by omega)]
      rfl)
    (fun self => by
      unfold ref11_SameRows_l2b
      simp only [cond_dec]
      rw [if_neg (by omega)]) (by omega)
  unfold ref11_SameRows ref11_SameRows_l2
  simp only [cond_dec]
  rw [if_neg (by simp), show iter (ref11_SameRows_l2b n x x) n (0, ()) = _ from h]
  rfl
end Go.Proofs.Ytieocmcjecpgpaa.Am
