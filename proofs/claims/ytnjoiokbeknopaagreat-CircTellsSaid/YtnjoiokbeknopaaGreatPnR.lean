/- Rows of inputs, and their bits. -/
import Derived.Test.YtnjoiokbeknopaaGreatPnC6
namespace Go.Proofs.YtnjoiokbeknopaaGreat.Am
set_option linter.unusedVariables false
set_option linter.unusedSimpArgs false
def FitI (N : List Nd) (I : List Pn) (xs : List Int) : Prop := xs.length = I.length ∧ ∀ j : Nat, j < I.length → Num_ (Kiiiiiii_at N (Ksi_at I j).2).2.1 (Ki_at xs (j : Int))
def FitC (N : List Nd) (C : List Cl) (xs : List Int) : Prop := xs.length = C.length ∧ ∀ j : Nat, j < C.length → Num_ (Kiiiiiii_at N (Ksiii_at C j).2.1).2.1 (Ki_at xs (j : Int))
theorem num_and {x w : Int} (hx : 0 ≤ x ∧ x ≤ 65535) (h1 : 1 ≤ w) (h2 : w ≤ 16) : Num_ w (bits .and .i64 (IntKind.wrap .i64 x) (P2 w - 1)) := by
  rw [and_mask (by omega) (by omega)]
  exact num_mod _ _
/-- Raw numbers, cut to widths; 0 where there are none. -/
def rawV (a : List Int) (w : Nat → Int) (n : Nat) : List Int := (List.range n).map fun j => if j < a.length then bits .and .i64 (IntKind.wrap .i64 (Kw_at a (j : Int))) (P2 (w j) - 1) else 0
def rowC (N : List Nd) (C : List Cl) (a : List Int) : List Int := rawV a (fun j => (Kiiiiiii_at N (Ksiii_at C (j : Int)).2.1).2.1) C.length
def rowI (N : List Nd) (I : List Pn) (b : List Int) : List Int := rawV b (fun j => (Kiiiiiii_at N (Ksi_at I (j : Int)).2).2.1) I.length
def U16s (a : List Int) : Prop := ∀ x ∈ a, (Lit.int .u16 x).wf = true
theorem u16_at {a : List Int} (h : U16s a) {j : Nat} (hj : j < a.length) : 0 ≤ Kw_at a (j : Int) ∧ Kw_at a (j : Int) ≤ 65535 := lit_u16 (h _ (mem_at (t := u16_) hj))
theorem raw_fit {a : List Int} (ha : U16s a) {w : Nat → Int} {n : Nat} (hw : ∀ j, j < n → 1 ≤ w j ∧ w j ≤ 16) {j : Nat} (hj : j < n) : Num_ (w j) (Ki_at (rawV a w n) (j : Int)) := by
  rw [show Ki_at (rawV a w n) (j : Int) = _ from at_range (t := i_) hj]
  split
  · rename_i h
    exact num_and (u16_at ha h) (hw j hj).1 (hw j hj).2
  · exact num_zero _
theorem fit_rowC {N I C P Q} (r : RightP N I C P Q) {a : List Int} (ha : U16s a) : FitC N C (rowC N C a) := by
  refine ⟨by simp [rowC, rawV], fun j hj => raw_fit ha (fun j hj => ?_) hj⟩
  obtain ⟨m0, m1, -⟩ := cell_node r.cells hj
  have hw := node_at r.nodes m0 m1
  exact ⟨hw.w1, hw.w16⟩
theorem fit_rowI {N I C P Q} (r : RightP N I C P Q) {b : List Int} (hb : U16s b) : FitI N I (rowI N I b) := by
  refine ⟨by simp [rowI, rawV], fun j hj => raw_fit hb (fun j hj => ?_) hj⟩
  obtain ⟨m0, m1, -⟩ := pin_node r.ins hj
  have hw := node_at r.nodes m0 m1
  exact ⟨hw.w1, hw.w16⟩
theorem rows_f {n : Nat} {N I C P Q} {a b : List Int} (s : Small N I C P Q) (r : RightP N I C P Q) (hn : 1000 < n) : law09_Rows n N I C P Q a b = some (rowC N C a, rowI N I b, ()) := by
  have s2 := s.i
  have s3 := s.c
  have l2 := iter_up (F := law09_Rows_l2b n N C a) (fun j => ((j : Int), (List.range j).map (fun j => if j < a.length then bits .and .i64 (IntKind.wrap .i64 (Kw_at a (j : Int))) (P2 (Kiiiiiii_at N (Ksiii_at C (j : Int)).2.1).2.1 - 1) else 0), ())) (rowC N C a, ()) (len := C.length) (m := n)
    (fun self j hj => by
      obtain ⟨m0, m1, -⟩ := cell_node r.cells hj
      have hw := node_at r.nodes m0 m1
      have w1 := hw.w1
      have w16 := hw.w16
      have e : law09_Rows_j1 n ((j : Int), (List.range j).map (fun j => if j < a.length then bits .and .i64 (IntKind.wrap .i64 (Kw_at a (j : Int))) (P2 (Kiiiiiii_at N (Ksiii_at C (j : Int)).2.1).2.1 - 1) else 0), ()) N C a = some (if j < a.length then bits .and .i64 (IntKind.wrap .i64 (Kw_at a (j : Int))) (P2 (Kiiiiiii_at N (Ksiii_at C (j : Int)).2.1).2.1 - 1) else 0, ()) := by
        unfold law09_Rows_j1
        simp only [cond_dec]
        by_cases h : j < a.length
        · rw [if_pos (by omega), ask_of (by omega), ask_of (by omega), ask_of (by omega), rmask_f (by omega) (by omega), if_pos h]
          rfl
        · rw [if_neg (by omega), if_neg h]
      unfold law09_Rows_l2b
      simp only [cond_dec]
      rw [if_pos (by omega), e, bindS, ask_of (by simp; omega), succ64 (by omega)]
      simp only
      rw [range_app (g := fun j : Nat => if j < a.length then bits .and .i64 (IntKind.wrap .i64 (Kw_at a (j : Int))) (P2 (Kiiiiiii_at N (Ksiii_at C (j : Int)).2.1).2.1 - 1) else 0)])
    (fun self => by
      unfold law09_Rows_l2b
      simp only [cond_dec]
      rw [if_neg (by omega)]
      rfl) (by omega)
  have l4 := iter_up (F := law09_Rows_l4b n N I b) (fun j => ((j : Int), (List.range j).map (fun j => if j < b.length then bits .and .i64 (IntKind.wrap .i64 (Kw_at b (j : Int))) (P2 (Kiiiiiii_at N (Ksi_at I (j : Int)).2).2.1 - 1) else 0), ())) (rowI N I b, ()) (len := I.length) (m := n)
    (fun self j hj => by
      obtain ⟨m0, m1, -⟩ := pin_node r.ins hj
      have hw := node_at r.nodes m0 m1
      have w1 := hw.w1
      have w16 := hw.w16
      have e : law09_Rows_j3 n ((j : Int), (List.range j).map (fun j => if j < b.length then bits .and .i64 (IntKind.wrap .i64 (Kw_at b (j : Int))) (P2 (Kiiiiiii_at N (Ksi_at I (j : Int)).2).2.1 - 1) else 0), ()) N I b = some (if j < b.length then bits .and .i64 (IntKind.wrap .i64 (Kw_at b (j : Int))) (P2 (Kiiiiiii_at N (Ksi_at I (j : Int)).2).2.1 - 1) else 0, ()) := by
        unfold law09_Rows_j3
        simp only [cond_dec]
        by_cases h : j < b.length
        · rw [if_pos (by omega), ask_of (by omega), ask_of (by omega), ask_of (by omega), rmask_f (by omega) (by omega), if_pos h]
          rfl
        · rw [if_neg (by omega), if_neg h]
      unfold law09_Rows_l4b
      simp only [cond_dec]
      rw [if_pos (by omega), e, bindS, ask_of (by simp; omega), succ64 (by omega)]
      simp only
      rw [range_app (g := fun j : Nat => if j < b.length then bits .and .i64 (IntKind.wrap .i64 (Kw_at b (j : Int))) (P2 (Kiiiiiii_at N (Ksi_at I (j : Int)).2).2.1 - 1) else 0)])
    (fun self => by
      unfold law09_Rows_l4b
      simp only [cond_dec]
      rw [if_neg (by omega)]
      rfl) (by omega)
  unfold law09_Rows
  rw [show law09_Rows_l2 n N C a (0, [], ()) = _ from l2, bindS, show law09_Rows_l4 n N I b (0, [], ()) = _ from l4]
  rfl
theorem set_range {α : Type} {f g : Nat → α} {m j : Nat} (h : ∀ i : Nat, i < m → i ≠ j → f i = g i) : ((List.range m).map f).set j (g j) = (List.range m).map g := by
  refine List.ext_getElem (by simp) fun i h1 h2 => ?_
  have hi : i < m := by simpa using h2
  rw [List.getElem_set]
  by_cases c : j = i
  · subst c; simp
  · rw [if_neg c]; simp; exact h i hi (Ne.symm c)
theorem bitB_tb {x : Int} {k : Nat} (h0 : 0 ≤ x) (h1 : x < 9223372036854775808) (hk : k ≤ 62) : bitB x k = x.toNat.testBit k := by
  unfold bitB
  have hp := p2_pos (k : Int)
  have hd : 0 ≤ x / P2 (k : Int) := Int.ediv_nonneg h0 (by omega)
  have hle : x / P2 (k : Int) ≤ x := Int.ediv_le_self _ h0
  rw [shr_p2 (by omega), and_one _ hd (by omega), Nat.testBit_eq_decide_div_mod_eq]
  obtain ⟨n, rfl⟩ := Int.eq_ofNat_of_zero_le h0
  have e : ((n : Int) / P2 (k : Int)) % 2 = ((n / 2 ^ k % 2 : Nat) : Int) := by
    unfold P2
    simp
  simp only [e, Int.toNat_natCast, decide_eq_decide]
  omega
/-- A part of bits, as a number. -/
def segN (X : List Bool) (b c : Nat) : Nat := nb ((List.range c).map fun k => Kb_at X ((b + k : Nat) : Int))
theorem segN_lt (X : List Bool) (b c : Nat) : segN X b c < 2 ^ c := by
  have := nb_lt ((List.range c).map fun k => Kb_at X ((b + k : Nat) : Int))
  rw [List.length_map, List.length_range] at this
  exact this
theorem segN_succ (X : List Bool) (b c : Nat) : segN X b (c + 1) = segN X b c + 2 ^ c * (Kb_at X ((b + c : Nat) : Int)).toNat := by
  unfold segN
  rw [List.range_succ, List.map_append]
  have := nb_snoc ((List.range c).map fun k => Kb_at X ((b + k : Nat) : Int)) (Kb_at X ((b + c : Nat) : Int))
  simpa using this
theorem segN_bit {X : List Bool} {b c k : Nat} (h : k < c) : (segN X b c).testBit k = Kb_at X ((b + k : Nat) : Int) := by
  unfold segN
  rw [testBit_nb, List.getD_eq_getElem?_getD]
  simp [h]
def segV (N : List Nd) (I : List Pn) (X : List Bool) (t i : Nat) : Int := (segN X (pinL N I i).length (min (t - (pinL N I i).length) (wN N (Ksi_at I (i : Int)).2)) : Nat)
def rowS (N : List Nd) (I : List Pn) (X : List Bool) (t : Nat) : List Int := (List.range I.length).map (segV N I X t)
theorem pinL_lt {i j : Nat} {N : List Nd} {I : List Pn} (h : i < j) : (pinL N I i).length + wN N (Ksi_at I (i : Int)).2 ≤ (pinL N I j).length := by
  rw [← pinL_succ]; exact pinL_mono h
theorem segV_other {N : List Nd} {I : List Pn} {X : List Bool} {i j k : Nat} (hk : k < wN N (Ksi_at I (j : Int)).2) (hij : i ≠ j) : segV N I X ((pinL N I j).length + k + 1) i = segV N I X ((pinL N I j).length + k) i := by
  unfold segV
  rcases Nat.lt_or_ge i j with c | c
  · have := pinL_lt (N := N) (I := I) c
    congr 2
    omega
  · have := pinL_lt (N := N) (I := I) (show j < i by omega)
    congr 2
    omega
theorem segV_now {N : List Nd} {I : List Pn} {X : List Bool} {j k : Nat} (hk : k ≤ wN N (Ksi_at I (j : Int)).2) : segV N I X ((pinL N I j).length + k) j = (segN X (pinL N I j).length k : Nat) := by
  unfold segV
  congr 2
  omega
theorem row_skip {N : List Nd} {I : List Pn} {X : List Bool} {j k : Nat} (hk : k < wN N (Ksi_at I (j : Int)).2) (hx : Kb_at X (((pinL N I j).length + k : Nat) : Int) = false) : rowS N I X ((pinL N I j).length + k + 1) = rowS N I X ((pinL N I j).length + k) := by
  unfold rowS
  refine List.map_congr_left fun i hi => ?_
  by_cases c : i = j
  · subst c
    rw [Nat.add_assoc, segV_now (by omega), segV_now (by omega), segN_succ, hx]
    simp
  · exact segV_other hk c
theorem row_set {N : List Nd} {I : List Pn} {X : List Bool} {j k : Nat} (hj : j < I.length) (hk : k < wN N (Ksi_at I (j : Int)).2) (h16 : wN N (Ksi_at I (j : Int)).2 ≤ 16) (hx : Kb_at X (((pinL N I j).length + k : Nat) : Int) = true) : (rowS N I X ((pinL N I j).length + k)).set j (bits .or .i64 (Ki_at (rowS N I X ((pinL N I j).length + k)) (j : Int)) (shlI .i64 1 (k : Int))) = rowS N I X ((pinL N I j).length + k + 1) := by
  have e : bits .or .i64 (Ki_at (rowS N I X ((pinL N I j).length + k)) (j : Int)) (shlI .i64 1 (k : Int)) = segV N I X ((pinL N I j).length + k + 1) j := by
    rw [show Ki_at (rowS N I X ((pinL N I j).length + k)) (j : Int) = segV N I X ((pinL N I j).length + k) j from at_range (t := i_) hj, Nat.add_assoc, segV_now (by omega), segV_now (by omega), segN_succ, hx]
    have hlt := segN_lt X (pinL N I j).length k
    have h62 := p2_16 (k := (k : Int)) (by omega)
    have hp2 : P2 (k : Int) = ((2 ^ k : Nat) : Int) := by unfold P2; simp
    rw [shl_p2 (by omega) (by omega) (by omega), Int.one_mul, hp2]
    rw [hp2] at h62
    rw [or_nat _ _ (by omega) (by omega), Nat.or_comm]
    have := Nat.two_pow_add_eq_or_of_lt hlt 1
    rw [Nat.mul_one] at this
    rw [← this]
    simp
    omega
  rw [e]
  unfold rowS
  exact set_range fun i hi hij => (segV_other hk hij).symm
/-- Bits of a row. -/
def insV15 (L : List Kiii) (x : List Int) (j : Nat) : Bool := bitB (Ki_at x (Kiii_at L (j : Int)).2.1) (Kiii_at L (j : Int)).2.2.toNat
def insL (L : List Kiii) (x : List Int) : List Bool := (List.range L.length).map (insV15 L x)
section
variable {n : Nat} {N : List Nd} {I : List Pn} {C : List Cl} {P : List Pw} {Q : List Pn} {ins : Int} {G : List Kii} {oL : List Kiii} {lL : List Kiibii}
theorem wN_16 (r : RightP N I C P Q) {j : Nat} (hj : j < I.length) : wN N (Ksi_at I (j : Int)).2 ≤ 16 := by
  obtain ⟨p0, p1, p2⟩ := pin_node r.ins hj
  have := (node_at r.nodes p0 p1).w16
  unfold wN; omega
theorem pinL_len2 (r : RightP N I C P Q) : (pinL N I I.length).length ≤ 2000 := by
  have hpl : (pinL N I I.length).length = wl N (pinN I) := by rw [pinL_len (Nat.le_refl _), List.take_of_length_le (by simp [pinN])]
  have tp := pins_there r
  have := wl_le (N := N) (l := pinN I) fun x hx => by
    have := tp.2 x hx
    unfold wN; omega
  have h2 := r.i
  simp [pinN] at this
  unfold pinN at hpl
  omega
theorem row15_f {X : List Bool} (r : RightP N I C P Q) (hX : X.length = (pinL N I I.length).length) (hn : 30000 < n) : circ_Row n ins G (pinL N I I.length) lL oL (I.length : Int) X = some (rowS N I X (pinL N I I.length).length, ()) := by
  have hi := r.i
  have hT := pinL_len2 r
  have l2 := iter_up (F := circ_Row_l2b n (pinL N I I.length) (I.length : Int) X) (fun t => ((t : Int), rowS N I X t, ())) (rowS N I X (pinL N I I.length).length, ()) (len := (pinL N I I.length).length) (m := n)
    (fun self t ht => by
      obtain ⟨j, k, h1, h2, rfl⟩ := pinL_of (N := N) (I := I) (m := I.length) ht
      obtain ⟨e, -⟩ := pinL_at (N := N) (I := I) h1 h2
      have h16 := wN_16 r h1
      have hlen : (rowS N I X ((pinL N I j).length + k)).length = I.length := by simp [rowS]
      have ej : circ_Row_j1 n ((((pinL N I j).length + k : Nat) : Int), rowS N I X ((pinL N I j).length + k), ()) (pinL N I I.length) (I.length : Int) X = some (Kb_at X (((pinL N I j).length + k : Nat) : Int), ()) := by
        unfold circ_Row_j1
        simp only [cond_dec, e]
        rw [ask_of (by omega)]
        cases Kb_at X (((pinL N I j).length + k : Nat) : Int) with
        | false => rfl
        | true =>
          simp only [cond_true]
          rw [ask_of (by omega), if_pos (by omega), ask_of (by omega), decide_eq_true (by omega)]
      unfold circ_Row_l2b
      simp only [cond_dec]
      rw [if_pos (by omega), ask_of (by omega), ej, bindS]
      simp only
      cases hx : Kb_at X (((pinL N I j).length + k : Nat) : Int) with
      | false =>
        simp only [cond_false]
        rw [succ64 (by omega), row_skip h2 hx]
      | true =>
        simp only [cond_true, e, Int.toNat_natCast]
        rw [ask_of (by omega), ask_of (by omega), ask_of (by omega), ask_of (by omega), ask_of (by omega), succ64 (by omega), row_set h1 h2 h16 hx])
    (fun self => by
      unfold circ_Row_l2b
      simp only [cond_dec]
      rw [if_neg (by omega)]) (by omega)
  have e0 : rowS N I X 0 = List.replicate I.length 0 := by
    unfold rowS
    refine List.ext_getElem (by simp) fun i h1 h2 => ?_
    simp [segV, segN, nb]
  rw [e0] at l2
  unfold circ_Row
  rw [ask_of (by omega), Int.toNat_natCast, show circ_Row_l2 n (pinL N I I.length) (I.length : Int) X (0, List.replicate I.length 0, ()) = _ from l2]
  rfl
theorem ins15_f {x : List Int} (r : RightP N I C P Q) (hx : x.length = I.length) (hn : 30000 < n) : circ_Ins n ins G (pinL N I I.length) lL oL x = some (insL (pinL N I I.length) x, ()) := by
  have hi := r.i
  have hT := pinL_len2 r
  have l1 := iter_up (F := circ_Ins_l1b n (pinL N I I.length) x) (fun j => ((j : Int), fillN (pinL N I I.length).length (insV15 (pinL N I I.length) x) false j, ())) (insL (pinL N I I.length) x, ()) (len := (pinL N I I.length).length) (m := n)
    (fun self t ht => by
      have hl := fillN_len (g := insV15 (pinL N I I.length) x) (z := false) (Nat.le_of_lt ht)
      obtain ⟨j, k, h1, h2, rfl⟩ := pinL_of (N := N) (I := I) (m := I.length) ht
      obtain ⟨e, -⟩ := pinL_at (N := N) (I := I) h1 h2
      have eb : decide ((bits .and .i64 (shrI .i64 (Ki_at x (j : Int)) (k : Int)) 1) = 1) = insV15 (pinL N I I.length) x ((pinL N I j).length + k) := by
        unfold insV15
        rw [e]
        rfl
      unfold circ_Ins_l1b
      simp only [cond_dec, e, eb]
      rw [if_pos (by omega), ask_of (by omega), ask_of (by omega), ask_of (by omega), ask_of (by omega), ask_of (by omega), ask_of (by omega), succ64 (by omega), Int.toNat_natCast, ← fillN_set ht])
    (fun self => by
      unfold circ_Ins_l1b
      simp only [cond_dec]
      rw [if_neg (by omega), fillN_n]
      rfl) (by omega)
  rw [fillN_0] at l1
  unfold circ_Ins
  rw [ask_of (by omega), Int.toNat_natCast, show circ_Ins_l1 n (pinL N I I.length) x (0, List.replicate (pinL N I I.length).length false, ()) = _ from l1]
  rfl
theorem insL_at {x : List Int} {j k : Nat} (h1 : j < I.length) (h2 : k < wN N (Ksi_at I (j : Int)).2) : Kb_at (insL (pinL N I I.length) x) (((pinL N I j).length + k : Nat) : Int) = bitB (Ki_at x (j : Int)) k := by
  obtain ⟨e, h3⟩ := pinL_at (N := N) (I := I) h1 h2
  rw [show Kb_at (insL (pinL N I I.length) x) (((pinL N I j).length + k : Nat) : Int) = _ from at_range (t := b_) h3]
  unfold insV15
  rw [e]
  rfl
theorem rowS_at {X : List Bool} {j : Nat} (hj : j < I.length) : Ki_at (rowS N I X (pinL N I I.length).length) (j : Int) = (segN X (pinL N I j).length (wN N (Ksi_at I (j : Int)).2) : Nat) := by
  rw [show Ki_at (rowS N I X (pinL N I I.length).length) (j : Int) = _ from at_range (t := i_) hj]
  unfold segV
  have := pinL_lt (N := N) (I := I) hj
  congr 2
  omega
/-- A row's bits tell it. -/
theorem row_ins {x : List Int} (r : RightP N I C P Q) (hx : FitI N I x) : rowS N I (insL (pinL N I I.length) x) (pinL N I I.length).length = x := by
  refine ext_at (t := i_) (by simp [rowS, hx.1]) fun j hj => ?_
  have hj' : j < I.length := by simpa [rowS] using hj
  obtain ⟨p0, p1, p2⟩ := pin_node r.ins hj'
  have hnode := node_at r.nodes p0 p1
  have w1 := hnode.w1
  have w16 := hnode.w16
  obtain ⟨n0, n1⟩ := hx.2 j hj'
  have h16 := p2_16 w16
  have hw : P2 (Kiiiiiii_at N (Ksi_at I (j : Int)).2).2.1 = ((2 ^ wN N (Ksi_at I (j : Int)).2 : Nat) : Int) := rfl
  rw [show at_ i_ (rowS N I (insL (pinL N I I.length) x) (pinL N I I.length).length) (j : Int) = _ from rowS_at hj']
  show _ = Ki_at x (j : Int)
  have e : segN (insL (pinL N I I.length) x) (pinL N I j).length (wN N (Ksi_at I (j : Int)).2) = (Ki_at x (j : Int)).toNat := by
    unfold segN
    refine nb_bits (fun k hk => ?_) (by simp; omega)
    have hk' : k < wN N (Ksi_at I (j : Int)).2 := by simpa using hk
    have h := wN_16 r hj'
    rw [List.getD_eq_getElem?_getD]
    simp only [List.getElem?_map, List.getElem?_range hk', Option.map_some, Option.getD_some]
    rw [insL_at hj' hk', bitB_tb n0 (by omega) (by omega)]
  rw [e]
  omega
theorem ins_row {X : List Bool} (r : RightP N I C P Q) (hX : X.length = (pinL N I I.length).length) : insL (pinL N I I.length) (rowS N I X (pinL N I I.length).length) = X := by
  refine ext_at (t := b_) (by simp [insL, hX]) fun t ht => ?_
  have ht' : t < (pinL N I I.length).length := by simpa [insL] using ht
  obtain ⟨j, k, h1, h2, rfl⟩ := pinL_of (N := N) (I := I) (m := I.length) ht'
  have h16 := wN_16 r h1
  have hlt := segN_lt X (pinL N I j).length (wN N (Ksi_at I (j : Int)).2)
  have hle : 2 ^ wN N (Ksi_at I (j : Int)).2 ≤ 2 ^ 16 := Nat.pow_le_pow_right (by omega) h16
  rw [show at_ b_ (insL (pinL N I I.length) (rowS N I X (pinL N I I.length).length)) (((pinL N I j).length + k : Nat) : Int) = _ from insL_at h1 h2, rowS_at h1, bitB_tb (by omega) (by omega) (by omega), Int.toNat_natCast, segN_bit h2]
  rfl
end
/-- As many bits. -/
def bits15 (l : List Bool) (m : Nat) : List Bool := (List.range m).map fun i => if i < l.length then Kb_at l (i : Int) else false
theorem bits15_f {n : Nat} {l : List Bool} {m : Nat} (hm : m ≤ 10000) (hn : 30000 < n) : law15_Bits n l (m : Int) = some (bits15 l m, ()) := by
  have l1 := iter_up (F := law15_Bits_l1b n l (m : Int)) (fun j => ((j : Int), bits15 l j, ())) (bits15 l m, ()) (len := m) (m := n)
    (fun self j hj => by
      unfold law15_Bits_l1b
      simp only [cond_dec]
      have hl : (bits15 l j).length = j := by simp [bits15]
      have e : bits15 l (j + 1) = bits15 l j ++ [if j < l.length then Kb_at l (j : Int) else false] := by unfold bits15; rw [List.range_succ, List.map_append]; rfl
      rw [if_pos (by omega), e]
      by_cases c : j < l.length
      · rw [if_pos (by omega), ask_of (by omega), ask_of (by rw [hl]; exact ⟨trivial, by simp; omega⟩), succ64 (by omega), if_pos c]
      · rw [if_neg (by omega), ask_of (by rw [hl]; exact ⟨trivial, by simp; omega⟩), succ64 (by omega), if_neg c])
    (fun self => by
      unfold law15_Bits_l1b
      simp only [cond_dec]
      rw [if_neg (by omega)]) (by omega)
  unfold law15_Bits
  rw [show law15_Bits_l1 n l (m : Int) (0, [], ()) = _ from l1]
  rfl
theorem sameInts_f {n : Nat} {x : List Int} (hx : x.length ≤ 6000) (hn : 30000 < n) : ref04_SameInts n x x = some (true, ()) := by
  have h := iter_up (F := ref04_SameInts_l1b n x x) (fun j => ((j : Int), ())) (.inr ()) (len := x.length) (m := n)
    (fun self j hj => by
      unfold ref04_SameInts_l1b
      simp only [cond_dec]
      rw [if_pos (by omega), ask_of (by omega), ask_of (by omega), succ64 (by omega)]
      simp)
    (fun self => by
      unfold ref04_SameInts_l1b
      simp only [cond_dec]
      rw [if_neg (by omega)]) (by omega)
  unfold ref04_SameInts ref04_SameInts_l1
  simp only [cond_dec]
  rw [if_neg (by simp), show iter (ref04_SameInts_l1b n x x) n (0, ()) = _ from h]
  rfl
end Go.Proofs.YtnjoiokbeknopaaGreat.Am
