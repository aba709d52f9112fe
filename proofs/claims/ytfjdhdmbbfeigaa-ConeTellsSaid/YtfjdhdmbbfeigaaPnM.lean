/- The document's circuit of a net is right. -/
import Derived.Test.YtfjdhdmbbfeigaaPnW
namespace Go.Proofs.Ytfjdhdmbbfeigaa.Am
set_option linter.unusedVariables false
set_option linter.unusedSimpArgs false
section
variable {n : Nat} {N : List Nd} {I : List Pn} {C : List Cl} {P : List Pw} {Q : List Pn} {ins : Int} {G : List Kii}
theorem wNw (r : RightP N I C P Q) {j : Nat} (hj : j < N.length) : ((wN N (j : Int) : Nat) : Int) = (Kiiiiiii_at N (j : Int)).2.1 ∧ wN N (j : Int) ≤ 16 := by
  have h := r.nodes j hj
  have h1 := h.w1
  have h2 := h.w16
  unfold wN
  omega
theorem frmw_bnd (r : RightP N I C P Q) (op : Int) : ∀ j : Nat, j ≤ N.length → wl N (frm N op 0 j) ≤ 16 * j
  | 0, _ => by simp [frm, wl]
  | j + 1, hj => by
    have := frmw_bnd r op j (by omega)
    have h16 := (wNw r (j := j) (by omega)).2
    rw [frm_snoc, wl_app, Nat.zero_add]
    split
    · simp only [wl]; omega
    · simp only [wl]; omega
theorem frmw_succ {op : Int} {j : Nat} : wl N (frm N op 0 (j + 1)) = wl N (frm N op 0 j) + if (Kiiiiiii_at N (j : Int)).1 = op then wN N (j : Int) else 0 := by
  rw [frm_snoc, wl_app, Nat.zero_add]
  split
  · simp only [wl]; omega
  · simp only [wl]
theorem frmw_mono {op : Int} {i j : Nat} (h : i ≤ j) : wl N (frm N op 0 i) ≤ wl N (frm N op 0 j) := by
  induction j with
  | zero => have : i = 0 := by omega
            subst this; exact Nat.le_refl _
  | succ j ih =>
    by_cases c : i = j + 1
    · subst c; exact Nat.le_refl _
    · have := ih (by omega); rw [frmw_succ]; omega
theorem rwide_f (s : Small N I C P Q) (r : RightP N I C P Q) (op : Int) (hn : 30000 < n) : ref15_wide n N I C P Q op = some (((wl N (frm N op 0 N.length) : Nat) : Int), ()) := by
  have hN := s.n
  have l1 := iter_up (F := ref15_wide_l1b n N op) (fun j => (((wl N (frm N op 0 j) : Nat) : Int), (j : Int), ())) (((wl N (frm N op 0 N.length) : Nat) : Int), ()) (len := N.length) (m := n)
    (fun self j hj => by
      have b1 := frmw_bnd r op (j + 1) hj
      have s1 := frmw_succ (N := N) (op := op) (j := j)
      have h16 := wNw r hj
      unfold ref15_wide_l1b
      simp only [cond_dec]
      rw [if_pos (by omega), ask_of (by omega)]
      by_cases c1 : (Kiiiiiii_at N (j : Int)).1 = op
      · rw [if_pos c1] at s1
        rw [if_pos c1, ask_of (by omega), succ64 (by omega), w64 (by omega) (by omega)]
        congr 2
        omega
      · rw [if_neg c1] at s1
        rw [if_neg c1, succ64 (by omega)]
        congr 2
        omega)
    (fun self => by
      unfold ref15_wide_l1b
      simp only [cond_dec]
      rw [if_neg (by omega)]) (by omega)
  unfold ref15_wide
  rw [show ref15_wide_l1 n N op (0, 0, ()) = _ from l1, bindS]
theorem rbits_f {first w : Nat} (hf : first ≤ 100000) (hw : w ≤ 16) (hn : 30000 < n) : ref15_bits n (first : Int) (w : Int) = some (varB first w, ()) := by
  have l1 := iter_up (F := ref15_bits_l1b n (first : Int) (w : Int)) (fun j => ((j : Int), varB first j, ())) (varB first w, ()) (len := w) (m := n)
    (fun self j hj => by
      have e : varB first (j + 1) = varB first j ++ [((2 * (first + j) : Nat) : Int)] := by simp [varB, List.range_succ]
      unfold ref15_bits_l1b
      simp only [cond_dec]
      rw [if_pos (by omega), ask_of (by simp [varB]; omega), succ64 (by omega), w64 (n := (first : Int) + (j : Int)) (by omega) (by omega), w64 (by omega) (by omega), e]
      congr 4)
    (fun self => by
      unfold ref15_bits_l1b
      simp only [cond_dec]
      rw [if_neg (by omega)]) (by omega)
  unfold ref15_bits
  rw [show ref15_bits_l1 n (first : Int) (w : Int) (0, [], ()) = _ from l1, bindS]
/-- A node's operands' places stand ahead of it, if it has one. -/
theorem opABC {i : Nat} (h : NodeP N i) (o1 : (Kiiiiiii_at N (i : Int)).1 ≠ 21) (o2 : (Kiiiiiii_at N (i : Int)).1 ≠ 22) (o3 : (Kiiiiiii_at N (i : Int)).1 ≠ 1) : (0 ≤ (Kiiiiiii_at N i).2.2.1 ∧ (Kiiiiiii_at N i).2.2.1 < i) ∧ (0 ≤ (Kiiiiiii_at N i).2.2.2.1 ∧ (Kiiiiiii_at N i).2.2.2.1 < i) ∧ (0 ≤ (Kiiiiiii_at N i).2.2.2.2.1 ∧ (Kiiiiiii_at N i).2.2.2.2.1 < i) := by
  have w1 := h.w1
  have a0 := h.a0
  have b0 := h.b0
  have c0 := h.c0
  have pos : ∀ a : Int, 0 < wid N a i → 0 ≤ a ∧ a < i := fun a q => ⟨(wid_pos q).1, (wid_pos q).2.1⟩
  have ho := opk_cases h.op
  have pa := pos (Kiiiiiii_at N i).2.2.1
  have pb := pos (Kiiiiiii_at N i).2.2.2.1
  have pc := pos (Kiiiiiii_at N i).2.2.2.2.1
  have hf := h.fit
  unfold FitP at hf
  generalize wid N (Kiiiiiii_at N i).2.2.1 i = wa at *
  generalize wid N (Kiiiiiii_at N i).2.2.2.1 i = wb at *
  generalize wid N (Kiiiiiii_at N i).2.2.2.2.1 i = wc at *
  generalize Kiiiiiii_at N i = x at *
  unfold opk at a0 b0 c0
  rcases ho with o | o | o | o | o | o | o | o | o | o | o | o | o | o | o | o | o | o | o <;> simp only [o] at a0 b0 c0 hf o1 o2 o3 ⊢ <;> simp at a0 b0 c0 hf o1 o2 o3 ⊢ <;> omega
theorem NodeOK.lit_zero {op w u lo : Int} {wa wb wc W K : Nat} (h : NodeOK op w u lo wa wb wc W K) (ho : op = 1) : wa = 0 ∧ wb = 0 ∧ wc = 0 := by
  cases h <;> first | exact ⟨rfl, rfl, rfl⟩ | omega
/-- Bits of all nodes. -/
def BitsL (N : List Nd) (ins : Int) (G : List Kii) (L : List (List Int)) : Prop := RG ins G ∧ ∀ i : Nat, i < L.length → Lits ins G (KLi_at L (i : Int)) ∧ (KLi_at L (i : Int)).length = wN N (i : Int)
theorem BitsL.snoc {t : List Kii} {L : List (List Int)} {l : List Int} (h : BitsL N ins G L) (hr : RG ins (G ++ t)) (hl : Lits ins (G ++ t) l) (hw : l.length = wN N (L.length : Int)) : BitsL N ins (G ++ t) (L ++ [l]) := by
  refine ⟨hr, fun i hi => ?_⟩
  by_cases c : i < L.length
  · rw [show KLi_at (L ++ [l]) (i : Int) = KLi_at L (i : Int) from at_app1 (t := KLi_) c]
    obtain ⟨h1, h2⟩ := h.2 i c
    exact ⟨h1.more, h2⟩
  · have : i = L.length := by simp at hi; omega
    subst this
    rw [show KLi_at (L ++ [l]) (L.length : Int) = l from at_app2 (t := KLi_)]
    exact ⟨hl, hw⟩
theorem made15_f (s : Small N I C P Q) (r : RightP N I C P Q) (hw : wts N N.length ≤ 6000) (hn : 30000 < n) : ∃ G L, ref15_made n N I C P Q = some (((wl N (LLof I C) : Nat) : Int), G, L, ()) ∧ BitsL N (wl N (LLof I C) : Nat) G L ∧ L.length = N.length ∧ (G.length : Int) ≤ 6000 := by
  have hN := s.n
  have e1 : wl N (frm N 21 0 N.length) = wl N (pinN I) := by rw [← r.ins]; rfl
  have e2 : wl N (frm N 22 0 N.length) = wl N (celN C) := by rw [← r.cells]; rfl
  have hsum : wl N (LLof I C) = wl N (pinN I) + wl N (celN C) := by rw [LLof, wl_app]
  have hcw := wl_cells r
  have hpw : wl N (pinN I) ≤ 2000 := by
    have tp := pins_there r
    have := wl_le (N := N) (l := pinN I) fun x hx => by
      have := tp.2 x hx
      unfold wN; omega
    have h2 := r.i
    simp [pinN] at this
    unfold pinN
    omega
  have r0 : RG (wl N (LLof I C) : Nat) [] := ⟨by omega, by omega, by simp, fun j hj => by simp at hj, fun i j _ hj => by simp at hj⟩
  obtain ⟨R, e, G, L, hR, hB, hL, hG⟩ := iter_ex (F := ref15_made_l1b n N) (len := N.length) (m := n) (d := (1, ((1 + wl N (pinN I) : Nat) : Int), 0, ((wl N (LLof I C) : Nat) : Int), [], [], ()))
    (fun j d => ∃ G L, d = (((1 + wl N (frm N 21 0 j) : Nat) : Int), ((1 + wl N (pinN I) + wl N (frm N 22 0 j) : Nat) : Int), (j : Int), ((wl N (LLof I C) : Nat) : Int), G, L, ()) ∧ BitsL N (wl N (LLof I C) : Nat) G L ∧ L.length = j ∧ (G.length : Int) ≤ wts N j)
    (fun R => ∃ G L, R = (((wl N (LLof I C) : Nat) : Int), G, L, ()) ∧ BitsL N (wl N (LLof I C) : Nat) G L ∧ L.length = N.length ∧ (G.length : Int) ≤ wts N N.length)
    (fun self j d hj ⟨G, L, hd, hB, hL, hG⟩ => by
      subst hd
      have hm := wts_mono r.nodes (Nat.le_refl _) hj
      have hm0 := wts_mono r.nodes (Nat.le_refl _) (Nat.le_of_lt hj)
      have hnode := r.nodes j hj
      have hall : ∀ i : Nat, i < j → NodeP N i := fun i hi => r.nodes i (by omega)
      have hwt := wt_bnd (op := (Kiiiiiii_at N (j : Int)).1) (w := (Kiiiiiii_at N (j : Int)).2.1) (lo := (Kiiiiiii_at N (j : Int)).2.2.2.2.2.2) ⟨by have := hnode.w1; omega, hnode.w16⟩ (lo_of hall hnode)
      obtain ⟨hww, hw16⟩ := wNw r hj
      have s1 := frmw_succ (N := N) (op := 21) (j := j)
      have s2 := frmw_succ (N := N) (op := 22) (j := j)
      have m1 := frmw_mono (N := N) (op := 21) (i := j + 1) (j := N.length) hj
      have m2 := frmw_mono (N := N) (op := 22) (i := j + 1) (j := N.length) hj
      unfold ref15_made_l1b
      simp only [cond_dec]
      rw [if_pos (by omega), ask_of (by omega)]
      by_cases o1 : (Kiiiiiii_at N (j : Int)).1 = 21
      · rw [if_pos o1] at s1
        rw [if_neg (by omega)] at s2
        rw [if_pos o1, ← hww, rbits_f (by omega) hw16 hn, bindS, ask_of (by simp; omega), succ64 (by omega), w64 (by omega) (by omega)]
        refine ⟨_, rfl, G, L ++ [varB (1 + wl N (frm N 21 0 j)) (wN N (j : Int))], ?_, ?_, by simp [hL], by simp only [wts]; omega⟩
        · rw [s1, s2]
          congr 1
          · omega
        · have := hB.snoc (t := []) (l := varB (1 + wl N (frm N 21 0 j)) (wN N (j : Int))) (by simpa using hB.1) (by simpa using varB_lits hB.1 (by omega)) (by simp [varB, hL])
          simpa using this
      rw [if_neg o1] at s1 ⊢
      by_cases o2 : (Kiiiiiii_at N (j : Int)).1 = 22
      · rw [if_pos o2] at s2
        rw [if_pos o2, ← hww, rbits_f (by omega) hw16 hn, bindS, ask_of (by simp; omega), succ64 (by omega), w64 (by omega) (by omega)]
        refine ⟨_, rfl, G, L ++ [varB (1 + wl N (pinN I) + wl N (frm N 22 0 j)) (wN N (j : Int))], ?_, ?_, by simp [hL], by simp only [wts]; omega⟩
        · rw [s1, s2]
          congr 2
          · omega
        · have := hB.snoc (t := []) (l := varB (1 + wl N (pinN I) + wl N (frm N 22 0 j)) (wN N (j : Int))) (by simpa using hB.1) (by simpa using varB_lits hB.1 (by omega)) (by simp [varB, hL])
          simpa using this
      rw [if_neg o2] at s2 ⊢
      obtain ⟨wa, wb, wc, W, K, hok, hW, hK, qa, qb, qc⟩ := node_ok hall hnode (by omega)
      have opn : ∀ {a : Int} {k : Nat}, wid N a j = (k : Int) → 0 < k → Lits (wl N (LLof I C) : Nat) G (KLi_at L a) ∧ (KLi_at L a).length = k := fun {a k} h hk => by
        obtain ⟨b0, b1, b2⟩ := wid_pos (N := N) (a := a) (i := j) (by omega)
        obtain ⟨m, rfl⟩ := Int.eq_ofNat_of_zero_le b0
        obtain ⟨c1, c2⟩ := hB.2 m (by omega)
        refine ⟨c1, by rw [c2]; unfold wN; omega⟩
      by_cases o3 : (Kiiiiiii_at N (j : Int)).1 = 1
      · have hz := hok.lit_zero o3
        obtain ⟨t, l, e, ht, hr, hl, hls⟩ := RDo_all (n := n) (p := (Kiiiiiii_at N (j : Int)).2.2.1) (q := (Kiiiiiii_at N (j : Int)).2.2.2.1) (s := (Kiiiiiii_at N (j : Int)).2.2.2.2.1) (A := []) (B := []) (C := []) hB.1 (by omega) hok (fun h => by omega) (fun h => by omega) (fun h => by omega) hn
        rw [if_pos o3, e, bindS, ask_of (by simp; omega), succ64 (by omega)]
        exact ⟨_, rfl, G ++ t, L ++ [l], by rw [s1, s2]; rfl, hB.snoc hr hls (by rw [hL, hl]; unfold wN; omega), by simp [hL], by simp only [wts]; simp; omega⟩
      · rw [if_neg o3]
        obtain ⟨⟨a0, a1⟩, ⟨b0, b1⟩, ⟨c0, c1⟩⟩ := opABC hnode o1 o2 o3
        obtain ⟨t, l, e, ht, hr, hl, hls⟩ := RDo_all (n := n) (p := (Kiiiiiii_at N (j : Int)).2.2.1) (q := (Kiiiiiii_at N (j : Int)).2.2.2.1) (s := (Kiiiiiii_at N (j : Int)).2.2.2.2.1) (A := KLi_at L (Kiiiiiii_at N (j : Int)).2.2.1) (B := KLi_at L (Kiiiiiii_at N (j : Int)).2.2.2.1) (C := KLi_at L (Kiiiiiii_at N (j : Int)).2.2.2.2.1) hB.1 (by omega) hok (fun h => opn (qa h) h) (fun h => opn (qb h) h) (fun h => opn (qc h) h) hn
        rw [ask_of (by omega), ask_of (by omega), ask_of (by omega), e, bindS, ask_of (by simp; omega), succ64 (by omega)]
        exact ⟨_, rfl, G ++ t, L ++ [l], by rw [s1, s2]; rfl, hB.snoc hr hls (by rw [hL, hl]; unfold wN; omega), by simp [hL], by simp only [wts]; simp; omega⟩)
    (fun self d ⟨G, L, hd, hB, hL, hG⟩ => by
      subst hd
      unfold ref15_made_l1b
      simp only [cond_dec]
      rw [if_neg (by omega)]
      exact ⟨_, rfl, G, L, rfl, hB, hL, hG⟩) (by omega) ⟨[], [], by simp [frm, wl], ⟨r0, fun i hi => by simp at hi⟩, rfl, by simp [wts]⟩
  subst hR
  unfold ref15_made
  rw [rwide_f s r 21 hn, bindS, rwide_f s r 22 hn, bindS]
  simp only
  rw [e1, e2]
  unfold ref13_New
  rw [bindS]
  simp only
  rw [w64 (n := ((wl N (pinN I) : Nat) : Int) + ((wl N (celN C) : Nat) : Int)) (by omega) (by omega), w64 (by omega) (by omega)]
  have ea : ((wl N (pinN I) : Nat) : Int) + ((wl N (celN C) : Nat) : Int) = ((wl N (LLof I C) : Nat) : Int) := by omega
  have eb : (1 : Int) + ((wl N (pinN I) : Nat) : Int) = ((1 + wl N (pinN I) : Nat) : Int) := by omega
  rw [ea, eb, show ref15_made_l1 n N (1, ((1 + wl N (pinN I) : Nat) : Int), 0, ((wl N (LLof I C) : Nat) : Int), [], [], ()) = _ from e, bindS]
  exact ⟨G, L, rfl, hB, hL, by omega⟩
theorem rpins_f (s : Small N I C P Q) (r : RightP N I C P Q) (hn : 30000 < n) : ref15_Compile_l2 n N I (0, ins, G, [], ()) = some (ins, G, pinL N I I.length, ()) := by
  have hi := r.i
  refine iter_up (F := ref15_Compile_l2b n N I) (fun j => ((j : Int), ins, G, pinL N I j, ())) (ins, G, pinL N I I.length, ()) (len := I.length) (m := n)
    (fun self j hj => ?_) (fun self => ?_) (by omega)
  · obtain ⟨p0, p1, p2⟩ := pin_node r.ins hj
    have hnode := node_at r.nodes p0 p1
    have h16 := hnode.w16
    have hw : ((wN N (Ksi_at I (j : Int)).2 : Nat) : Int) = (Kiiiiiii_at N (Ksi_at I (j : Int)).2).2.1 := by have := hnode.w1; unfold wN; omega
    have hL : (pinL N I j).length ≤ 16 * 64 := by
      rw [pinL_len (by omega)]
      have := wl_le (N := N) (l := (pinN I).take j) fun x hx => by
        have := (pins_there r).2 x (List.mem_of_mem_take hx)
        unfold wN; omega
      simp at this
      omega
    have l1 := iter_up (F := ref15_Compile_l1b n ((j : Int), ins, G, pinL N I j, ()) N I) (fun k => ((k : Int), ins, G, pinL N I j ++ (List.range k).map (fun k => ((((pinL N I j).length + k + 1 : Nat) : Int), ((j : Int), (k : Int)))), ())) (ins, G, pinL N I (j + 1), ()) (len := wN N (Ksi_at I (j : Int)).2) (m := n)
      (fun self k hk => by
        have e : IntKind.wrap .i64 (((pinL N I j ++ (List.range k).map (fun k => ((((pinL N I j).length + k + 1 : Nat) : Int), ((j : Int), (k : Int))))).length : Int) + 1) = (((pinL N I j).length + k + 1 : Nat) : Int) := by
          rw [w64 (by simp; omega) (by simp; omega)]; simp
        unfold ref15_Compile_l1b
        simp only [cond_dec]
        rw [ask_of (by omega), ask_of (by omega), if_pos (by omega), e, ask_of (by simp; omega), succ64 (by omega), List.range_succ, List.map_append]
        simp)
      (fun self => by
        unfold ref15_Compile_l1b
        simp only [cond_dec]
        rw [ask_of (by omega), ask_of (by omega), if_neg (by omega), pinL]) (by omega)
    simp only [List.range_zero, List.map_nil, List.append_nil] at l1
    unfold ref15_Compile_l2b
    simp only [cond_dec]
    rw [if_pos (by omega), show ref15_Compile_l1 n ((j : Int), ins, G, pinL N I j, ()) N I (0, ins, G, pinL N I j, ()) = _ from l1, bindS, succ64 (by omega)]
  · unfold ref15_Compile_l2b
    simp only [cond_dec]
    rw [if_neg (by omega)]
theorem rlats_f {iL : List Kiii} {L : List (List Int)} (s : Small N I C P Q) (r : RightP N I C P Q) (hB : BitsL N ins G L) (hL : L.length = N.length) (hi : iL.length ≤ 5000) (hn : 30000 < n) : ref15_Compile_l4 n (ins, G, iL, ()) (ins, G, L, ()) N C (0, ins, G, [], ()) = some (ins, G, latL N C (fun x => KLi_at L x) iL.length C.length, ()) := by
  have hc := r.c
  have hcw := wl_cells r
  have hll : (latL N C (fun x => KLi_at L x) iL.length C.length).length = wl N (celN C) := by rw [latL_len (Nat.le_refl _), List.take_of_length_le (by simp [celN])]
  refine iter_up (F := ref15_Compile_l4b n (ins, G, iL, ()) (ins, G, L, ()) N C) (fun j => ((j : Int), ins, G, latL N C (fun x => KLi_at L x) iL.length j, ())) (ins, G, latL N C (fun x => KLi_at L x) iL.length C.length, ()) (len := C.length) (m := n)
    (fun self j hj => ?_) (fun self => ?_) (by omega)
  · obtain ⟨p0, p1, p2⟩ := cell_node r.cells hj
    have hnode := node_at r.nodes p0 p1
    have h16 := hnode.w16
    obtain ⟨n0, n1, n2⟩ := next_pos r hj
    have hw : ((wN N (Ksiii_at C (j : Int)).2.1 : Nat) : Int) = (Kiiiiiii_at N (Ksiii_at C (j : Int)).2.1).2.1 := by have := hnode.w1; unfold wN; omega
    have hm := latL_mono (N := N) (C := C) (B := fun x => KLi_at L x) (nI := iL.length) (show j ≤ C.length by omega)
    have hbl := (hB.2 (Ksiii_at C (j : Int)).2.2.1.toNat (by omega)).2
    rw [show (((Ksiii_at C (j : Int)).2.2.1.toNat : Nat) : Int) = (Ksiii_at C (j : Int)).2.2.1 by omega] at hbl
    have hbw : wN N (Ksiii_at C (j : Int)).2.2.1 = wN N (Ksiii_at C (j : Int)).2.1 := by unfold wN; omega
    have l1 := iter_up (F := ref15_Compile_l3b n (ins, G, iL, ()) ((j : Int), ins, G, latL N C (fun x => KLi_at L x) iL.length j, ()) (ins, G, L, ()) N C) (fun k => ((k : Int), ins, G, latL N C (fun x => KLi_at L x) iL.length j ++ (List.range k).map (fun k => (((iL.length + (latL N C (fun x => KLi_at L x) iL.length j).length + k + 1 : Nat) : Int), Ki_at (KLi_at L (Ksiii_at C (j : Int)).2.2.1) (k : Int), bitB (Ksiii_at C (j : Int)).2.2.2 k, (j : Int), (k : Int))), ())) (ins, G, latL N C (fun x => KLi_at L x) iL.length (j + 1), ()) (len := wN N (Ksiii_at C (j : Int)).2.1) (m := n)
      (fun self k hk => by
        have hlen : (latL N C (fun x => KLi_at L x) iL.length j ++ (List.range k).map (fun k => (((iL.length + (latL N C (fun x => KLi_at L x) iL.length j).length + k + 1 : Nat) : Int), Ki_at (KLi_at L (Ksiii_at C (j : Int)).2.2.1) (k : Int), bitB (Ksiii_at C (j : Int)).2.2.2 k, (j : Int), (k : Int)))).length = (latL N C (fun x => KLi_at L x) iL.length j).length + k := by simp
        have eb : decide ((bits .and .i64 (shrI .i64 ((((Ksiii_at C (j : Int)).2).2).2) (k : Int)) 1) = 1) = bitB (Ksiii_at C (j : Int)).2.2.2 k := rfl
        unfold ref15_Compile_l3b
        simp only [cond_dec, hlen, eb]
        rw [ask_of (by omega), if_pos (by omega), ask_of (by omega), ask_of (by omega), ask_of (by omega), ask_of (by simp; omega), succ64 (by omega), w64 (n := (iL.length : Int) + (((latL N C (fun x => KLi_at L x) iL.length j).length + k : Nat) : Int)) (by omega) (by omega), w64 (by omega) (by omega), List.range_succ, List.map_append, ← List.append_assoc]
        congr 7
        simp
        omega)
      (fun self => by
        unfold ref15_Compile_l3b
        simp only [cond_dec]
        rw [ask_of (by omega), if_neg (by omega), latL]) (by omega)
    simp only [List.range_zero, List.map_nil, List.append_nil] at l1
    unfold ref15_Compile_l4b
    simp only [cond_dec]
    rw [if_pos (by omega), ask_of (by omega), show ref15_Compile_l3 n (ins, G, iL, ()) ((j : Int), ins, G, latL N C (fun x => KLi_at L x) iL.length j, ()) (ins, G, L, ()) N C (0, ins, G, latL N C (fun x => KLi_at L x) iL.length j, ()) = _ from l1, bindS, succ64 (by omega)]
  · unfold ref15_Compile_l4b
    simp only [cond_dec]
    rw [if_neg (by omega)]
theorem routs_f {L : List (List Int)} (r : RightP N I C P Q) (hB : BitsL N ins G L) (hL : L.length = N.length) (hn : 30000 < n) : ref15_Compile_l5 n (ins, G, L, ()) P (0, ins, G, [], ()) = some (ins, G, outL P (fun x => KLi_at L x), ()) := by
  have hp := r.p
  refine iter_up (F := ref15_Compile_l5b n (ins, G, L, ()) P) (fun j => ((j : Int), ins, G, (List.range j).map (fun i : Nat => ((Kisi_at P (i : Int)).1, Ki_at (KLi_at L (Kisi_at P (i : Int)).2.2) 0, (i : Int))), ())) (ins, G, outL P (fun x => KLi_at L x), ()) (len := P.length) (m := n)
    (fun self j hj => ?_) (fun self => ?_) (by omega)
  · obtain ⟨k1, k2, k3⟩ := r.prop j hj
    obtain ⟨w0, w1, w2⟩ := wid_pos (N := N) (a := (Kisi_at P (j : Int)).2.2) (i := N.length) (by omega)
    have hbl := (hB.2 (Kisi_at P (j : Int)).2.2.toNat (by omega)).2
    rw [show (((Kisi_at P (j : Int)).2.2.toNat : Nat) : Int) = (Kisi_at P (j : Int)).2.2 by omega] at hbl
    unfold ref15_Compile_l5b
    simp only [cond_dec]
    rw [if_pos (by omega), ask_of (by omega), ask_of (by omega), ask_of (by omega), ask_of (by rw [hbl]; unfold wN; omega), ask_of (by simp; omega), succ64 (by omega), List.range_succ, List.map_append]
    rfl
  · unfold ref15_Compile_l5b
    simp only [cond_dec]
    rw [if_neg (by omega)]
    rfl
/-- The document's circuit of a net. -/
theorem rcompile_f (s : Small N I C P Q) (r : RightP N I C P Q) (hw : wts N N.length ≤ 6000) (hn : 30000 < n) : ∃ G L, ref15_Compile n N I C P Q = some (((wl N (LLof I C) : Nat) : Int), G, pinL N I I.length, latL N C (fun x => KLi_at L x) (pinL N I I.length).length C.length, outL P (fun x => KLi_at L x), ()) ∧ BitsL N (wl N (LLof I C) : Nat) G L ∧ L.length = N.length := by
  obtain ⟨G, L, e, hB, hL, hG⟩ := made15_f s r hw hn
  have hpl : (pinL N I I.length).length ≤ 5000 := by
    rw [pinL_len (Nat.le_refl _), List.take_of_length_le (by simp [pinN])]
    have h1 := hB.1.i1
    rw [LLof, wl_app] at h1
    omega
  refine ⟨G, L, ?_, hB, hL⟩
  unfold ref15_Compile
  rw [e, bindS]
  simp only
  rw [rpins_f s r hn, bindS]
  simp only
  rw [rlats_f s r hB hL hpl hn, bindS]
  simp only
  rw [routs_f r hB hL hn, bindS]
theorem comp_right2 {B : Int → List Int} (r : RightP N I C P Q) (hr : RG (wl N (LLof I C)) G) (hok : ∀ x : Int, 0 ≤ x → x < N.length → Lits (wl N (LLof I C)) G (B x) ∧ (B x).length = wN N x) : CircR (wl N (LLof I C)) G (pinL N I I.length) (latL N C B (pinL N I I.length).length C.length) (outL P B) := by
  have hpl : (pinL N I I.length).length = wl N (pinN I) := by rw [pinL_len (Nat.le_refl _), List.take_of_length_le (by simp [pinN])]
  have hll : (latL N C B (pinL N I I.length).length C.length).length = wl N (celN C) := by rw [latL_len (Nat.le_refl _), List.take_of_length_le (by simp [celN])]
  have hsum : wl N (LLof I C) = wl N (pinN I) + wl N (celN C) := by rw [LLof, wl_app]
  have hcw := wl_cells r
  have hp := r.p
  refine ⟨hr, by rw [hll]; omega, by omega, by simp [outL]; omega, fun t ht => ?_, fun t ht => ?_, fun t ht => ?_, fun t ht => ?_, fun j hj => ?_⟩
  · obtain ⟨j, k, h1, h2, rfl⟩ := pinL_of ht
    rw [(pinL_at h1 h2).1]
    exact ⟨by simp only; omega, by simp only; omega, by simp only; omega⟩
  · obtain ⟨j, k, h1, h2, rfl⟩ := pinL_of (N := N) (I := I) (m := I.length) (t := t) (by omega)
    obtain ⟨j2, k2, h3, h4, h5⟩ := pinL_of ht
    rw [(pinL_at h1 h2).1, h5, (pinL_at h3 h4).1]
    unfold lex
    simp only
    rcases Nat.lt_trichotomy j j2 with c | c | c
    · exact .inl (by omega)
    · subst c; exact .inr ⟨rfl, by omega⟩
    · have := pinL_mono (N := N) (I := I) (show j2 + 1 ≤ j from c)
      rw [pinL_succ] at this
      omega
  · obtain ⟨j, k, h1, h2, rfl⟩ := latL_of ht
    rw [(latL_at h1 h2).1]
    obtain ⟨n0, n1, n2⟩ := next_pos r h1
    obtain ⟨b1, b2⟩ := hok (Ksiii_at C (j : Int)).2.2.1 n0 n1
    refine ⟨by simp only; omega, by simp only; omega, by simp only; omega, ?_⟩
    exact b1.at (j := k) (by rw [b2]; unfold wN at h2 ⊢; omega)
  · obtain ⟨j, k, h1, h2, rfl⟩ := latL_of (N := N) (C := C) (B := B) (nI := (pinL N I I.length).length) (m := C.length) (t := t) (by omega)
    obtain ⟨j2, k2, h3, h4, h5⟩ := latL_of ht
    rw [(latL_at h1 h2).1, h5, (latL_at h3 h4).1]
    unfold lex
    simp only
    rcases Nat.lt_trichotomy j j2 with c | c | c
    · exact .inl (by omega)
    · subst c; exact .inr ⟨rfl, by omega⟩
    · have := latL_mono (N := N) (C := C) (B := B) (nI := (pinL N I I.length).length) (show j2 + 1 ≤ j from c)
      rw [latL_succ] at this
      omega
  · have hj' : j < P.length := by simpa [outL] using hj
    obtain ⟨k1, k2, k3⟩ := r.prop j hj'
    obtain ⟨w0, w1, w2⟩ := wid_pos (N := N) (a := (Kisi_at P (j : Int)).2.2) (i := N.length) (by omega)
    obtain ⟨b1, b2⟩ := hok (Kisi_at P (j : Int)).2.2 w0 w1
    have e : Kiii_at (outL P B) (j : Int) = ((Kisi_at P (j : Int)).1, Ki_at (B (Kisi_at P (j : Int)).2.2) 0, (j : Int)) := at_range (t := Kiii_) hj'
    rw [e]
    exact ⟨k1, k2, by simp only; omega, b1.at (j := 0) (by rw [b2]; unfold wN; omega)⟩
theorem BitsL.ok {L : List (List Int)} (h : BitsL N ins G L) (hL : L.length = N.length) (x : Int) (h0 : 0 ≤ x) (h1 : x < N.length) : Lits ins G (KLi_at L x) ∧ (KLi_at L x).length = wN N x := by
  obtain ⟨k, rfl⟩ := Int.eq_ofNat_of_zero_le h0
  exact h.2 k (by omega)
end
end Go.Proofs.Ytfjdhdmbbfeigaa.Am
