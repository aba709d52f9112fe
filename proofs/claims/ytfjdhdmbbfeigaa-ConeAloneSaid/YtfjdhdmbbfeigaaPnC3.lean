/- A net's circuit, whole; it is right. -/
import Derived.Test.YtfjdhdmbbfeigaaPnC2
namespace Go.Proofs.Ytfjdhdmbbfeigaa.Am
set_option linter.unusedVariables false
set_option linter.unusedSimpArgs false
/-- A bit of a number. -/
def bitB (x : Int) (k : Nat) : Bool := decide (bits .and .i64 (shrI .i64 x (k : Int)) 1 = 1)
/-- Latches, in their order. -/
def latL (N : List Nd) (C : List Cl) (B : Int → List Int) (nI : Nat) : Nat → List Kiibii
  | 0 => []
  | j + 1 => latL N C B nI j ++ (List.range (wN N (Ksiii_at C (j : Int)).2.1)).map fun k => (((nI + (latL N C B nI j).length + k + 1 : Nat) : Int), Ki_at (B (Ksiii_at C (j : Int)).2.2.1) (k : Int), bitB (Ksiii_at C (j : Int)).2.2.2 k, (j : Int), (k : Int))
theorem latL_len {N : List Nd} {C : List Cl} {B : Int → List Int} {nI : Nat} : ∀ {j : Nat}, j ≤ C.length → (latL N C B nI j).length = wl N ((celN C).take j)
  | 0, _ => by simp [latL, wl]
  | j + 1, h => by
    rw [latL, List.length_append, latL_len (by omega), wl_take (l := celN C) (by simp [celN]; omega), celN_at (by omega)]
    simp
def outL (P : List Pw) (B : Int → List Int) : List Kiii := (List.range P.length).map fun i : Nat => ((Kisi_at P (i : Int)).1, Ki_at (B (Kisi_at P (i : Int)).2.2) 0, (i : Int))
section
variable {n : Nat} {N : List Nd} {I : List Pn} {C : List Cl} {P : List Pw} {Q : List Pn}
theorem bits_f {x : Int} {w : Nat} (hw : w ≤ 62) (hn : 30000 < n) : vec_Bits n x (w : Int) = some ((List.range w).map (bitB x), ()) := by
  have l1 := iter_up (F := vec_Bits_l1b n x (w : Int)) (fun j => ((j : Int), fillN w (bitB x) false j, ())) ((List.range w).map (bitB x), ()) (len := w) (m := n)
    (fun self j hj => by
      have hl := fillN_len (g := bitB x) (z := false) (Nat.le_of_lt hj)
      unfold vec_Bits_l1b
      simp only [cond_dec]
      rw [if_pos (by omega), ask_of (by omega), ask_of (by omega), succ64 (by omega), Int.toNat_natCast, ← fillN_set hj]
      rfl)
    (fun self => by
      unfold vec_Bits_l1b
      simp only [cond_dec]
      rw [if_neg (by omega), fillN_n]) (by omega)
  rw [fillN_0] at l1
  unfold vec_Bits
  rw [ask_of (by omega), Int.toNat_natCast, show vec_Bits_l1 n x (w : Int) (0, List.replicate w false, ()) = _ from l1]
  rfl
theorem lat_l1 {j : Nat} {ins : Int} {G : List Kii} {L0 L : List Kiibii} {iL : List Kiii} {M : List (Int × List Int)} {w : Nat} {x : Int} (hw : w ≤ 16) (hb : w ≤ (Mi_Li_get M (Ksiii_at C (j : Int)).2.2.1 []).length) (hL : L.length ≤ 10000) (hi : iL.length ≤ 10000) (hn : 30000 < n) : circ_compiler_latches_i2_l1 n ((j : Int), ins, G, N, I, C, P, Q, L0, ()) ((List.range w).map (bitB x), ()) C iL M (0, ins, G, N, I, C, P, Q, L, ()) = some (ins, G, N, I, C, P, Q, L ++ (List.range w).map (fun k => (((iL.length + L.length + k + 1 : Nat) : Int), Ki_at (Mi_Li_get M (Ksiii_at C (j : Int)).2.2.1 []) (k : Int), bitB x k, (j : Int), (k : Int))), ()) := by
  have l1 := iter_up (F := circ_compiler_latches_i2_l1b n ((j : Int), ins, G, N, I, C, P, Q, L0, ()) ((List.range w).map (bitB x), ()) C iL M) (fun k => ((k : Int), ins, G, N, I, C, P, Q, L ++ (List.range k).map (fun k => (((iL.length + L.length + k + 1 : Nat) : Int), Ki_at (Mi_Li_get M (Ksiii_at C (j : Int)).2.2.1 []) (k : Int), bitB x k, (j : Int), (k : Int))), ())) (ins, G, N, I, C, P, Q, L ++ (List.range w).map (fun k => (((iL.length + L.length + k + 1 : Nat) : Int), Ki_at (Mi_Li_get M (Ksiii_at C (j : Int)).2.2.1 []) (k : Int), bitB x k, (j : Int), (k : Int))), ()) (len := w) (m := n)
    (fun self k hk => by
      have hkb : Kb_at ((List.range w).map (bitB x)) (k : Int) = bitB x k := at_range (t := b_) hk
      have hlen : (L ++ (List.range k).map (fun k => (((iL.length + L.length + k + 1 : Nat) : Int), Ki_at (Mi_Li_get M (Ksiii_at C (j : Int)).2.2.1 []) (k : Int), bitB x k, (j : Int), (k : Int)))).length = L.length + k := by simp
      unfold circ_compiler_latches_i2_l1b
      simp only [cond_dec, hkb, hlen]
      rw [if_pos (by simp; omega), ask_of (by simp; omega), ask_of trivial, ask_of (by omega), ask_of (by simp; omega), succ64 (by omega), w64 (n := (iL.length : Int) + ((L.length + k : Nat) : Int)) (by omega) (by omega), w64 (by omega) (by omega), List.range_succ, List.map_append, ← List.append_assoc]
      congr 10
      simp
      omega)
    (fun self => by
      unfold circ_compiler_latches_i2_l1b
      simp only [cond_dec]
      rw [if_neg (by simp)]) (by omega)
  simp only [List.range_zero, List.map_nil, List.append_nil] at l1
  exact l1
theorem latches_f {ins : Int} {G : List Kii} {M : List (Int × List Int)} {iL : List Kiii} (s : Small N I C P Q) (r : RightP N I C P Q) (hB : BitsOK N (LLof I C) ins G M N.length) (hi : iL.length ≤ 5000) (hn : 30000 < n) : circ_compiler_latches_i2 n ins G N I C P Q iL M = some (ins, G, latL N C (fun x => Mi_Li_get M x []) iL.length C.length, N, I, C, P, Q, iL, M, ()) := by
  have hc := r.c
  have hfl : (firstV C).length = C.length := by simp [firstV]
  have l2 := iter_up (F := circ_compiler_latches_i2_l2b n (firstV C, ()) C iL M) (fun j => ((j : Int), ins, G, N, I, C, P, Q, latL N C (fun x => Mi_Li_get M x []) iL.length j, ())) (ins, G, N, I, C, P, Q, latL N C (fun x => Mi_Li_get M x []) iL.length C.length, ()) (len := C.length) (m := n)
    (fun self j hj => by
      obtain ⟨c0, c1, c2⟩ := cell_node r.cells hj
      have hnode := node_at r.nodes c0 c1
      obtain ⟨n0, n1, n2⟩ := next_pos r hj
      have hw : ((wN N (Ksiii_at C (j : Int)).2.1 : Nat) : Int) = (Kiiiiiii_at N (Ksiii_at C (j : Int)).2.1).2.1 := by have := hnode.w1; unfold wN; omega
      have h16 := hnode.w16
      have hlen : (latL N C (fun x => Mi_Li_get M x []) iL.length j).length ≤ 256 := by
        rw [latL_len (by omega)]
        have h1 := wl_cells r
        have h2 : wl N (celN C) = wl N ((celN C).take j) + wl N ((celN C).drop j) := by rw [← wl_app, List.take_append_drop]
        omega
      have hfirst : Ki_at (firstV C) (j : Int) = (Ksiii_at C (j : Int)).2.2.2 := at_range (t := i_) hj
      have hbn := (hB.ok (Ksiii_at C (j : Int)).2.2.1 (.inr ⟨n0, n1⟩)).2
      unfold circ_compiler_latches_i2_l2b
      simp only [cond_dec, hfirst]
      rw [if_pos (by omega), ask_of (by omega), ask_of (by omega), ask_of (by omega), ← hw, bits_f (by omega) hn, bindS, lat_l1 (by omega) (by rw [hbn]; unfold wN at hw ⊢; omega) (by omega) (by omega) hn, bindS, succ64 (by omega), latL])
    (fun self => by
      unfold circ_compiler_latches_i2_l2b
      simp only [cond_dec]
      rw [if_neg (by omega)]) (by omega)
  unfold circ_compiler_latches_i2
  rw [first_f s (by omega), bindS, show circ_compiler_latches_i2_l2 n (firstV C, ()) C iL M (0, ins, G, N, I, C, P, Q, [], ()) = _ from l2, bindS]
/-- A net's circuit. -/
theorem compile_f (s : Small N I C P Q) (r : RightP N I C P Q) (hw : wts N N.length ≤ 6000) (hn : 30000 < n) : ∃ G M, circ_Compile n N I C P Q = some ((wl N (LLof I C) : Int), G, pinL N I I.length, latL N C (fun x => Mi_Li_get M x []) (pinL N I I.length).length C.length, outL P (fun x => Mi_Li_get M x []), ()) ∧ BitsOK N (LLof I C) (wl N (LLof I C)) G M N.length ∧ (G.length : Int) ≤ 6000 := by
  have hp := r.p
  have tp := pins_there r
  have tc := cells_there r
  have tl := LL_there r
  have hpl : (pinL N I I.length).length = wl N (pinN I) := by rw [pinL_len (Nat.le_refl _), List.take_of_length_le (by simp [pinN])]
  have hpw := tp.w (pinN I).length
  rw [List.take_length] at hpw
  have h64 : wl N (pinN I) ≤ 1024 := by
    have := wl_le (N := N) (l := pinN I) fun x hx => by
      have := tp.2 x hx
      unfold wN; omega
    have h2 := r.i
    simp [pinN] at this
    unfold pinN
    omega
  have hcw := wl_cells r
  have hsum : wl N (LLof I C) = wl N (pinN I) + wl N (celN C) := by rw [LLof, wl_app]
  unfold circ_Compile
  rw [pins_l2 s r hn, bindS, cells_l3 s hn, bindS]
  simp only
  rw [wide4 tp hn, bindS]
  simp only
  rw [wide6 tc hn, bindS]
  simp only
  unfold aig_New
  rw [bindS]
  simp only
  rw [w64 (by omega) (by omega)]
  rw [ask_of (by have h9 := tl.1; rw [LLof, List.length_append] at h9; exact ⟨trivial, by omega⟩)]
  have e : ((wl N (pinN I) : Int) + (wl N (celN C) : Int)) = ((wl N (LLof I C) : Nat) : Int) := by rw [hsum]; push_cast; rfl
  rw [e]
  obtain ⟨M0, e4, hM0⟩ := vars_l4 (n := n) (N := N) (I := I) (C := C) (P := P) (Q := Q) (A := ((wl N (pinN I) : Int), 0, N, I, C, P, Q, pinN I, pinL N I I.length, [], ())) (B := ((wl N (celN C) : Int), 0, N, I, C, P, Q, celN C, pinL N I I.length, [], ())) (LL := LLof I C) (ins := (wl N (LLof I C) : Nat)) (L := pinL N I I.length) rfl tl (LL_nodup r) hn
  rw [e4, bindS]
  simp only
  obtain ⟨G, M, e5, hB, hG⟩ := nodes_f (L := pinL N I I.length) s r hw (bits_start r hM0) hn
  rw [e5, bindS]
  simp only
  rw [latches_f s r hB (by omega) hn, bindS]
  have l5 := iter_up (F := circ_Compile_l5b n (((wl N (LLof I C) : Nat) : Int), G, latL N C (fun x => Mi_Li_get M x []) (pinL N I I.length).length C.length, N, I, C, P, Q, pinL N I I.length, M, ()) P) (fun j => ((j : Int), ((wl N (LLof I C) : Nat) : Int), G, latL N C (fun x => Mi_Li_get M x []) (pinL N I I.length).length C.length, N, I, C, P, Q, (List.range j).map (fun i : Nat => ((Kisi_at P (i : Int)).1, Ki_at (Mi_Li_get M (Kisi_at P (i : Int)).2.2 []) 0, (i : Int))), ())) (((wl N (LLof I C) : Nat) : Int), G, latL N C (fun x => Mi_Li_get M x []) (pinL N I I.length).length C.length, N, I, C, P, Q, outL P (fun x => Mi_Li_get M x []), ()) (len := P.length) (m := n)
    (fun self j hj => by
      obtain ⟨k1, k2, k3⟩ := r.prop j hj
      obtain ⟨w0, w1, w2⟩ := wid_pos (N := N) (a := (Kisi_at P (j : Int)).2.2) (i := N.length) (by omega)
      have hb := (hB.ok (Kisi_at P (j : Int)).2.2 (.inr ⟨w0, w1⟩)).2
      unfold circ_Compile_l5b
      simp only [cond_dec]
      rw [if_pos (by omega), ask_of (by omega), ask_of trivial, ask_of (by rw [hb]; unfold wN; omega), ask_of (by simp; omega), succ64 (by omega), List.range_succ, List.map_append]
      rfl)
    (fun self => by
      unfold circ_Compile_l5b
      simp only [cond_dec]
      rw [if_neg (by omega)]
      rfl) (by omega)
  simp only
  rw [show circ_Compile_l5 n (((wl N (LLof I C) : Nat) : Int), G, latL N C (fun x => Mi_Li_get M x []) (pinL N I I.length).length C.length, N, I, C, P, Q, pinL N I I.length, M, ()) P (0, ((wl N (LLof I C) : Nat) : Int), G, latL N C (fun x => Mi_Li_get M x []) (pinL N I I.length).length C.length, N, I, C, P, Q, [], ()) = _ from l5, bindS]
  exact ⟨G, M, rfl, hB, hG⟩
end
end Go.Proofs.Ytfjdhdmbbfeigaa.Am
