/- CircBits, in plain Lean. -/
import Derived.Test.YtnjoiokbeknopaaPnC6
import Derived.Test.YtnjoiokbeknopaaAmY
namespace Go.Proofs.Ytnjoiokbeknopaa.Am
set_option linter.unusedVariables false
set_option linter.unusedSimpArgs false
section
variable {n : Nat} {N : List Nd} {I : List Pn} {C : List Cl} {P : List Pw} {Q : List Pn}
theorem bits15_ins {ins : Int} {G : List Kii} {lL : List Kiibii} {oL : List Kiii} (r : RightP N I C P Q) (hI : (pinL N I I.length).length ≤ 2000) (hn : 30000 < n) : law15_CircBits_l2 n (ins, G, pinL N I I.length, lL, oL, ()) N I (0, 0, ()) = some (.inr ()) := by
  have hi := r.i
  refine iter_up (F := law15_CircBits_l2b n (ins, G, pinL N I I.length, lL, oL, ()) N I) (fun j => (((pinL N I j).length : Int), (j : Int), ())) (.inr ()) (len := I.length) (m := n)
    (fun self j hj => ?_) (fun self => ?_) (by omega)
  · obtain ⟨p0, p1, p2⟩ := pin_node r.ins hj
    have hnode := node_at r.nodes p0 p1
    have h16 := hnode.w16
    have hw : ((wN N (Ksi_at I (j : Int)).2 : Nat) : Int) = (Kiiiiiii_at N (Ksi_at I (j : Int)).2).2.1 := by have := hnode.w1; unfold wN; omega
    have hm := pinL_mono (N := N) (I := I) (show j + 1 ≤ I.length from hj)
    rw [pinL_succ] at hm
    have l1 := iter_up (F := law15_CircBits_l1b n (((pinL N I j).length : Int), (j : Int), ()) (ins, G, pinL N I I.length, lL, oL, ()) N I) (fun k => (((((pinL N I j).length + k : Nat)) : Int), (k : Int), ())) (.inr (((pinL N I (j + 1)).length : Int), ())) (len := wN N (Ksi_at I (j : Int)).2) (m := n)
      (fun self k hk => by
        obtain ⟨e1, e2⟩ := pinL_at (N := N) (I := I) hj hk
        unfold law15_CircBits_l1b
        simp only [cond_dec]
        rw [ask_of (by omega), ask_of (by omega), if_pos (by omega), ask_of (by omega), e1, succ64 (by omega), succ64 (by omega)]
        simp [Nat.add_assoc])
      (fun self => by
        unfold law15_CircBits_l1b
        simp only [cond_dec]
        rw [ask_of (by omega), ask_of (by omega), if_neg (by omega), pinL_succ]) (by omega)
    unfold law15_CircBits_l2b
    simp only [cond_dec]
    rw [if_pos (by omega), show law15_CircBits_l1 n (((pinL N I j).length : Int), (j : Int), ()) (ins, G, pinL N I I.length, lL, oL, ()) N I (((pinL N I j).length : Int), 0, ()) = _ from l1, bindS, succ64 (by omega)]
    rfl
  · unfold law15_CircBits_l2b
    simp only [cond_dec]
    rw [if_neg (by omega)]
theorem bits15_lats {ins : Int} {G : List Kii} {iL : List Kiii} {oL : List Kiii} {B : Int → List Int} (r : RightP N I C P Q) (hI : iL.length ≤ 2000) (hn : 30000 < n) : law15_CircBits_l4 n (ins, G, iL, latL N C B iL.length C.length, oL, ()) N C (0, 0, ()) = some (.inr ()) := by
  have hc := r.c
  have ok := (latL_ok (B := B) (nI := iL.length) r).1
  refine iter_up (F := law15_CircBits_l4b n (ins, G, iL, latL N C B iL.length C.length, oL, ()) N C) (fun j => (((latL N C B iL.length j).length : Int), (j : Int), ())) (.inr ()) (len := C.length) (m := n)
    (fun self j hj => ?_) (fun self => ?_) (by omega)
  · obtain ⟨p0, p1, p2⟩ := cell_node r.cells hj
    have hnode := node_at r.nodes p0 p1
    have h16 := hnode.w16
    have hw : ((wN N (Ksiii_at C (j : Int)).2.1 : Nat) : Int) = (Kiiiiiii_at N (Ksiii_at C (j : Int)).2.1).2.1 := by have := hnode.w1; unfold wN; omega
    have hm := latL_mono (N := N) (C := C) (B := B) (nI := iL.length) (show j + 1 ≤ C.length from hj)
    rw [latL_succ] at hm
    have l1 := iter_up (F := law15_CircBits_l3b n (((latL N C B iL.length j).length : Int), (j : Int), ()) (ins, G, iL, latL N C B iL.length C.length, oL, ()) N C) (fun k => (((((latL N C B iL.length j).length + k : Nat)) : Int), (k : Int), ())) (.inr (((latL N C B iL.length (j + 1)).length : Int), ())) (len := wN N (Ksiii_at C (j : Int)).2.1) (m := n)
      (fun self k hk => by
        obtain ⟨e1, e2⟩ := latL_at (N := N) (C := C) (B := B) (nI := iL.length) hj hk
        have eb : decide ((bits .and .i64 (shrI .i64 ((((Ksiii_at C (j : Int)).2).2).2) (k : Int)) 1) = 1) = bitB (Ksiii_at C (j : Int)).2.2.2 k := rfl
        unfold law15_CircBits_l3b
        simp only [cond_dec, e1, eb]
        rw [ask_of (by omega), ask_of (by omega), if_pos (by omega), ask_of (by omega), if_neg (by simp), if_neg (by simp), ask_of (by omega), ask_of (by omega), succ64 (by omega), succ64 (by omega), w64 (n := (iL.length : Int) + _) (by omega) (by omega), w64 (by omega) (by omega), bne_self_eq_false, if_neg (by push_cast; omega)]
        simp [Nat.add_assoc])
      (fun self => by
        unfold law15_CircBits_l3b
        simp only [cond_dec]
        rw [ask_of (by omega), ask_of (by omega), if_neg (by omega), latL_succ]) (by omega)
    unfold law15_CircBits_l4b
    simp only [cond_dec]
    rw [if_pos (by omega), show law15_CircBits_l3 n (((latL N C B iL.length j).length : Int), (j : Int), ()) (ins, G, iL, latL N C B iL.length C.length, oL, ()) N C (((latL N C B iL.length j).length : Int), 0, ()) = _ from l1, bindS, succ64 (by omega)]
    rfl
  · unfold law15_CircBits_l4b
    simp only [cond_dec]
    rw [if_neg (by omega)]
theorem bits15_outs {ins : Int} {G : List Kii} {iL : List Kiii} {lL : List Kiibii} {B : Int → List Int} (r : RightP N I C P Q) (hn : 30000 < n) : law15_CircBits_l5 n (ins, G, iL, lL, outL P B, ()) P (0, ()) = some (.inr ()) := by
  have hp := r.p
  have ho : (outL P B).length = P.length := by simp [outL]
  refine iter_up (F := law15_CircBits_l5b n (ins, G, iL, lL, outL P B, ()) P) (fun j => ((j : Int), ())) (.inr ()) (len := P.length) (m := n)
    (fun self j hj => ?_) (fun self => ?_) (by omega)
  · have e : Kiii_at (outL P B) (j : Int) = ((Kisi_at P (j : Int)).1, Ki_at (B (Kisi_at P (j : Int)).2.2) 0, (j : Int)) := at_range (t := Kiii_) hj
    unfold law15_CircBits_l5b
    simp only [cond_dec, e]
    rw [if_pos (by omega), ask_of (by omega), ask_of (by omega), if_neg (by simp), ask_of (by omega), if_neg (by simp), succ64 (by omega)]
  · unfold law15_CircBits_l5b
    simp only [cond_dec]
    rw [if_neg (by omega)]
theorem bitss : law15_CircBits big N I C P Q = some (true, ()) := by
  have hn : 30000 < big := by decide
  unfold law15_CircBits
  rw [head15, bindS]
  obtain ⟨g, hg, hs⟩ := great_f (n := big) (N := N) (I := I) (C := C) (P := P) (Q := Q)
  rw [hg, bindS]
  cases g with
  | true => rfl
  | false =>
  have s := hs rfl
  obtain ⟨b, hb, hr⟩ := right_f s (n := big) (by omega)
  simp only [cond_false, hb, bindS]
  cases b with
  | false => rfl
  | true =>
  have r := hr.1 rfl
  rw [weight15_f s r hn]
  simp only [Bool.not_true, cond_false, cond_dec, bindS]
  by_cases hw : (6000 : Int) < wts N N.length
  · rw [if_pos hw]
  rw [if_neg hw]
  obtain ⟨G, M, e1, hB, hG⟩ := compile_f s r (by omega) hn
  have hpl : (pinL N I I.length).length ≤ 2000 := by
    have hpl : (pinL N I I.length).length = wl N (pinN I) := by rw [pinL_len (Nat.le_refl _), List.take_of_length_le (by simp [pinN])]
    have tp := pins_there r
    have := wl_le (N := N) (l := pinN I) fun x hx => by
      have := tp.2 x hx
      unfold wN; omega
    have h2 := r.i
    simp [pinN] at this
    unfold pinN at hpl
    omega
  rw [e1, bindS]
  simp only
  rw [circR_f (comp_right r hB) hn, bindS]
  simp only [Bool.not_true, cond_false]
  rw [fits_f15 s r hB hn, bindS]
  simp only [Bool.not_true, cond_false]
  rw [bits15_ins r hpl hn, bindS, Sum.elim_inr, bits15_lats r hpl hn, bindS, Sum.elim_inr, bits15_outs r hn, bindS, Sum.elim_inr]
end
end Go.Proofs.Ytnjoiokbeknopaa.Am
namespace Go.Proofs.Ytnjoiokbeknopaa.Pure
open Go.Proofs.Ytnjoiokbeknopaa.Am
theorem CircBits (d : law15_CircBits_s.I) (h : BAs law15_CircBits_s.ar d fun _ => True) : ∃ n, law15_CircBits n d.1 d.2.1 d.2.2.1 d.2.2.2.1 d.2.2.2.2.1 = some (true, ()) := ⟨big, bitss⟩
end Go.Proofs.Ytnjoiokbeknopaa.Pure
