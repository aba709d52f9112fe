/- ConeTells, in plain Lean. -/
import Derived.Test.YtfjdhdmbbfeigaaPcU2
namespace Go.Proofs.Ytfjdhdmbbfeigaa.Am
set_option linter.unusedVariables false
set_option linter.unusedSimpArgs false
section
variable {n : Nat} {N : List Nd} {I : List Pn} {C : List Cl} {P : List Pw} {Q : List Pn} {ins : Int} {G : List Kii} {iL oL : List Kiii} {lL : List Kiibii}
/-- What is asked of a right circuit. -/
theorem tells_r (c : CircR ins G iL lL oL) (hG : G.length ≤ 15000) {x : Int} (h0 : 0 ≤ x) (h1 : x ≤ 255) (hn : 30000 < n) : (cone_Fixed n ins G iL lL oL).bind (fun r17 => (ref16_Fixed n ins G iL lL oL).bind (fun r18 => (law16_ConeTells_j2 n (ins, G, iL, lL, oL, ()) r17 r18).bind (fun d21 => cond d21.1
 (cond true
 ((ref16_Same n r17.1 r17.2.1 r17.2.2.1 r17.2.2.2.1 r17.2.2.2.2.1 r18.1 r18.2.1 r18.2.2.1 r18.2.2.2.1 r18.2.2.2.2.1).bind (fun r22 => cond r22.1
 ((ref04_SameInts n r17.2.2.2.2.2.1 r18.2.2.2.2.2.1).bind (fun r23 => some (r23.1, ())))
 (some (false, ()))))
 (some (false, ())))
 ((law16_place n x (oL.length : Int)).bind (fun r24 => (cone_Cone n ins G iL lL oL r24.1).bind (fun r25 => (ref16_Cone n ins G iL lL oL r24.1).bind (fun r26 => cond true
 ((ref16_Same n r25.1 r25.2.1 r25.2.2.1 r25.2.2.2.1 r25.2.2.2.2.1 r26.1 r26.2.1 r26.2.2.1 r26.2.2.2.1 r26.2.2.2.2.1).bind (fun r27 => cond r27.1
 ((ref04_SameInts n r25.2.2.2.2.2.1 r26.2.2.2.2.2.1).bind (fun r28 => some (r28.1, ())))
 (some (false, ()))))
 (some (false, ()))))))))) = some (true, ()) := by
  have hs := c.sum
  have hl := c.l256
  have ho := c.o1000
  have i1 := c.r.i1
  obtain ⟨gone, gx, to, k1, e1, e2, k2, k3, k4, k5⟩ := fixed2_f (n := n) c hG hn
  have hle := leftN_le (gone := gone) (j := lL.length)
  have s1 := same16_f (n := n) (ins := ((iL.length + (leftN gone lL.length).length : Nat) : Int)) (G := gx) (iL := iL) (lL := latX iL.length lL to (leftN gone lL.length)) (oL := outX oL to) k2.len (by omega) (by rw [latX_len]; omega) (by rw [outX_len]; omega) hn
  have s2 := sameInts_f (n := n) (x := leftI gone lL.length) (by simp [leftI]; omega) hn
  rw [e1, bindS, e2, bindS]
  unfold law16_ConeTells_j2
  simp only
  rw [s1, bindS]
  simp only [Bool.not_true, cond_false]
  rw [s2, bindS]
  simp only [Bool.not_true, cond_false, bindS, cond_dec]
  by_cases hz : (oL.length : Int) = 0
  · rw [if_pos hz]
    rfl
  rw [if_neg hz]
  obtain ⟨q, e3, hq⟩ := place_f (n := n) h0 h1 (m := oL.length) (by omega)
  obtain ⟨r, e4, e5, q1, q2, q3, q4, q5⟩ := cone2_f_all (n := n) c hG hn hq
  rw [e3, bindS]
  simp only
  rw [e4, bindS, e5, bindS, same16_f q1 q2 (by omega) (by omega) hn, bindS]
  simp only [cond_true]
  rw [sameInts_f (by omega) hn, bindS]
theorem tells16 {x6 : Int} {x7 : List Kii} {x8 : List Kiii} {x9 : List Kiibii} {x10 : List Kiii} {x : Int} (hi : I64 x6) (hg : ∀ y ∈ x7, I64 y.1 ∧ I64 y.2) (hl : ∀ y ∈ x9, I64 y.2.1) (ho : ∀ y ∈ x10, I64 y.2.1) (h0 : 0 ≤ x) (h1 : x ≤ 255) : law16_ConeTells big N I C P Q x6 x7 x8 x9 x10 x = some (true, ()) := by
  have hn : 30000 < big := by decide
  unfold law16_ConeTells
  rw [head16, bindS]
  obtain ⟨g, hgr, hs⟩ := great16_f (n := big) (N := N) (I := I) (C := C) (P := P) (Q := Q) hn
  rw [hgr, bindS]
  cases g with
  | true => rfl
  | false =>
  obtain ⟨s, r, hw⟩ := hs rfl
  obtain ⟨ins, G, iL, lL, oL, e1, c, hG⟩ := rcirc_f s r hw hn
  simp only [cond_false, cond_dec]
  by_cases c1 : (200 : Int) < (x7.length : Int)
  · rw [if_pos c1]
  rw [if_neg c1]
  by_cases c2 : (100 : Int) < (x8.length : Int)
  · rw [if_pos c2]
  rw [if_neg c2]
  by_cases c3 : (60 : Int) < (x9.length : Int)
  · rw [if_pos c3]
  rw [if_neg c3]
  by_cases c4 : (100 : Int) < (x10.length : Int)
  · rw [if_pos c4]
  rw [if_neg c4, e1, bindS]
  have raw : RawC x6 x7 x8 x9 x10 := ⟨hi, by omega, fun j hj => by rw [show Kii_at x7 (j : Int) = x7[j] from at_nat (t := Kii_) hj]; exact hg _ (List.getElem_mem hj), by omega, by omega, by omega, fun j hj => by rw [show Kiibii_at x9 (j : Int) = x9[j] from at_nat (t := Kiibii_) hj]; exact hl _ (List.getElem_mem hj), fun j hj => by rw [show Kiii_at x10 (j : Int) = x10[j] from at_nat (t := Kiii_) hj]; exact ho _ (List.getElem_mem hj)⟩
  obtain ⟨b, e2, hb⟩ := rcirc_iff (n := big) raw hn
  unfold law16_ConeTells_j1
  rw [e2, bindS]
  cases b with
  | true =>
    simp only [cond_true, bindS]
    have := tells_r (n := big) (raw_right raw (by omega) (hb.1 rfl)) (by omega) h0 h1 hn
    simpa only [cond_true] using this
  | false =>
    simp only [cond_false, bindS]
    have := tells_r (n := big) c hG h0 h1 hn
    simpa only [cond_true] using this
end
end Go.Proofs.Ytfjdhdmbbfeigaa.Am
namespace Go.Proofs.Ytfjdhdmbbfeigaa.Pure
open Go.Proofs.Ytfjdhdmbbfeigaa.Am
theorem ConeTells (d : law16_ConeTells_s.I) (h : BAs law16_ConeTells_s.ar d fun _ => True) : ∃ n, law16_ConeTells n d.1 d.2.1 d.2.2.1 d.2.2.2.1 d.2.2.2.2.1 d.2.2.2.2.2.1 d.2.2.2.2.2.2.1 d.2.2.2.2.2.2.2.1 d.2.2.2.2.2.2.2.2.1 d.2.2.2.2.2.2.2.2.2.1 d.2.2.2.2.2.2.2.2.2.2.1 = some (true, ()) := by
  obtain ⟨-, -, -, -, -, h1, h2, h3, h4, h5, h6, -⟩ := h
  exact ⟨big, tells16 (lit_i64 h1) (fun y hy => ⟨lit_i64 (h2.2 y hy).1, lit_i64 (h2.2 y hy).2⟩) (fun y hy => lit_i64 (h4.2 y hy).2.1) (fun y hy => lit_i64 (h5.2 y hy).2.1) (lit_u8 h6).1 (lit_u8 h6).2⟩
end Go.Proofs.Ytfjdhdmbbfeigaa.Pure
