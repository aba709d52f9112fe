/- ConeStill, in plain Lean. -/
import Derived.Test.YtfjdhdmbbfeigaaPcU3
namespace Go.Proofs.Ytfjdhdmbbfeigaa.Am
set_option linter.unusedVariables false
set_option linter.unusedSimpArgs false
section
variable {n : Nat} {N : List Nd} {I : List Pn} {C : List Cl} {P : List Pw} {Q : List Pn} {ins X : Int} {G gx : List Kii} {iL oL : List Kiii} {lL : List Kiibii} {gone : List Bool} {to : List Int}
/-- The program's circuit. -/
theorem pcirc_f (s : Small N I C P Q) (r : RightP N I C P Q) (hw : wts N N.length ≤ 1000) (hn : 30000 < n) : ∃ ins G iL lL oL, circ_Compile n N I C P Q = some (ins, G, iL, lL, oL, ()) ∧ CircR ins G iL lL oL ∧ G.length ≤ 15000 ∧ ∀ j : Nat, j < oL.length → (Kiii_at oL (j : Int)).2.2 = (j : Int) := by
  obtain ⟨G, M, e1, hB, hG⟩ := compile_f s r (by omega) hn
  refine ⟨_, G, _, _, _, e1, comp_right r hB, by omega, fun j hj => ?_⟩
  unfold outL at hj ⊢
  simp only [List.length_map, List.length_range] at hj
  rw [show Kiii_at ((List.range P.length).map _) (j : Int) = _ from at_range (t := Kiii_) hj]
theorem left_has {k : Nat} (hk : k < lL.length) : decide (k ∈ leftN gone lL.length) = !(Kb_at gone (k : Int)) := by
  unfold leftN
  cases hb : Kb_at gone (k : Int) with
  | true =>
    rw [decide_eq_false]
    · rfl
    · intro q
      have := (List.mem_filter.1 q).2
      simp [hb] at this
  | false =>
    rw [decide_eq_true (List.mem_filter.2 ⟨List.mem_range.2 hk, by simp [hb]⟩)]
    rfl
theorem stills_l (c : CircR ins G iL lL oL) (hM : Made X (fixF iL.length lL gone) G gx to) (cx : CircR X gx iL (latX iL.length lL to (leftN gone lL.length)) (outX oL to)) (htl : to.length = iL.length + 1 + lL.length + G.length) (hJ : StJ ins G iL lL gone) (hn : 30000 < n) {x6 : List (List Bool)} {z : Unit} : law16_ConeStill_l2 n (ins, G, iL, lL, oL, ()) (X, gx, iL, latX iL.length lL to (leftN gone lL.length), outX oL to, natI (leftN gone lL.length), ()) (firstB lL, ()) x6 (firstB lL, pickS (firstB lL) (leftN gone lL.length), 0, ()) = some (.inr ()) := by
  have i0 := c.r.i0
  have i1 := c.r.i1
  have hsum := c.sum
  have hl := c.l256
  have ho := c.o1000
  have hle := leftN_le (gone := gone) (j := lL.length)
  have flen : (firstB lL).length = lL.length := by simp [firstB]
  obtain ⟨R, e, rfl⟩ := iter_ex (F := law16_ConeStill_l2b n (ins, G, iL, lL, oL, ()) (X, gx, iL, latX iL.length lL to (leftN gone lL.length), outX oL to, natI (leftN gone lL.length), ()) (firstB lL, ()) x6) (len := min x6.length 20) (m := n) (d := (firstB lL, pickS (firstB lL) (leftN gone lL.length), 0, ()))
    (fun j d => ∃ s, d = (s, pickS s (leftN gone lL.length), (j : Int), ()) ∧ RS ins G iL lL s)
    (fun R => R = .inr ())
    (fun self j d hj hd => by
      obtain ⟨s, rfl, hs⟩ := hd
      have hsl := hs.len
      have hb : (bits16 (KLb_at x6 (j : Int)) iL.length).length = iL.length := by simp [bits16]
      generalize hx : bits16 (KLb_at x6 (j : Int)) iL.length = x at hb
      obtain ⟨W, e1, hW, hV⟩ := step15_w (n := n) (lats := s) (inps := x) c hsl hb hn
      have pl : (pickS s (leftN gone lL.length)).length = (latX iL.length lL to (leftN gone lL.length)).length := by simp [pickS, latX]
      obtain ⟨W2, e2, hW2, hU⟩ := step15_w (n := n) (lats := pickS s (leftN gone lL.length)) (inps := x) cx pl hb hn
      have sem := fix_sem c hM hb hsl hV hU (hJ s hs)
      obtain ⟨n1, n2⟩ := fix_next c htl sem
      unfold nextB at n1
      unfold outB at n2
      refine ⟨(nextB lL ((false :: (x ++ s)) ++ W), pickS (nextB lL ((false :: (x ++ s)) ++ W)) (leftN gone lL.length), ((j + 1 : Nat) : Int), ()), ?_, _, rfl, .step hs hb hW hV⟩
      have l1 := iter_up (F := law16_ConeStill_l1b n (s, pickS s (leftN gone lL.length), (j : Int), ()) (X, gx, iL, latX iL.length lL to (leftN gone lL.length), outX oL to, natI (leftN gone lL.length), ()) (firstB lL, ())) (fun j => ((j : Int), ())) (.inr ()) (len := lL.length) (m := n)
        (fun self k hk => by
          unfold law16_ConeStill_l1b
          simp only [cond_dec]
          rw [if_pos (by omega), has16_f (by omega) hn, bindS, left_has hk]
          cases hg : Kb_at gone (k : Int) with
          | true =>
            simp only [Bool.not_true, Bool.not_false, cond_true]
            rw [ask_of (by omega), ask_of (by simp [flen]; omega), succ64 (by omega), hJ s hs k hk hg]
            rw [show Kb_at ([] ++ firstB lL) (k : Int) = (Kiibii_at lL (k : Int)).2.2.1 from at_range (t := b_) hk]
            simp
          | false =>
            simp only [Bool.not_true, Bool.not_false, cond_false]
            rw [succ64 (by omega)])
        (fun self => by
          unfold law16_ConeStill_l1b
          simp only [cond_dec]
          rw [if_neg (by omega)]) (by omega)
      unfold law16_ConeStill_l2b
      simp only [cond_dec]
      rw [if_pos (by omega), if_pos (by omega), ask_of (by omega), bits16_f (by omega) hn, bindS, hx, if_neg (by omega), if_neg (by simp [flen]; omega), pick16_f (by omega) (fun k hk => by have := (leftN_bnd hk).1; omega) hn, bindS]
      simp only
      rw [same_f (by simp [pickS]; omega) hn, bindS]
      simp only [Bool.not_true, cond_false]
      rw [show law16_ConeStill_l1 n _ _ _ (0, ()) = _ from l1, bindS, Sum.elim_inr, e1, bindS, e2, bindS]
      simp only
      rw [n2, same_f (by simp; omega) hn, bindS]
      simp only [Bool.not_true, cond_false]
      rw [n1, succ64 (by omega)]
      rfl)
    (fun self d hd => by
      obtain ⟨s, rfl, hs⟩ := hd
      refine ⟨_, ?_, rfl⟩
      unfold law16_ConeStill_l2b
      simp only [cond_dec]
      by_cases h : ((min x6.length 20 : Nat) : Int) < (x6.length : Int)
      · rw [if_pos h, if_neg (by omega)]
      · rw [if_neg h]) (by omega) ⟨_, rfl, .first⟩
  exact e
theorem stills16 {x6 : List (List Bool)} : law16_ConeStill big N I C P Q x6 = some (true, ()) := by
  have hn : 30000 < big := by decide
  unfold law16_ConeStill
  rw [head16, bindS]
  obtain ⟨g, hg, hs⟩ := great16_f (n := big) (N := N) (I := I) (C := C) (P := P) (Q := Q) hn
  rw [hg, bindS]
  cases g with
  | true => rfl
  | false =>
  obtain ⟨s, r, hw⟩ := hs rfl
  obtain ⟨ins, G, iL, lL, oL, e1, c, hG, -⟩ := pcirc_f s r hw hn
  have hl := c.l256
  obtain ⟨gone, gx, to, k1, hJ, e2, k2, k3, k4, k5, k6⟩ := fixed_f (n := big) c hG hn (J := StJ ins G iL lL) stJ0 (fun gone next g to _ hJ hM r2 _ htl _ hk => stJ1 c hJ hM r2 htl hk)
  have cx := fix_right c rfl k3 k4 k5
  have hle := leftN_le (gone := gone) (j := lL.length)
  simp only [cond_false]
  rw [e1, bindS]
  simp only
  rw [e2, bindS]
  simp only
  rw [right15_f c hn, bindS]
  simp only [Bool.not_true, cond_false]
  rw [right15_f cx hn, bindS]
  simp only [Bool.not_true, cond_false, cond_dec]
  rw [if_neg (by simp [latX, leftI]), if_neg (by omega), first15_f hl hn, bindS, first15_f (by rw [latX_len]; omega) hn, bindS, ask_of ⟨trivial, by simp; omega⟩]
  have hf := fix_first (lL := lL) (iL := iL) (gone := gone) (to := to)
  unfold firstB at hf
  rw [hf]
  have := stills_l (n := big) c k2 cx k5 hJ hn (x6 := x6) (z := ())
  unfold firstB at this
  rw [show leftI gone lL.length = natI (leftN gone lL.length) from rfl, this, bindS, Sum.elim_inr]
end
end Go.Proofs.Ytfjdhdmbbfeigaa.Am
namespace Go.Proofs.Ytfjdhdmbbfeigaa.Pure
open Go.Proofs.Ytfjdhdmbbfeigaa.Am
theorem ConeStill (d : law16_ConeStill_s.I) (_h : BAs law16_ConeStill_s.ar d fun _ => True) : ∃ n, law16_ConeStill n d.1 d.2.1 d.2.2.1 d.2.2.2.1 d.2.2.2.2.1 d.2.2.2.2.2.1 = some (true, ()) := ⟨big, stills16⟩
end Go.Proofs.Ytfjdhdmbbfeigaa.Pure
