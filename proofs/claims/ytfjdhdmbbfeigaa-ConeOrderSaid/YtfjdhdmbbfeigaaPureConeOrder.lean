/- ConeOrder, in plain Lean. -/
import Derived.Test.YtfjdhdmbbfeigaaPcU
namespace Go.Proofs.Ytfjdhdmbbfeigaa.Am
set_option linter.unusedVariables false
set_option linter.unusedSimpArgs false
section
variable {n : Nat} {N : List Nd} {I : List Pn} {C : List Cl} {P : List Pw} {Q : List Pn}
/-- The document's circuit is right, and not too great. -/
theorem rcirc_f (s : Small N I C P Q) (r : RightP N I C P Q) (hw : wts N N.length ≤ 1000) (hn : 30000 < n) : ∃ ins G iL lL oL, ref15_Compile n N I C P Q = some (ins, G, iL, lL, oL, ()) ∧ CircR ins G iL lL oL ∧ G.length ≤ 15000 := by
  obtain ⟨G, L, e, hB, hL, hG⟩ := made15_f s r (by omega) hn
  have hpl : (pinL N I I.length).length ≤ 5000 := by
    rw [pinL_len (Nat.le_refl _), List.take_of_length_le (by simp [pinN])]
    have h1 := hB.1.i1
    rw [LLof, wl_app] at h1
    omega
  refine ⟨_, G, pinL N I I.length, latL N C (fun x => KLi_at L x) (pinL N I I.length).length C.length, outL P (fun x => KLi_at L x), ?_, comp_right2 r hB.1 (hB.ok hL), by omega⟩
  unfold ref15_Compile
  rw [e, bindS]
  simp only
  rw [rpins_f s r hn, bindS]
  simp only
  rw [rlats_f s r hB hL hpl hn, bindS]
  simp only
  rw [routs_f r hB hL hn, bindS]
theorem cnt_f {oL : List Kiii} {q : Nat} {r9 : Int × List Kii × List Kiii × List Kiibii × List Kiii × Unit} (he : r9.2.2.2.2.1 = oL) (ho : oL.length ≤ 1000) (hn : 30000 < n) : law16_ConeOrder_l2 n r9 ((q : Int), ()) (1, 0, ()) = some (((selO oL q).length : Int), ()) := by
  have l := iter_up (F := law16_ConeOrder_l2b n r9 ((q : Int), ())) (fun j => ((((pickN (fun j => decide (j ≠ q) && decide ((Kiii_at oL (j : Int)).1 = 9)) j).length + 1 : Nat) : Int), (j : Int), ())) (((selO oL q).length : Int), ()) (len := oL.length) (m := n)
    (fun self j hj => by
      have hle := pickN_le (p := fun j => decide (j ≠ q) && decide ((Kiii_at oL (j : Int)).1 = 9)) (j := j)
      unfold law16_ConeOrder_l2b
      simp only [cond_dec, he]
      rw [if_pos (by omega), pickN_succ, List.length_append, succ64 (by omega), succ64 (by omega)]
      by_cases c1 : j = q
      · rw [if_neg (by omega)]
        simp [c1]
      · rw [if_pos (by omega), ask_of (by omega)]
        by_cases c2 : (Kiii_at oL (j : Int)).1 = 9
        · rw [if_pos c2]
          simp [c1, c2]
        · rw [if_neg c2]
          simp [c1, c2])
    (fun self => by
      unfold law16_ConeOrder_l2b
      simp only [cond_dec, he]
      rw [if_neg (by omega)]
      simp [selO]) (by omega)
  exact l
theorem cone_kept {ins ins2 : Int} {G G2 : List Kii} {iL i2 oL o2 : List Kiii} {lL : List Kiibii} {m : Mk} {num : List (Int × Int)} (c : CircR ins G iL lL oL) (hn : 30000 < n) : law16_kept n ins G iL lL oL ins2 G2 i2 (keepL num lL (conL m lL)) o2 (natI (conL m lL)) = some (true, ()) := by
  have hle : (conL m lL).length ≤ lL.length := pickN_le
  have hget : ∀ k : Nat, k < (conL m lL).length → (conL m lL)[k]? = some ((conL m lL).getD k 0) := fun k hk => by simp [List.getD, hk]
  refine kept_f c.l256 (by simp [keepL]) hle (fun k hk => ?_) (fun k hk => pickN_lt (Nat.lt_succ_self k) (hget k (by omega)) (hget (k + 1) hk)) (fun k hk => ?_) hn
  · have := List.mem_iff_getElem?.2 ⟨k, hget k hk⟩
    exact (pickN_mem.1 this).1
  · unfold keepL
    rw [show Kiibii_at ((conL m lL).map _) (k : Int) = _ from at_nat (t := Kiibii_) (by simpa using hk), List.getElem_map]
    simp [List.getD, hk]
theorem orders16 {x : Int} (h0 : 0 ≤ x) (h1 : x ≤ 255) : law16_ConeOrder big N I C P Q x = some (true, ()) := by
  have hn : 30000 < big := by decide
  unfold law16_ConeOrder
  rw [head16, bindS]
  obtain ⟨g, hg, hs⟩ := great16_f (n := big) (N := N) (I := I) (C := C) (P := P) (Q := Q) hn
  rw [hg, bindS]
  cases g with
  | true => rfl
  | false =>
  obtain ⟨s, r, hw⟩ := hs rfl
  obtain ⟨ins, G, iL, lL, oL, e1, c, hG⟩ := rcirc_f s r hw hn
  obtain ⟨gone, gx, to, k1, -, e2, k2, k3, k4, k5, k6⟩ := fixed_f (n := big) c hG hn (J := fun _ => True) trivial (fun _ _ _ _ _ _ _ _ _ _ _ _ => trivial)
  have cx := fix_right c rfl k3 k4 k5
  have hle := leftN_le (gone := gone) (j := lL.length)
  have kx : law16_kept big ins G iL lL oL ((iL.length + (leftN gone lL.length).length : Nat) : Int) gx iL (latX iL.length lL to (leftN gone lL.length)) (outX oL to) (leftI gone lL.length) = some (true, ()) :=
    kept_f c.l256 latX_len hle (fun k hk => (leftN_bnd hk).1) (fun k hk => leftN_lt hk) (fun k hk => by rw [latX_at hk]) hn
  simp only [cond_false]
  rw [e1, bindS]
  simp only
  rw [e2, bindS]
  unfold law16_ConeOrder_j1
  simp only
  rw [kx, bindS]
  simp only [Bool.not_true, cond_false, cond_dec, outX_len]
  rw [if_neg (by omega), bindS]
  simp only [cond_true, cond_dec]
  by_cases hz : (oL.length : Int) = 0
  · rw [if_pos hz, bindS]
    simp
  rw [if_neg hz]
  obtain ⟨q, e3, hq⟩ := place_f (n := big) h0 h1 (m := oL.length) (by omega)
  obtain ⟨m, num, z, a, i, e4, ha, hi, hm⟩ := cone_f (n := big) c hG hn hq
  obtain ⟨mx, numx, zx, ax, ix, e5, hax, hix, hmx⟩ := cone_f (n := big) cx (by omega) hn (q := q) (by rw [outX_len]; exact hq)
  rw [e3, bindS]
  simp only
  rw [e4, bindS, cnt_f rfl c.o1000 hn, bindS]
  simp only
  rw [cone_kept c hn, bindS]
  simp only [Bool.not_true, cond_false]
  rw [if_neg (by simp [keepO]), if_neg (by omega), if_neg (by omega), right15_f cx hn, bindS]
  simp only [Bool.not_true, cond_false]
  rw [e5, bindS]
  simp only
  rw [cone_kept cx hn, bindS]
  simp only [cond_true]
  have := con_le c rfl k2 k3 k4 k5 hq hm hmx
  rw [decide_eq_true]
  simp only [keepL, List.length_map]
  omega
end
end Go.Proofs.Ytfjdhdmbbfeigaa.Am
namespace Go.Proofs.Ytfjdhdmbbfeigaa.Pure
open Go.Proofs.Ytfjdhdmbbfeigaa.Am
theorem ConeOrder (d : law16_ConeOrder_s.I) (h : BAs law16_ConeOrder_s.ar d fun _ => True) : ∃ n, law16_ConeOrder n d.1 d.2.1 d.2.2.1 d.2.2.2.1 d.2.2.2.2.1 d.2.2.2.2.2.1 = some (true, ()) := by
  obtain ⟨-, -, -, -, -, h2, -⟩ := h
  exact ⟨big, orders16 (lit_u8 h2).1 (lit_u8 h2).2⟩
end Go.Proofs.Ytfjdhdmbbfeigaa.Pure
