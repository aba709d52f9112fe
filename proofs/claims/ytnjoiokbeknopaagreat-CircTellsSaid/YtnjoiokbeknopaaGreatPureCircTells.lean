/- CircTells, in plain Lean. -/
import Derived.Test.YtnjoiokbeknopaaGreatPgT
import Derived.Test.YtnjoiokbeknopaaGreatAmY
namespace Go.Proofs.YtnjoiokbeknopaaGreat.Am
set_option linter.unusedVariables false
set_option linter.unusedSimpArgs false
theorem tells15 {N I C P Q} {ins : Int} {G : List Kii} {iL : List Kiii} {lL : List Kiibii} {oL : List Kiii} {a b : List Bool} {pins : Int} {row : List Int} (h1 : (Lit.int .i64 ins).wf = true) (hG : ∀ x ∈ G, (Lit.int .i64 x.1).wf = true ∧ (Lit.int .i64 x.2).wf = true) (hL : ∀ x ∈ lL, (Lit.int .i64 x.2.1).wf = true) (hO : ∀ x ∈ oL, (Lit.int .i64 x.2.1).wf = true) (hp : (Lit.int .u8 pins).wf = true) : law15_CircTells big N I C P Q ins G iL lL oL a b pins row = some (true, ()) := by
  have hn : 30000 < big := by decide
  unfold law15_CircTells
  rw [head15, bindS]
  obtain ⟨g, hg, hs⟩ := great_f (n := big) (N := N) (I := I) (C := C) (P := P) (Q := Q)
  rw [hg, bindS]
  cases g with
  | true => rfl
  | false =>
  have s := hs rfl
  obtain ⟨b1, hb1, hr⟩ := right_f s (n := big) (by omega)
  simp only [cond_false, hb1, bindS]
  cases b1 with
  | false => rfl
  | true =>
  have r := hr.1 rfl
  have hi := r.i
  have hT := pinL_len2 r
  rw [weight15_f s r hn]
  simp only [Bool.not_true, cond_false, cond_dec, bindS]
  by_cases hw : (6000 : Int) < wts N N.length
  · rw [if_pos hw]
  by_cases g1 : (200 : Int) < (G.length : Int)
  · rw [if_neg hw, if_pos g1]
  by_cases g2 : (100 : Int) < (iL.length : Int)
  · rw [if_neg hw, if_neg g1, if_pos g2]
  by_cases g3 : (300 : Int) < (lL.length : Int)
  · rw [if_neg hw, if_neg g1, if_neg g2, if_pos g3]
  by_cases g4 : (100 : Int) < (oL.length : Int)
  · rw [if_neg hw, if_neg g1, if_neg g2, if_neg g3, if_pos g4]
  rw [if_neg hw, if_neg g1, if_neg g2, if_neg g3, if_neg g4]
  have raw : RawC ins G iL lL oL := ⟨lit_i64 h1, by omega, fun j hj => by
    have h := hG _ (at_mem (t := Kii_) hj)
    exact ⟨lit_i64 h.1, lit_i64 h.2⟩, by omega, by omega, by omega, fun j hj => lit_i64 (hL _ (at_mem (t := Kiibii_) hj)), fun j hj => lit_i64 (hO _ (at_mem (t := Kiii_) hj))⟩
  obtain ⟨x, ex, hx⟩ := circ_iff (n := big) raw hn
  obtain ⟨y, ey, hy⟩ := rcirc_iff (n := big) raw hn
  have hxy : x = y := by
    have := hx.trans hy.symm
    cases x <;> cases y <;> simp_all
  rw [ex, bindS, ey, bindS]
  simp only [hxy, bne_self_eq_false, cond_false]
  clear raw ex ey hx hy hxy x y g1 g2 g3 g4 h1 hG hL hO
  obtain ⟨G', L, e1, hB, hLl⟩ := rcompile_f s r (by omega) hn
  have hC := comp_right2 (B := fun x => KLi_at L x) r hB.1 (hB.ok hLl)
  rw [e1, bindS]
  simp only
  have hl256 := hC.l256
  have ho := hC.o1000
  rw [bits15_f (by omega) hn, bindS, bits15_f (by omega) hn, bindS]
  simp only
  have hla : (bits15 a (latL N C (fun x => KLi_at L x) (pinL N I I.length).length C.length).length).length = (latL N C (fun x => KLi_at L x) (pinL N I I.length).length C.length).length := by simp [bits15]
  have hlb : (bits15 b (pinL N I I.length).length).length = (pinL N I I.length).length := by simp [bits15]
  obtain ⟨X, eX1, eX2, hX1, hX2⟩ := rstep15_f (n := big) hC hla hlb hn
  rw [eX1, bindS, eX2, bindS]
  simp only
  have l1 := iter_up (F := law15_CircTells_l1b big I row) (fun j => ((j : Int), (List.range j).map (fun i => if i < row.length then IntKind.wrap .i64 (Kw_at row (i : Int)) else IntKind.wrap .i64 0), ())) ((List.range I.length).map (fun i => if i < row.length then IntKind.wrap .i64 (Kw_at row (i : Int)) else IntKind.wrap .i64 0), ()) (len := I.length) (m := big)
    (fun self j hj => by
      unfold law15_CircTells_l1b law15_At
      simp only [cond_dec]
      rw [if_pos (by omega)]
      by_cases c : j < row.length
      · rw [if_pos (by omega), ask_of (by omega), bindS, ask_of (by simp; omega), succ64 (by omega), List.range_succ, List.map_append]
        simp only [List.map_cons, List.map_nil, if_pos c]
      · rw [if_neg (by omega), bindS, ask_of (by simp; omega), succ64 (by omega), List.range_succ, List.map_append]
        simp only [List.map_cons, List.map_nil, if_neg c])
    (fun self => by
      unfold law15_CircTells_l1b
      simp only [cond_dec]
      rw [if_neg (by omega)]) (by unfold big; omega)
  rw [show law15_CircTells_l1 big I row (0, [], ()) = _ from l1, bindS, ask_of (by omega)]
  simp only [cond_true]
  obtain ⟨p0, p1⟩ := lit_u8 hp
  obtain ⟨p, hpp, hp64⟩ : ∃ p : Nat, Int.tmod (IntKind.wrap .i64 pins) 65 = (p : Int) ∧ p ≤ 64 := by
    rw [w64 (by omega) (by omega), tmodn p0]
    exact ⟨(pins % 65).toNat, by omega, by omega⟩
  rw [first15_f hl256 hn, bindS, rfirst15_f hl256 hn, bindS]
  simp only
  rw [same_f (by simp; omega) hn, bindS]
  simp only [cond_true]
  rw [same_f (by omega) hn, bindS]
  simp only [cond_true]
  rw [same_f (by omega) hn, bindS]
  simp only [cond_true]
  rw [inso15_f r (by simp) hn, bindS, rins15_f r (by simp) hn, bindS]
  simp only
  rw [same_f (by simp [insL]; omega) hn, bindS]
  simp only [cond_true, hpp]
  rw [rowp15_f r hlb (by omega) hn, bindS, rrowp15_f r hlb (by omega) hn, bindS]
  simp only
  rw [sameInts_f (by simp [rowP]; omega) hn, bindS]
end Go.Proofs.YtnjoiokbeknopaaGreat.Am
namespace Go.Proofs.YtnjoiokbeknopaaGreat.Pure
open Go.Proofs.YtnjoiokbeknopaaGreat.Am
theorem CircTells (d : law15_CircTells_s.I) (h : BAs law15_CircTells_s.ar d fun _ => True) : ∃ n, law15_CircTells n d.1 d.2.1 d.2.2.1 d.2.2.2.1 d.2.2.2.2.1 d.2.2.2.2.2.1 d.2.2.2.2.2.2.1 d.2.2.2.2.2.2.2.1 d.2.2.2.2.2.2.2.2.1 d.2.2.2.2.2.2.2.2.2.1 d.2.2.2.2.2.2.2.2.2.2.1 d.2.2.2.2.2.2.2.2.2.2.2.1 d.2.2.2.2.2.2.2.2.2.2.2.2.1 d.2.2.2.2.2.2.2.2.2.2.2.2.2.1 = some (true, ()) := by
  obtain ⟨-, -, -, -, -, h1, hG, -, hL, hO, -, -, hp, -⟩ := h
  exact ⟨big, tells15 h1 (fun x hx => hG.2 x hx) (fun x hx => (hL.2 x hx).2.1) (fun x hx => (hO.2 x hx).2.1) hp⟩
end Go.Proofs.YtnjoiokbeknopaaGreat.Pure
