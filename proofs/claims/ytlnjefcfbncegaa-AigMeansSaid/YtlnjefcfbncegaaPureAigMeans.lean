/- Slimmed by this session: what nothing names is struck out. -/
import Derived.Test.YtlnjefcfbncegaaXbSAigMeans
import Derived.Test.YtlnjefcfbncegaaP13All
namespace Go.Proofs.Ytlnjefcfbncegaa.Pure
open Go.RowKit Go.Proofs.YtlnjefcfbncegaaW.PrintWords Go.Proofs.YtlnjefcfbncegaaW.PrintMore Go.Proofs.Ytlnjefcfbncegaa.PBits Go.Proofs.Ytlnjefcfbncegaa.PAig Go.Proofs.Ytlnjefcfbncegaa.PVal Go.Proofs.Ytlnjefcfbncegaa.PAig13 Go.Proofs.Ytlnjefcfbncegaa.PSem13 Go.Proofs.Ytlnjefcfbncegaa.Xb
theorem opOkM {x : S28} (h : B28 x) : OpOk x := ⟨lit_u8 h.1, lit_u16 h.2.1, lit_u16 h.2.2.1, lit_u16 h.2.2.2⟩
theorem means_j0 {v : List Bool} {a b c x y z u : Int} (n : v.length < 1000000)
    (ha : 0 ≤ a ∧ a < 2 * (v.length : Int)) (hb : 0 ≤ b ∧ b < 2 * (v.length : Int)) (hc : 0 ≤ c ∧ c < 2 * (v.length : Int))
    (hx : 0 ≤ x ∧ x < 2 * (v.length : Int)) (hy : 0 ≤ y ∧ y < 2 * (v.length : Int)) (hz : 0 ≤ z ∧ z < 2 * (v.length : Int)) (hu : 0 ≤ u ∧ u < 2 * (v.length : Int))
    (ex : lv v x = (lv v a && lv v b)) (ey : lv v y = (lv v a || lv v b)) (ez : lv v z = (lv v a != lv v b)) (eu : lv v u = (lv v a && lv v b || !lv v a && lv v c)) :
    Ev (fun k => proofmarklaw13_AigMeans.j0 k true a b c x y z u v false) true := by
  refine Ev.step (f := fun _ => some true) (fun k => ?_) (Ev.now _)
  simp only [proofmarklaw13_AigMeans.j0]
  have n' : v.length < 1000000000 := by omega
  rw [if_neg (by decide), lit_f ha.1 ha.2 n', lit_f hb.1 hb.2 n', lit_f hc.1 hc.2 n', lit_f hx.1 hx.2 n', lit_f hy.1 hy.2 n', lit_f hz.1 hz.2 n', lit_f hu.1 hu.2 n', ex, ey, ez, eu]
  generalize lv v a = A
  generalize lv v b = B
  generalize lv v c = C
  cases A <;> cases B <;> cases C <;> rfl
theorem hwlMeans {ins a n : Int} (h0 : 0 ≤ ins) (h1 : ins < 1000000) (h2 : 0 ≤ n ∧ n < 1000000) (h : a = 1 + ins + n) : a = wrap64 (wrap64 (1 + ins) + n) := by
  rw [w64 (n := 1 + ins) (by omega) (by omega), w64 (by omega) (by omega)]
  exact h
theorem AigMeans : proofmarklaw13_AigMeans.Pure := by
  intro x0 x1 x2 x3 w0 w1 w2 _w3
  have b0 := lit_u8 w0
  have ok := opOkM w2
  refine Ev.rounds (r := true) ?_
  unfold proofmarklaw13_AigMeans.f
  refine Ev.bind (f := fun k t => _) head13 ?_
  rw [great_f]
  simp only [Option.bind_some]
  by_cases hl : (x1.length : Int) > 120
  · simp only [decide_eq_true hl, if_true]
    exact Ev.now _
  simp only [decide_eq_false hl, Bool.false_eq_true, if_false]
  obtain ⟨ins, l, lits, hev, hg, hn⟩ := made_ev x0 x1 b0.1 b0.2 (fun x hx => opOkM (w1.2 x hx)) (by omega)
  refine Ev.bind (f := fun k bt => _) hev ?_
  have i0 := hg.ins0
  have i1 := hg.ins1
  have few : ∀ {m : List A2}, m.length < 1000 → Few ins m := fun h => ⟨i0, by omega, by omega⟩
  have hf : Few ins l := few (by omega)
  obtain ⟨ea, la⟩ := literal_f hf ok.2.1.1 ok.2.1.2
  obtain ⟨eb, lb⟩ := literal_f hf ok.2.2.1.1 ok.2.2.1.2
  obtain ⟨ec, lc⟩ := literal_f hf ok.2.2.2.1 ok.2.2.2.2
  refine Ev.bindc (f := fun k t => _) ea ?_
  refine Ev.bindc (f := fun k t => _) eb ?_
  refine Ev.bindc (f := fun k t => _) ec ?_
  clear ea eb ec
  generalize x2.f1 % (2 * (ins + (l.length : Int) + 1)) = a at la ⊢
  generalize x2.f2 % (2 * (ins + (l.length : Int) + 1)) = b at lb ⊢
  generalize x2.f3 % (2 * (ins + (l.length : Int) + 1)) = c at lc ⊢
  have m1 := and_mk hg la lb
  have f1 := few (m := andL l a b) (by have := m1.len; omega)
  have la1 := lit_pre la m1.pre
  have lb1 := lit_pre lb m1.pre
  have m2 := or_mk m1.good la1 lb1
  have n1 := m1.len
  have n2 := m2.len
  have la2 := lit_pre la1 m2.pre
  have lb2 := lit_pre lb1 m2.pre
  have m3 := xor_mk m2.good la2 lb2
  have n3 := m3.len
  have la3 := lit_pre la2 m3.pre
  have lb3 := lit_pre lb2 m3.pre
  have lc3 := lit_pre (lit_pre (lit_pre lc m1.pre) m2.pre) m3.pre
  have m4 := mux_mk m3.good la3 lb3 lc3
  have n4 := m4.len
  have ev0 := aand_ev hf la lb
  have ev1 := aor_ev m1.good f1 (by omega) la1 lb1
  have ev2 := axor_ev m2.good (few (by omega)) (by omega) la2 lb2
  have ev3 := amux_ev m3.good (few (by omega)) (by omega) la3 lb3 lc3
  refine Ev.bind (f := fun k t => _) ev0 ?_
  refine Ev.bind (f := fun k t => _) ev1 ?_
  refine Ev.bind (f := fun k t => _) ev2 ?_
  refine Ev.bind (f := fun k t => _) ev3 ?_
  obtain ⟨bv, hbv, hbl⟩ := bits_ev ins l x3 i0 i1
  refine Ev.bind (f := fun k t => _) hbv ?_
  obtain ⟨v, hvv, hval⟩ := eval_ev m4.good (by omega) hbl
  refine Ev.bind (f := fun k t => _) hvv ?_
  have p34 := m4.pre
  have p24 := m3.pre.trans p34
  have p14 := m2.pre.trans p24
  have ba := litv hval (lit_pre la3 p34)
  have bb := litv hval (lit_pre lb3 p34)
  have bc := litv hval (lit_pre lc3 p34)
  have bx := litv hval (lit_pre m1.lit p14)
  have by_ := litv hval (lit_pre m2.lit p24)
  have bz := litv hval (lit_pre m3.lit p34)
  have bu := litv hval m4.lit
  have ex := and_mean hval hg la lb p14
  have ey := or_mean hval m1.good la1 lb1 p24
  have ez := xor_mean hval m2.good la2 lb2 p34
  have eu := mux_mean hval m3.good la3 lb3 lc3 (Pre.refl _)
  have vl := hval.len
  have nv : v.length < 1000000 := by omega
  have hw : (v.length : Int) = wrap64 (wrap64 (1 + ins) + _) := (hwlMeans (by omega) (by omega) (by omega) vl)
  refine Ev.ite_pos (by trivial) ?_
  refine Ev.ite_pos hw ?_
  have hj := means_j0 nv ba bb bc bx by_ bz bu ex ey ez eu
  clear ex ey ez eu
  generalize andX ins l a b = X at *
  generalize orX ins _ a b = Y at *
  generalize xorX ins _ a b = Z at *
  generalize muxX ins _ a b c = U at *
  refine Ev.ite_neg (by rw [w64 (by omega) (by omega)]; simp only [mx]; omega) ?_
  have hm : decide (mn (mn (mn X Y) Z) U < 0) = false := decide_eq_false (by simp only [mn]; omega)
  simp only [hm]
  exact hj
end Go.Proofs.Ytlnjefcfbncegaa.Pure
