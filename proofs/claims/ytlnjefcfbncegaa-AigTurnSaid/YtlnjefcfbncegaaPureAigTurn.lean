/- Slimmed by this session: what nothing names is struck out. -/
import Derived.Test.YtlnjefcfbncegaaXbSAigTurn
import Derived.Test.YtlnjefcfbncegaaP13All
namespace Go.Proofs.Ytlnjefcfbncegaa.Pure
open Go.RowKit Go.Proofs.YtlnjefcfbncegaaW.PrintWords Go.Proofs.YtlnjefcfbncegaaW.PrintMore Go.Proofs.Ytlnjefcfbncegaa.PBits Go.Proofs.Ytlnjefcfbncegaa.PAig Go.Proofs.Ytlnjefcfbncegaa.PVal Go.Proofs.Ytlnjefcfbncegaa.PAig13 Go.Proofs.Ytlnjefcfbncegaa.PSem13 Go.Proofs.Ytlnjefcfbncegaa.Xb
theorem opOkT {x : S28} (h : B28 x) : OpOk x := ⟨lit_u8 h.1, lit_u16 h.2.1, lit_u16 h.2.2.1, lit_u16 h.2.2.2⟩
theorem turn_j0 {v : List Bool} {x y p q s t : Int} (n : v.length < 1000000)
    (hx : 0 ≤ x ∧ x < 2 * (v.length : Int)) (hy : 0 ≤ y ∧ y < 2 * (v.length : Int)) (hp : 0 ≤ p ∧ p < 2 * (v.length : Int)) (hq : 0 ≤ q ∧ q < 2 * (v.length : Int)) (hs : 0 ≤ s ∧ s < 2 * (v.length : Int)) (ht : 0 ≤ t ∧ t < 2 * (v.length : Int))
    (e1 : lv v x = !lv v y) (e2 : lv v p = lv v q) (e3 : lv v s = !lv v t) :
    Ev (fun k => proofmarklaw13_AigTurn.j0 k true x y p q s t v false) true := by
  refine Ev.step (f := fun _ => some true) (fun k => ?_) (Ev.now _)
  simp only [proofmarklaw13_AigTurn.j0]
  have n' : v.length < 1000000000 := by omega
  rw [if_neg (by decide), lit_f hx.1 hx.2 n', lit_f hy.1 hy.2 n', lit_f hp.1 hp.2 n', lit_f hq.1 hq.2 n', lit_f hs.1 hs.2 n', lit_f ht.1 ht.2 n', e1, e2, e3]
  generalize lv v y = A
  generalize lv v q = B
  generalize lv v t = C
  cases A <;> cases B <;> cases C <;> rfl
theorem hwlTurn {ins a n : Int} (h0 : 0 ≤ ins) (h1 : ins < 1000000) (h2 : 0 ≤ n ∧ n < 1000000) (h : a = 1 + ins + n) : a = wrap64 (wrap64 (1 + ins) + n) := by
  rw [w64 (n := 1 + ins) (by omega) (by omega), w64 (by omega) (by omega)]
  exact h
theorem AigTurn : proofmarklaw13_AigTurn.Pure := by
  intro x0 x1 x2 x3 w0 w1 w2 _w3
  have b0 := lit_u8 w0
  have ok := opOkT w2
  refine Ev.rounds (r := true) ?_
  unfold proofmarklaw13_AigTurn.f
  refine Ev.bind (f := fun k t => _) head13 ?_
  rw [great_f]
  simp only [Option.bind_some]
  by_cases hl : (x1.length : Int) > 120
  · simp only [decide_eq_true hl, if_true]
    exact Ev.now _
  simp only [decide_eq_false hl, Bool.false_eq_true, if_false]
  obtain ⟨ins, l, lits, hev, hg, hn⟩ := made_ev x0 x1 b0.1 b0.2 (fun x hx => opOkT (w1.2 x hx)) (by omega)
  refine Ev.bind (f := fun k bt => _) hev ?_
  have i0 := hg.ins0
  have i1 := hg.ins1
  have few : ∀ {m : List A2}, m.length < 1000 → Few ins m := fun h => ⟨i0, by omega, by omega⟩
  have hf : Few ins l := few (by omega)
  obtain ⟨ea, la⟩ := literal_f hf ok.2.1.1 ok.2.1.2
  obtain ⟨eb, lb⟩ := literal_f hf ok.2.2.1.1 ok.2.2.1.2
  obtain ⟨ec, lc⟩ := literal_f hf ok.2.2.2.1 ok.2.2.2.2
  refine Ev.bindc (f := fun k t => _) ea ?_
  refine Ev.bindc (f := fun k t => _) eb ?_
  refine Ev.bindc (f := fun k t => _) ec ?_
  clear ea eb ec
  generalize x2.f1 % (2 * (ins + (l.length : Int) + 1)) = a at la ⊢
  generalize x2.f2 % (2 * (ins + (l.length : Int) + 1)) = b at lb ⊢
  generalize x2.f3 % (2 * (ins + (l.length : Int) + 1)) = c at lc ⊢
  have xa : Go.bits .xor .i64 a 1 = turn a := xor_one a (la.bd hf).1 (by have := (la.bd hf).2; omega)
  have xb : Go.bits .xor .i64 b 1 = turn b := xor_one b (lb.bd hf).1 (by have := (lb.bd hf).2; omega)
  rw [xa, xb]
  clear xa xb
  have m1 := or_mk hg la lb
  have n1 := m1.len
  have la1 := lit_pre la m1.pre
  have lb1 := lit_pre lb m1.pre
  have m2 := and_mk m1.good la1.turn lb1.turn
  have n2 := m2.len
  have la2 := lit_pre la1 m2.pre
  have lb2 := lit_pre lb1 m2.pre
  have lc2 := lit_pre (lit_pre lc m1.pre) m2.pre
  have m3 := mux_mk m2.good la2 lb2 lc2
  have n3 := m3.len
  have la3 := lit_pre la2 m3.pre
  have lb3 := lit_pre lb2 m3.pre
  have lc3 := lit_pre lc2 m3.pre
  have m4 := mux_mk m3.good la3.turn lc3 lb3
  have n4 := m4.len
  have la4 := lit_pre la3 m4.pre
  have lb4 := lit_pre lb3 m4.pre
  have m5 := xor_mk m4.good la4 lb4
  have n5 := m5.len
  have la5 := lit_pre la4 m5.pre
  have lb5 := lit_pre lb4 m5.pre
  have m6 := xor_mk m5.good la5.turn lb5
  have n6 := m6.len
  have ev0 := aor_ev hg hf (by omega) la lb
  have ev1 := aand_ev (few (by omega)) la1.turn lb1.turn
  have ev2 := amux_ev m2.good (few (by omega)) (by omega) la2 lb2 lc2
  have ev3 := amux_ev m3.good (few (by omega)) (by omega) la3.turn lc3 lb3
  have ev4 := axor_ev m4.good (few (by omega)) (by omega) la4 lb4
  have ev5 := axor_ev m5.good (few (by omega)) (by omega) la5.turn lb5
  refine Ev.bind (f := fun k t => _) ev0 ?_
  refine Ev.bind (f := fun k t => _) ev1 ?_
  refine Ev.bind (f := fun k t => _) ev2 ?_
  refine Ev.bind (f := fun k t => _) ev3 ?_
  refine Ev.bind (f := fun k t => _) ev4 ?_
  refine Ev.bind (f := fun k t => _) ev5 ?_
  obtain ⟨bv, hbv, hbl⟩ := bits_ev ins l x3 i0 i1
  refine Ev.bind (f := fun k t => _) hbv ?_
  obtain ⟨v, hvv, hval⟩ := eval_ev m6.good (by omega) hbl
  refine Ev.bind (f := fun k t => _) hvv ?_
  have p5 := m6.pre
  have p4 := m5.pre.trans p5
  have p3 := m4.pre.trans p4
  have p2 := m3.pre.trans p3
  have p1 := m2.pre.trans p2
  have bx := litv hval (lit_pre m1.lit p1)
  have by_ := litv hval (lit_pre m2.lit p2)
  have bp := litv hval (lit_pre m3.lit p3)
  have bq := litv hval (lit_pre m4.lit p4)
  have bs := litv hval (lit_pre m5.lit p5)
  have bt := litv hval m6.lit
  have e1 : lv v (orX ins l a b) = !lv v (andX ins (orL l a b) (turn a) (turn b)) := by
    rw [or_mean hval hg la lb p1, and_mean hval m1.good la1.turn lb1.turn p2, lv_turn, lv_turn]
    cases lv v a <;> cases lv v b <;> rfl
  have e2 := (mux_mean hval m2.good la2 lb2 lc2 p3).trans (((mux_mean hval m3.good la3.turn lc3 lb3 p4).trans (by rw [lv_turn]; cases lv v a <;> cases lv v b <;> cases lv v c <;> rfl)).symm)
  have e3 := (xor_mean hval m4.good la4 lb4 p5).trans (congrArg not ((xor_mean hval m5.good la5.turn lb5 (Pre.refl _)).trans (by rw [lv_turn]; cases lv v a <;> cases lv v b <;> rfl) : _ = !(lv v a != lv v b)) |>.trans (by simp)).symm
  have vl := hval.len
  have nv : v.length < 1000000 := by omega
  have hw : (v.length : Int) = wrap64 (wrap64 (1 + ins) + _) := (hwlTurn (by omega) (by omega) (by omega) vl)
  refine Ev.ite_pos (by trivial) ?_
  refine Ev.ite_pos hw ?_
  have hj := turn_j0 nv bx by_ bp bq bs bt e1 e2 e3
  clear e1 e2 e3
  generalize orX ins l a b = X at *
  generalize andX ins _ (turn a) (turn b) = Y at *
  generalize muxX ins _ a b c = P at *
  generalize muxX ins _ (turn a) c b = Q at *
  generalize xorX ins _ a b = S at *
  generalize xorX ins _ (turn a) b = T at *
  refine Ev.ite_neg (by rw [w64 (by omega) (by omega)]; simp only [mx]; omega) ?_
  have hm : decide (mn (mn (mn (mn (mn X Y) P) Q) S) T < 0) = false := decide_eq_false (by simp only [mn]; omega)
  simp only [hm]
  exact hj
end Go.Proofs.Ytlnjefcfbncegaa.Pure
