/- Slimmed by this session: what nothing names is struck out. -/
import Derived.Test.YtlnjefcfbncegaaXbSAigOdd
import Derived.Test.YtlnjefcfbncegaaP13All
namespace Go.Proofs.Ytlnjefcfbncegaa.Pure
open Go.RowKit Go.Proofs.YtlnjefcfbncegaaW.PrintWords Go.Proofs.YtlnjefcfbncegaaW.PrintMore Go.Proofs.Ytlnjefcfbncegaa.PBits Go.Proofs.Ytlnjefcfbncegaa.PAig Go.Proofs.Ytlnjefcfbncegaa.PVal Go.Proofs.Ytlnjefcfbncegaa.PAig13 Go.Proofs.Ytlnjefcfbncegaa.Xb
theorem opOkO {x : S28} (h : B28 x) : OpOk x := ⟨lit_u8 h.1, lit_u16 h.2.1, lit_u16 h.2.2.1, lit_u16 h.2.2.2⟩
theorem plain_any (x y : Int) : ∃ v t, aig_plain.f x y = some (v, t) ∧ (x = y → t = true) := by
  unfold aig_plain.f
  by_cases c0 : x = 0
  · rw [if_pos c0]
    exact ⟨_, _, rfl, fun _ => rfl⟩
  rw [if_neg c0]
  by_cases c1 : Go.bits .xor .i64 x 1 = y
  · rw [if_pos c1]
    exact ⟨_, _, rfl, fun _ => rfl⟩
  rw [if_neg c1]
  by_cases c2 : x = 1
  · rw [if_pos c2]
    exact ⟨_, _, rfl, fun _ => rfl⟩
  rw [if_neg c2]
  by_cases c3 : x = y
  · rw [if_pos c3]
    exact ⟨_, _, rfl, fun _ => rfl⟩
  · rw [if_neg c3]
    exact ⟨_, _, rfl, fun h => absurd h c3⟩
theorem mn_eqO {a b : Int} (h : ¬ a < b) (e : mn a b = a) : mn a b = mx a b := by
  by_cases c : a = b
  · subst c
    unfold mn mx
    simp
  · unfold mn at e
    rw [if_pos (by omega)] at e
    omega
def OkAt (ins : Int) (l : List A2) (i : Nat) : Prop := ∀ h : i < l.length, 2 ≤ l[i].f0 ∧ l[i].f0 < l[i].f1 ∧ l[i].f1 / 2 ≤ ins + i ∧ aig_Right.inn l (i : Int) = false
theorem oloop (ins : Int) (l : List A2) (hi0 : 0 ≤ ins) (hi1 : ins ≤ 1000) (hl : l.length ≤ 1000) (hw : ∀ x ∈ l, (0 ≤ x.f0 ∧ x.f0 < 1000000000) ∧ (0 ≤ x.f1 ∧ x.f1 < 1000000000)) :
    ∀ d (i : Nat) (u v : Int), l.length - i = d → i ≤ l.length → ∃ b, Ev (fun k => aig_Right.l0 k l (l.length : Int) (i : Int) ins l u v) b ∧ (b = true → ∀ j, i ≤ j → OkAt ins l j) := by
  intro d
  induction d with
  | zero =>
    intro i u v hd hi
    have z : ¬ ((i : Int) < (l.length : Int)) := by omega
    exact ⟨true, Ev.step (fun k => by simp only [aig_Right.l0]; rw [if_neg z]) (Ev.now _), fun _ j hj h => by omega⟩
  | succ d ih =>
    intro i u v hd hi
    have hlt : i < l.length := by omega
    have z : (i : Int) < (l.length : Int) := by omega
    have z0 : (0 : Int) ≤ (i : Int) := by omega
    have hx : rd_T50 l (i : Int) = l[i] := by
      unfold rd_T50
      rw [Int.toNat_natCast, List.getD_eq_getElem?_getD, List.getElem?_eq_getElem hlt]
      rfl
    obtain ⟨⟨wa0, wa1⟩, wb0, wb1⟩ := hw l[i] (List.getElem_mem hlt)
    obtain ⟨bn, hn1, hn2⟩ := ih (i + 1) l[i].f0 l[i].f1 (by omega) (by omega)
    have hs := succ64 (i := i) (by omega)
    have ew : wrap64 (ins + (i : Int)) = ins + i := w64 (by omega) (by omega)
    have fin : ∀ {g : Nat → Option Bool}, (∀ k, g (k + 1) = some false) → ∃ b, Ev g b ∧ (b = true → ∀ j, i ≤ j → OkAt ins l j) := fun h => ⟨false, Ev.step (f := fun _ => some false) h (Ev.now _), fun h => by cases h⟩
    obtain ⟨pv, pt, hp, hpt⟩ := plain_any (mn l[i].f0 l[i].f1) (mx l[i].f0 l[i].f1)
    by_cases ct : pt = true
    · refine fin fun k => ?_
      simp only [aig_Right.l0, aig_of.f]
      rw [if_pos z, if_pos z0, if_pos z, hx, Option.bind_some, hp, Option.bind_some, if_pos ct]
    by_cases cs : l[i].f0 < l[i].f1
    · have em : mn l[i].f0 l[i].f1 = l[i].f0 := by unfold mn; split <;> omega
      have ex : mx l[i].f0 l[i].f1 = l[i].f1 := by unfold mx; split <;> omega
      have z3 : ¬ ((!(l[i].f0 == l[i].f0) || !(l[i].f1 == l[i].f1)) = true) := by rw [beq_self_eq_true, beq_self_eq_true]; decide
      rw [em, ex] at hp
      by_cases c1 : l[i].f0 < 2
      · refine fin fun k => ?_
        simp only [aig_Right.l0, aig_of.f]
        rw [if_pos z, if_pos z0, if_pos z, hx, em, ex, Option.bind_some, hp, Option.bind_some, if_neg ct, if_neg z3, if_pos c1]
      by_cases c4 : l[i].f1 / 2 > ins + (i : Int)
      · refine fin fun k => ?_
        simp only [aig_Right.l0, aig_of.f]
        rw [if_pos z, if_pos z0, if_pos z, hx, em, ex, Option.bind_some, hp, Option.bind_some, if_neg ct, if_neg z3, if_neg c1, ew, if_pos c4]
      by_cases c5 : aig_Right.inn l (i : Int) = true
      · refine fin fun k => ?_
        simp only [aig_Right.l0, aig_of.f]
        rw [if_pos z, if_pos z0, if_pos z, hx, em, ex, Option.bind_some, hp, Option.bind_some, if_neg ct, if_neg z3, if_neg c1, ew, if_neg c4, if_pos c5]
      refine ⟨bn, Ev.step (fun k => ?_) hn1, fun hb j hj => ?_⟩
      · simp only [aig_Right.l0, aig_of.f]
        rw [if_pos z, if_pos z0, if_pos z, hx, em, ex, Option.bind_some, hp, Option.bind_some, if_neg ct, if_neg z3, if_neg c1, ew, if_neg c4, if_neg c5, hs]
      · by_cases hij : i = j
        · subst hij
          exact fun h => ⟨by omega, cs, by omega, by simpa using c5⟩
        · exact hn2 hb j (by omega)
    · refine fin fun k => ?_
      have ne : ¬ (mn l[i].f0 l[i].f1 = l[i].f0) := fun e => ct (hpt (mn_eqO cs e))
      simp only [aig_Right.l0, aig_of.f]
      rw [if_pos z, if_pos z0, if_pos z, hx, Option.bind_some, hp, Option.bind_some, if_neg ct, if_pos (by rw [beq_eq_false_iff_ne.2 ne]; rfl)]
theorem odd_ev {ins : Int} {l : List A2} (hi0 : 0 ≤ ins) (hi1 : ins ≤ 1000) (hl : l.length ≤ 1000) (hw : ∀ x ∈ l, (0 ≤ x.f0 ∧ x.f0 < 1000000000) ∧ (0 ≤ x.f1 ∧ x.f1 < 1000000000)) (hb : ∃ j, ¬ OkAt ins l j) : Ev (fun k => aig_Right.f k ins l) false := by
  have hfit : aig_Right.fits l = true := by
    unfold aig_Right.fits
    rw [Bool.and_eq_true, decide_eq_true_iff, List.all_eq_true]
    refine ⟨by omega, fun x hx => ?_⟩
    obtain ⟨⟨a0, a1⟩, b0, b1⟩ := hw x hx
    rw [wf64 a0 a1, wf64 b0 b1]
    rfl
  obtain ⟨b, h1, h2⟩ := oloop ins l hi0 hi1 hl hw _ 0 0 0 rfl (by omega)
  have hf : b = false := by
    cases b
    · rfl
    · obtain ⟨j, hj⟩ := hb
      exact absurd (h2 rfl j (by omega)) hj
  subst hf
  have z1 : ¬ ins < 0 := by omega
  have z2 : ¬ ins > 1048576 := by omega
  have ew : wrap64 (1048576 - ins) = 1048576 - ins := w64 (by omega) (by omega)
  have z3 : decide ((l.length : Int) > 1048576 - ins) = false := decide_eq_false (by omega)
  unfold aig_Right.f
  simp only [if_pos hfit, if_neg z1, if_neg z2, ew, z3]
  exact Ev.step (fun k => by simp only [aig_Right.j0]; rw [if_neg (by decide)]; rfl) h1
theorem set_small {l : List A2} {k : Nat} {y : A2} (h : ∀ x ∈ l, (0 ≤ x.f0 ∧ x.f0 < 1000000000) ∧ (0 ≤ x.f1 ∧ x.f1 < 1000000000)) (hy : (0 ≤ y.f0 ∧ y.f0 < 1000000000) ∧ (0 ≤ y.f1 ∧ y.f1 < 1000000000)) : ∀ x ∈ l.set k y, (0 ≤ x.f0 ∧ x.f0 < 1000000000) ∧ (0 ≤ x.f1 ∧ x.f1 < 1000000000) := by
  intro x hx
  rcases List.mem_or_eq_of_mem_set hx with hx | rfl
  · exact h x hx
  · exact hy
theorem AigOdd : proofmarklaw13_AigOdd.Pure := by
  intro x0 x1 x2 x3 w0 w1 w2 w3
  have b0 := lit_u8 w0
  have b2 := lit_u16 w2
  have b3 := lit_u8 w3
  refine Ev.rounds (r := true) ?_
  unfold proofmarklaw13_AigOdd.f
  refine Ev.bind (f := fun k t => _) head13 ?_
  rw [great_f]
  simp only [Option.bind_some]
  by_cases hl : (x1.length : Int) > 120
  · simp only [decide_eq_true hl, if_true]
    exact Ev.now _
  simp only [decide_eq_false hl, Bool.false_eq_true, if_false]
  obtain ⟨ins, l, lits, hev, hg, hn⟩ := made_ev x0 x1 b0.1 b0.2 (fun x hx => opOkO (w1.2 x hx)) (by omega)
  refine Ev.bind (f := fun k bt => _) hev ?_
  have i0 := hg.ins0
  have i1 := hg.ins1
  have hr := right_ev hg (by omega)
  by_cases h0 : (l.length : Int) = 0
  · refine Ev.ite_pos h0 ?_
    refine Ev.ite_pos (by trivial) ?_
    refine Ev.bind (f := fun k bt => _) hr ?_
    exact Ev.now _
  refine Ev.ite_neg h0 ?_
  have z : ([] : List A2).length + l.length < 8796093022208 := by rw [List.length_nil]; omega
  refine Ev.ite_pos z ?_
  simp only [List.nil_append]
  rw [w64 (n := x2) (by omega) (by omega), tmodn b2.1, tmodn b3.1]
  have hk0 := Int.emod_nonneg x2 h0
  have hk1 := Int.emod_lt_of_pos x2 (by omega : 0 < (l.length : Int))
  generalize x2 % (l.length : Int) = kk at hk0 hk1 ⊢
  obtain ⟨k, rfl⟩ := Int.eq_ofNat_of_zero_le hk0
  have hlt : k < l.length := by omega
  have hx : rd_T50 l (k : Int) = l[k] := by
    unfold rd_T50
    rw [Int.toNat_natCast, List.getD_eq_getElem?_getD, List.getElem?_eq_getElem hlt]
    rfl
  rw [hx, Int.toNat_natCast]
  obtain ⟨a0, a1, a2, a3⟩ := hg.in_ k _ (List.getElem?_eq_getElem hlt)
  have sm : ∀ x ∈ l, (0 ≤ x.f0 ∧ x.f0 < 1000000000) ∧ (0 ≤ x.f1 ∧ x.f1 < 1000000000) := by
    intro x hx
    obtain ⟨i, hi, rfl⟩ := List.mem_iff_getElem.1 hx
    obtain ⟨c0, c1, c2, _⟩ := hg.in_ i _ (List.getElem?_eq_getElem hi)
    exact ⟨⟨by omega, by omega⟩, by omega, by omega⟩
  have seti : ∀ y : A2, k < (l.set k y).length := fun y => by rw [List.length_set]; exact hlt
  have getk : ∀ y : A2, (l.set k y)[k]'(seti y) = y := fun y => List.getElem_set_self _
  have hl8 : l.length < 8796093022208 := by omega
  refine Ev.ite_pos hk0 ?_
  refine Ev.ite_pos hk1 ?_
  have h4 : x3 % 4 = 0 ∨ x3 % 4 = 1 ∨ x3 % 4 = 2 ∨ x3 % 4 = 3 := by omega
  generalize x3 % 4 = q at h4 ⊢
  rcases h4 with rfl | rfl | rfl | rfl
  · refine Ev.ite_pos (by trivial) ?_
    refine Ev.ite_pos hl8 ?_
    refine Ev.ite_pos (by trivial) ?_
    have ho : Ev (fun r => aig_Right.f r ins (l ++ [(⟨l[k].f0, l[k].f1⟩ : A2)])) false := by
      have hlen : (l ++ [(⟨l[k].f0, l[k].f1⟩ : A2)]).length = l.length + 1 := by rw [List.length_append, List.length_singleton]
      refine odd_ev i0 (by omega) (by omega) (fun x hx => ?_) ⟨l.length, fun h => ?_⟩
      · rcases List.mem_append.1 hx with hx | hx
        · exact sm x hx
        · rw [List.mem_singleton] at hx
          subst hx
          exact sm l[k] (List.getElem_mem hlt)
      · have h5 := (h (by omega)).2.2.2
        have e1 : rd_T50 (l ++ [(⟨l[k].f0, l[k].f1⟩ : A2)]) (l.length : Int) = ⟨l[k].f0, l[k].f1⟩ := by
          unfold rd_T50
          rw [Int.toNat_natCast, List.getD_eq_getElem?_getD, List.getElem?_append_right (Nat.le_refl _), Nat.sub_self]
          rfl
        unfold aig_Right.inn at h5
        rw [e1, Int.toNat_natCast, List.take_left' rfl, List.any_eq_false] at h5
        refine h5 l[k] (List.getElem_mem hlt) ?_
        rw [Bool.and_eq_true, beq_iff_eq, beq_iff_eq]
        exact ⟨rfl, rfl⟩
    refine Ev.bind (f := fun k bt => _) ho ?_
    refine Ev.ite_neg (by decide) ?_
    refine Ev.bind (f := fun k bt => _) hr ?_
    exact Ev.now _
  · refine Ev.ite_neg (by decide) ?_
    refine Ev.ite_pos (by trivial) ?_
    refine Ev.ite_pos hk1 ?_
    refine Ev.ite_pos (by trivial) ?_
    have ho : Ev (fun r => aig_Right.f r ins (l.set k ⟨l[k].f1, l[k].f0⟩)) false := by
      refine odd_ev i0 (by omega) (by rw [List.length_set]; omega) (set_small sm ⟨(sm l[k] (List.getElem_mem hlt)).2, (sm l[k] (List.getElem_mem hlt)).1⟩) ⟨k, fun h => ?_⟩
      have h5 := (h (seti _)).2.1
      rw [getk] at h5
      simp only at h5
      omega
    refine Ev.bind (f := fun k bt => _) ho ?_
    refine Ev.ite_neg (by decide) ?_
    refine Ev.bind (f := fun k bt => _) hr ?_
    exact Ev.now _
  · refine Ev.ite_neg (by decide) ?_
    refine Ev.ite_neg (by decide) ?_
    refine Ev.ite_pos (by trivial) ?_
    refine Ev.ite_pos hk1 ?_
    refine Ev.ite_pos (by trivial) ?_
    have ho : Ev (fun r => aig_Right.f r ins (l.set k ⟨l[k].f0, wrap64 (2 * wrap64 (wrap64 (ins + 1) + (k : Int)))⟩)) false := by
      rw [w64 (n := ins + 1) (by omega) (by omega), w64 (n := ins + 1 + (k : Int)) (by omega) (by omega), w64 (n := 2 * (ins + 1 + (k : Int))) (by omega) (by omega)]
      refine odd_ev i0 (by omega) (by rw [List.length_set]; omega) (set_small sm ⟨(sm l[k] (List.getElem_mem hlt)).1, by simp only; omega⟩) ⟨k, fun h => ?_⟩
      have h5 := (h (seti _)).2.2.1
      rw [getk] at h5
      simp only at h5
      omega
    refine Ev.bind (f := fun k bt => _) ho ?_
    refine Ev.ite_neg (by decide) ?_
    refine Ev.bind (f := fun k bt => _) hr ?_
    exact Ev.now _
  · refine Ev.ite_neg (by decide) ?_
    refine Ev.ite_neg (by decide) ?_
    refine Ev.ite_neg (by decide) ?_
    refine Ev.ite_pos (by trivial) ?_
    refine Ev.ite_pos hk1 ?_
    refine Ev.ite_pos (by trivial) ?_
    have ho : Ev (fun r => aig_Right.f r ins (l.set k ⟨1, l[k].f1⟩)) false := by
      refine odd_ev i0 (by omega) (by rw [List.length_set]; omega) (set_small sm ⟨by simp only; omega, (sm l[k] (List.getElem_mem hlt)).2⟩) ⟨k, fun h => ?_⟩
      have h5 := (h (seti _)).1
      rw [getk] at h5
      simp only at h5
      omega
    refine Ev.bind (f := fun k bt => _) ho ?_
    refine Ev.ite_neg (by decide) ?_
    refine Ev.bind (f := fun k bt => _) hr ?_
    exact Ev.now _
end Go.Proofs.Ytlnjefcfbncegaa.Pure
