/- Slimmed by this session: what nothing names is struck out. -/
import Derived.Test.YtlnjefcfbncegaaXbSAigTells
import Derived.Test.YtlnjefcfbncegaaP13All
namespace Go.Proofs.Ytlnjefcfbncegaa.Pure
open Go.RowKit Go.Proofs.YtlnjefcfbncegaaW.PrintWords Go.Proofs.YtlnjefcfbncegaaW.PrintMore Go.Proofs.Ytlnjefcfbncegaa.PBits Go.Proofs.Ytlnjefcfbncegaa.PAig Go.Proofs.Ytlnjefcfbncegaa.PVal Go.Proofs.Ytlnjefcfbncegaa.PAig13 Go.Proofs.Ytlnjefcfbncegaa.Xb
theorem opOkE {x : S28} (h : B28 x) : OpOk x := ⟨lit_u8 h.1, lit_u16 h.2.1, lit_u16 h.2.2.1, lit_u16 h.2.2.2⟩
theorem lit_i64 {x : Int} (h : (Lit.int .i64 x).wf = true) : -9223372036854775808 ≤ x ∧ x ≤ 9223372036854775807 := by
  have h1 : IntKind.i64.min = -9223372036854775808 := by decide
  have h2 : IntKind.i64.max = 9223372036854775807 := by decide
  simp [Lit.wf] at h
  omega
theorem plain_some (x y : Int) : ∃ v t, aig_plain.f x y = some (v, t) ∧ (x = y → t = true) := by
  unfold aig_plain.f
  by_cases c0 : x = 0
  · rw [if_pos c0]
    exact ⟨_, _, rfl, fun _ => rfl⟩
  rw [if_neg c0]
  by_cases c1 : Go.bits .xor .i64 x 1 = y
  · rw [if_pos c1]
    exact ⟨_, _, rfl, fun _ => rfl⟩
  rw [if_neg c1]
  by_cases c2 : x = 1
  · rw [if_pos c2]
    exact ⟨_, _, rfl, fun _ => rfl⟩
  rw [if_neg c2]
  by_cases c3 : x = y
  · rw [if_pos c3]
    exact ⟨_, _, rfl, fun _ => rfl⟩
  · rw [if_neg c3]
    exact ⟨_, _, rfl, fun h => absurd h c3⟩
theorem plain_g {x y : Int} (h0 : 2 ≤ x) (h1 : x < y) (h2 : y ≤ 9223372036854775807) : ∃ v, aig_plain.f x y = some (v, decide (x / 2 = y / 2)) := by
  unfold aig_plain.f
  rw [xor_one x (by omega) (by omega), if_neg (by omega)]
  by_cases c1 : turn x = y
  · have : x / 2 = y / 2 := by rw [← c1]; exact (turn_div x).symm
    rw [if_pos c1, decide_eq_true this]
    exact ⟨_, rfl⟩
  · have : ¬ (x / 2 = y / 2) := by
      intro h
      refine c1 ?_
      unfold turn
      split <;> omega
    rw [if_neg c1, if_neg (by omega), if_neg (by omega), decide_eq_false this]
    exact ⟨_, rfl⟩
theorem mn_eq {a b : Int} (h : ¬ a < b) (e : mn a b = a) : mn a b = mx a b := by
  by_cases c : a = b
  · subst c
    unfold mn mx
    simp
  · unfold mn at e
    rw [if_pos (by omega)] at e
    omega
theorem findm_ev (ins a b : Int) (l : List A2) (m : Nat) (hl : l.length < 1000000) (hm : m ≤ l.length) : ∀ (d : Nat) (i : Nat), m - i = d → i ≤ m →
    Ev (fun k => proofmarkref13_find.l0 k a b (m : Int) (i : Int) ins l) (idx a b ((l.take m).drop i) i) := by
  intro d
  induction d with
  | zero =>
    intro i hd hi
    refine Ev.step (fun k => by simp only [proofmarkref13_find.l0]; rw [if_neg (by omega)]) ?_
    rw [List.drop_eq_nil_of_le (by rw [List.length_take]; omega)]
    exact Ev.now _
  | succ d ih =>
    intro i hd hi
    have hlt : i < l.length := by omega
    have hlt2 : i < (l.take m).length := by rw [List.length_take]; omega
    have hx : rd_T50 l (i : Int) = l[i] := by
      unfold rd_T50
      rw [Int.toNat_natCast, List.getD_eq_getElem?_getD, List.getElem?_eq_getElem hlt]
      rfl
    have hs : wrap64 ((i : Int) + 1) = ((i + 1 : Nat) : Int) := by rw [w64 (by omega) (by omega)]; push_cast; rfl
    refine Ev.step (fun k => by simp only [proofmarkref13_find.l0]; rw [if_pos (by omega), if_pos (by omega), if_pos (by omega), hx, hs]) ?_
    rw [List.drop_eq_getElem_cons hlt2, List.getElem_take]
    unfold idx
    by_cases h0 : l[i].f0 = a
    · refine Ev.ite_pos h0 ?_
      by_cases h1 : l[i].f1 = b
      · rw [if_pos ⟨h0, h1⟩]
        exact Ev.ite_pos h1 (Ev.now _)
      · rw [if_neg (fun h => h1 h.2)]
        exact Ev.ite_neg h1 (ih (i + 1) (by omega) (by omega))
    · rw [if_neg (fun h => h0 h.1)]
      exact Ev.ite_neg h0 (ih (i + 1) (by omega) (by omega))
theorem inn_idx (l : List A2) (i : Nat) (h : i < l.length) : ∃ z, idx l[i].f0 l[i].f1 ((l.take i).drop 0) (0 : Nat) = z ∧ (aig_Right.inn l (i : Int) = true ↔ z ≥ 0) := by
  have hx : rd_T50 l (i : Int) = l[i] := by
    unfold rd_T50
    rw [Int.toNat_natCast, List.getD_eq_getElem?_getD, List.getElem?_eq_getElem h]
    rfl
  refine ⟨_, rfl, ?_⟩
  rw [List.drop_zero]
  unfold aig_Right.inn
  rw [Int.toNat_natCast, hx, List.any_eq_true]
  rcases idx_spec l[i].f0 l[i].f1 (l.take i) ((0 : Nat) : Int) (by omega) with ⟨e, hn⟩ | ⟨j, e, hj⟩
  · rw [e]
    constructor
    · rintro ⟨y, hy, he⟩
      rw [Bool.and_eq_true, beq_iff_eq, beq_iff_eq] at he
      exact absurd he (hn y hy)
    · intro hz
      omega
  · rw [e]
    constructor
    · intro _
      omega
    · intro _
      exact ⟨_, List.mem_of_getElem? hj, by rw [Bool.and_eq_true, beq_iff_eq, beq_iff_eq]; exact ⟨rfl, rfl⟩⟩
theorem rloop (ins : Int) (l : List A2) (hi0 : 0 ≤ ins) (hi1 : ins ≤ 1048576) (hl : l.length ≤ 100) (hw : ∀ x ∈ l, (-9223372036854775808 ≤ x.f0 ∧ x.f0 ≤ 9223372036854775807) ∧ (-9223372036854775808 ≤ x.f1 ∧ x.f1 ≤ 9223372036854775807)) :
    ∀ d (i : Nat) (u v : Int), l.length - i = d → i ≤ l.length → ∃ b, Ev (fun k => aig_Right.l0 k l (l.length : Int) (i : Int) ins l u v) b ∧ Ev (fun k => proofmarkref13_Right.l0 k (i : Int) ins l) b := by
  intro d
  induction d with
  | zero =>
    intro i u v hd hi
    have z : ¬ ((i : Int) < (l.length : Int)) := by omega
    exact ⟨true, Ev.step (fun k => by simp only [aig_Right.l0]; rw [if_neg z]) (Ev.now _), Ev.step (fun k => by simp only [proofmarkref13_Right.l0]; rw [if_neg z]) (Ev.now _)⟩
  | succ d ih =>
    intro i u v hd hi
    have hlt : i < l.length := by omega
    have z : (i : Int) < (l.length : Int) := by omega
    have z0 : (0 : Int) ≤ (i : Int) := by omega
    have hx : rd_T50 l (i : Int) = l[i] := by
      unfold rd_T50
      rw [Int.toNat_natCast, List.getD_eq_getElem?_getD, List.getElem?_eq_getElem hlt]
      rfl
    obtain ⟨⟨wa0, wa1⟩, wb0, wb1⟩ := hw l[i] (List.getElem_mem hlt)
    obtain ⟨zi, hzi, hinn⟩ := inn_idx l i hlt
    have hfind := findm_ev ins l[i].f0 l[i].f1 l i (by omega) (by omega) i 0 (by omega) (by omega)
    rw [hzi] at hfind
    obtain ⟨bn, hn1, hn2⟩ := ih (i + 1) l[i].f0 l[i].f1 (by omega) (by omega)
    have hs := succ64 (i := i) (by omega)
    have ew : wrap64 (ins + (i : Int)) = ins + i := w64 (by omega) (by omega)
    have fin : ∀ {g : Nat → Option Bool}, (∀ k, g (k + 1) = some false) → Ev g false := fun h => Ev.step (f := fun _ => some false) h (Ev.now _)
    by_cases ca : l[i].f0 < 2 ∨ l[i].f1 ≤ l[i].f0
    · refine ⟨false, fin fun k => ?_, fin fun k => ?_⟩
      · obtain ⟨pv, pt, hp, hpt⟩ := plain_some (mn l[i].f0 l[i].f1) (mx l[i].f0 l[i].f1)
        simp only [aig_Right.l0, aig_of.f]
        rw [if_pos z, if_pos z0, if_pos z, hx, Option.bind_some, hp, Option.bind_some]
        by_cases ct : pt = true
        · rw [if_pos ct]
        rw [if_neg ct]
        by_cases cs : l[i].f0 < l[i].f1
        · have em : mn l[i].f0 l[i].f1 = l[i].f0 := by unfold mn; split <;> omega
          have ex : mx l[i].f0 l[i].f1 = l[i].f1 := by unfold mx; split <;> omega
          rw [em, ex, beq_self_eq_true, beq_self_eq_true, if_neg (by decide), if_pos (by omega)]
        · have ne : ¬ (mn l[i].f0 l[i].f1 = l[i].f0) := by
            intro e
            exact ct (hpt (mn_eq cs e))
          rw [if_pos (by rw [beq_eq_false_iff_ne.2 ne]; rfl)]
      · simp only [proofmarkref13_Right.l0]
        rw [if_pos z, if_pos z0, hx]
        by_cases c1 : l[i].f0 < 2
        · rw [if_pos c1]
        · rw [if_neg c1, if_pos (by omega)]
    · have c1 : ¬ l[i].f0 < 2 := fun h => ca (.inl h)
      have c2 : ¬ l[i].f1 ≤ l[i].f0 := fun h => ca (.inr h)
      have em : mn l[i].f0 l[i].f1 = l[i].f0 := by unfold mn; split <;> omega
      have ex : mx l[i].f0 l[i].f1 = l[i].f1 := by unfold mx; split <;> omega
      obtain ⟨pv, hp⟩ := plain_g (x := l[i].f0) (y := l[i].f1) (by omega) (by omega) wb1
      have d1 : wrap64 (Int.tdiv l[i].f1 2) = l[i].f1 / 2 := by rw [tdiv2 (by omega), w64 (by omega) (by omega)]
      have d0 : wrap64 (Int.tdiv l[i].f0 2) = l[i].f0 / 2 := by rw [tdiv2 (by omega), w64 (by omega) (by omega)]
      have z3 : ¬ ((!(l[i].f0 == l[i].f0) || !(l[i].f1 == l[i].f1)) = true) := by rw [beq_self_eq_true, beq_self_eq_true]; decide
      by_cases c3 : l[i].f0 / 2 = l[i].f1 / 2
      · refine ⟨false, fin fun k => ?_, fin fun k => ?_⟩
        · simp only [aig_Right.l0, aig_of.f]
          rw [if_pos z, if_pos z0, if_pos z, hx, em, ex, Option.bind_some, hp, Option.bind_some, if_pos (by simpa using c3)]
        · simp only [proofmarkref13_Right.l0]
          rw [if_pos z, if_pos z0, hx, if_neg c1, if_neg c2, d0, d1, ew]
          by_cases c4 : l[i].f1 / 2 > ins + (i : Int)
          · rw [if_pos c4]
          · rw [if_neg c4, if_pos c3]
      by_cases c4 : l[i].f1 / 2 > ins + (i : Int)
      · refine ⟨false, fin fun k => ?_, fin fun k => ?_⟩
        · simp only [aig_Right.l0, aig_of.f]
          rw [if_pos z, if_pos z0, if_pos z, hx, em, ex, Option.bind_some, hp, Option.bind_some, if_neg (by simpa using c3), if_neg z3, if_neg c1, ew, if_pos c4]
        · simp only [proofmarkref13_Right.l0]
          rw [if_pos z, if_pos z0, hx, if_neg c1, if_neg c2, d0, d1, ew, if_pos c4]
      by_cases c5 : zi ≥ 0
      · refine ⟨false, fin fun k => ?_, ?_⟩
        · simp only [aig_Right.l0, aig_of.f]
          rw [if_pos z, if_pos z0, if_pos z, hx, em, ex, Option.bind_some, hp, Option.bind_some, if_neg (by simpa using c3), if_neg z3, if_neg c1, ew, if_neg c4, if_pos (hinn.2 c5)]
        · refine Ev.step (fun k => ?_) (Ev.bind (f := fun k t => if t ≥ 0 then some false else proofmarkref13_Right.l0 k (wrap64 ((i : Int) + 1)) ins l) hfind (Ev.ite_pos c5 (Ev.now _)))
          simp only [proofmarkref13_Right.l0, proofmarkref13_find.f]
          rw [if_pos z, if_pos z0, hx, if_neg c1, if_neg c2, d0, d1, ew, if_neg c4, if_neg c3]
          rfl
      · refine ⟨bn, Ev.step (fun k => ?_) hn1, ?_⟩
        · simp only [aig_Right.l0, aig_of.f]
          rw [if_pos z, if_pos z0, if_pos z, hx, em, ex, Option.bind_some, hp, Option.bind_some, if_neg (by simpa using c3), if_neg z3, if_neg c1, ew, if_neg c4, if_neg (fun h => c5 (hinn.1 h)), hs]
        · refine Ev.step (fun k => ?_) (Ev.bind (f := fun k t => if t ≥ 0 then some false else proofmarkref13_Right.l0 k (wrap64 ((i : Int) + 1)) ins l) hfind (Ev.ite_neg c5 (by rw [hs]; exact hn2)))
          simp only [proofmarkref13_Right.l0, proofmarkref13_find.f]
          rw [if_pos z, if_pos z0, hx, if_neg c1, if_neg c2, d0, d1, ew, if_neg c4, if_neg c3]
          rfl
theorem rr_ev (ins : Int) (l : List A2) (hi : -9223372036854775808 ≤ ins ∧ ins ≤ 9223372036854775807) (hl : l.length ≤ 100) (hw : ∀ x ∈ l, (Lit.int .i64 x.f0).wf = true ∧ (Lit.int .i64 x.f1).wf = true) :
    ∃ b, Ev (fun k => aig_Right.f k ins l) b ∧ Ev (fun k => proofmarkref13_Right.f k ins l) b := by
  have hfit : aig_Right.fits l = true := by
    unfold aig_Right.fits
    rw [Bool.and_eq_true, decide_eq_true_iff, List.all_eq_true]
    refine ⟨by omega, fun x hx => ?_⟩
    rw [(hw x hx).1, (hw x hx).2]
    rfl
  have fin : ∀ {g : Nat → Option Bool}, (∀ k, g (k + 1) = some false) → Ev g false := fun h => Ev.step (f := fun _ => some false) h (Ev.now _)
  have fa : Ev (fun k => aig_Right.j0 k true ins l) false := fin fun k => by simp only [aig_Right.j0]; rw [if_pos trivial]
  have fr : Ev (fun k => proofmarkref13_Right.j0 k true ins l) false := fin fun k => by simp only [proofmarkref13_Right.j0]; rw [if_pos trivial]
  have z100 : ¬ (l.length : Int) > 1048576 := by omega
  unfold aig_Right.f proofmarkref13_Right.f
  simp only [if_pos hfit]
  by_cases c1 : ins < 0
  · exact ⟨false, Ev.ite_pos c1 fa, Ev.ite_pos c1 fr⟩
  by_cases c2 : ins > 1048576
  · exact ⟨false, Ev.ite_neg c1 (Ev.ite_pos c2 fa), Ev.ite_neg c1 (Ev.ite_pos c2 fr)⟩
  have ew : wrap64 (1048576 - ins) = 1048576 - ins := w64 (by omega) (by omega)
  have ew2 : wrap64 (ins + (l.length : Int)) = ins + (l.length : Int) := w64 (by omega) (by omega)
  by_cases c3 : (l.length : Int) > 1048576 - ins
  · refine ⟨false, Ev.ite_neg c1 (Ev.ite_neg c2 ?_), Ev.ite_neg c1 (Ev.ite_neg c2 (Ev.ite_neg z100 ?_))⟩
    · rw [ew, decide_eq_true c3]
      exact fa
    · rw [ew2, decide_eq_true (by omega)]
      exact fr
  · obtain ⟨b, h1, h2⟩ := rloop ins l (by omega) (by omega) hl (fun x hx => ⟨lit_i64 (hw x hx).1, lit_i64 (hw x hx).2⟩) _ 0 0 0 rfl (by omega)
    refine ⟨b, Ev.ite_neg c1 (Ev.ite_neg c2 ?_), Ev.ite_neg c1 (Ev.ite_neg c2 (Ev.ite_neg z100 ?_))⟩
    · rw [ew, decide_eq_false c3]
      exact Ev.step (fun k => by simp only [aig_Right.j0]; rw [if_neg (by decide)]; rfl) h1
    · rw [ew2, decide_eq_false (by omega)]
      exact Ev.step (fun k => by simp only [proofmarkref13_Right.j0]; rw [if_neg (by decide)]; rfl) h2
theorem rlit_f {v : List Bool} {a : Int} (h0 : 0 ≤ a) (h1 : a < 2 * v.length) (h2 : v.length < 1000000000) : proofmarkref13_Lit.f v a = some (lv v a) := by
  unfold proofmarkref13_Lit.f lv
  rw [tdiv2 h0, tmodn h0, w64 (by omega) (by omega), if_pos (by omega), if_pos (by omega)]
  rfl
theorem eval2_ev {ins : Int} {l : List A2} {inp : List Bool} (h : GoodA ins l) (hl : l.length ≤ 1000) (hi : (inp.length : Int) = ins) : ∃ w, Ev (fun k => aig_Eval.f k ins l inp) w ∧ Ev (fun k => proofmarkref13_Eval.f k ins l inp) w ∧ Val ins l w l.length := by
  have i0 := h.ins0
  have i1 := h.ins1
  have loop : ∀ d (i : Nat) (v : List Bool), l.length - i = d → i ≤ l.length → Val ins l v i → ∃ w, Ev (fun k => aig_Eval.l0 k v l (l.length : Int) (i : Int)) w ∧ Ev (fun k => proofmarkref13_Eval.l0 k v (i : Int) ins l) w ∧ Val ins l w l.length := by
    intro d
    induction d with
    | zero =>
      intro i v hd hi hv
      obtain rfl : i = l.length := by omega
      have z : ¬ ((l.length : Int) < (l.length : Int)) := by omega
      exact ⟨v, Ev.step (fun k => by simp only [aig_Eval.l0]; rw [if_neg z]) (Ev.now _), Ev.step (fun k => by simp only [proofmarkref13_Eval.l0]; rw [if_neg z]) (Ev.now _), hv⟩
    | succ d ih =>
      intro i v hd hi hv
      have hlt : i < l.length := by omega
      have hx : l[i]? = some l[i] := List.getElem?_eq_getElem hlt
      have e : rd_T50 l (i : Int) = l[i] := by unfold rd_T50; rw [Int.toNat_natCast, List.getD_eq_getElem?_getD, hx]; rfl
      obtain ⟨a0, a1, a2, _⟩ := h.in_ i _ hx
      have vl := hv.len
      have z : (i : Int) < (l.length : Int) := by omega
      have z2 : v.length < 140737488355328 := by omega
      have z3 : (0 : Int) ≤ (i : Int) := by omega
      have f0 := lit_f (v := v) (a := l[i].f0) (by omega) (by omega) (by omega)
      have f1 := lit_f (v := v) (a := l[i].f1) (by omega) (by omega) (by omega)
      have r0 := rlit_f (v := v) (a := l[i].f0) (by omega) (by omega) (by omega)
      have r1 := rlit_f (v := v) (a := l[i].f1) (by omega) (by omega) (by omega)
      have nv : Val ins l (v ++ [lv v l[i].f0 && lv v l[i].f1]) (i + 1) := by
        refine ⟨by rw [List.length_append, List.length_singleton]; omega, ?_, ?_⟩
        · rw [getD_left (by omega)]
          exact hv.zero
        · intro j x hj hjx
          by_cases c : j = i
          · subst c
            rw [hx] at hjx
            have hjx := Option.some.inj hjx
            subst hjx
            have q : (1 + ins + (j : Int)).toNat = v.length + 0 := by omega
            rw [q, getD_right, lv_left (by omega) (by omega), lv_left (by omega) (by omega)]
            rfl
          · obtain ⟨b0, b1, b2, _⟩ := h.in_ j _ hjx
            rw [getD_left (by omega), lv_left (by omega) (by omega), lv_left (by omega) (by omega)]
            exact hv.ands j x (by omega) hjx
      obtain ⟨w, hw, hw2, hr⟩ := ih (i + 1) _ (by omega) (by omega) nv
      refine ⟨w, Ev.step (fun k => ?_) hw, Ev.step (fun k => ?_) hw2, hr⟩
      · simp only [aig_Eval.l0]
        rw [if_pos z, if_pos z3, if_pos z, e, f0, f1]
        simp only [Option.bind_some]
        rw [if_pos z2, succ64 (by omega)]
        cases lv v l[i].f0
        · rw [if_neg (by decide), if_pos z2]
          rfl
        · rw [if_pos rfl]
          rfl
      · simp only [proofmarkref13_Eval.l0]
        rw [if_pos z, if_pos z3, e, r0, r1]
        simp only [Option.bind_some]
        rw [if_pos z2, succ64 (by omega)]
        cases lv v l[i].f0
        · rw [if_neg (by decide), if_pos z2]
          rfl
        · rw [if_pos rfl]
          rfl
  have z : ins = (inp.length : Int) ∧ inp.length + l.length < 1099511627776 := by omega
  have z4 : ([false] : List Bool).length + inp.length < 140737488355328 := by show 1 + inp.length < _; omega
  obtain ⟨w, h1, h2, h3⟩ := loop _ 0 (false :: inp) rfl (by omega) ⟨by rw [List.length_cons]; omega, rfl, fun i x hi => by omega⟩
  refine ⟨w, ?_, ?_, h3⟩
  · unfold aig_Eval.f
    simp only [if_pos z]
    exact h1
  · unfold proofmarkref13_Eval.f
    simp only [Option.bind_some, if_pos z4]
    exact h2
theorem AigTells : proofmarklaw13_AigTells.Pure := by
  intro x0 x1 x2 x3 x4 w0 w1 w2 w3 _w4
  have b0 := lit_u8 w1
  have ok := opOkE w3
  have hins := lit_i64 w0.1
  refine Ev.rounds (r := true) ?_
  unfold proofmarklaw13_AigTells.f
  refine Ev.bind (f := fun k t => _) head13 ?_
  rw [great_f]
  simp only [Option.bind_some]
  by_cases hl : (x2.length : Int) > 120
  · simp only [decide_eq_true hl, if_true]
    refine Ev.step (f := fun _ => some true) (fun k => ?_) (Ev.now _)
    simp only [proofmarklaw13_AigTells.j0, great_f, Option.bind_some, decide_eq_true hl, if_true]
  simp only [decide_eq_false hl, Bool.false_eq_true, if_false]
  by_cases hr : (x0.f1.length : Int) > 100
  · refine Ev.ite_pos hr ?_
    refine Ev.step (f := fun _ => some true) (fun k => ?_) (Ev.now _)
    simp only [proofmarklaw13_AigTells.j0, great_f, Option.bind_some, decide_eq_false hl, Bool.false_eq_true, if_false, if_true, decide_eq_true hr]
  refine Ev.ite_neg hr ?_
  obtain ⟨rb, hra, hrr⟩ := rr_ev x0.f0 x0.f1 hins (by omega) w0.2.2
  refine Ev.bind (f := fun k t => _) hra ?_
  refine Ev.bind (f := fun k t => _) hrr ?_
  rw [bne_self_eq_false]
  refine Ev.step (f := fun k => _) (fun k => by simp only [proofmarklaw13_AigTells.j0]; rw [if_neg (by decide)]) ?_
  obtain ⟨ins, l, lits, hev, hg, hn⟩ := made_ev x1 x2 b0.1 b0.2 (fun x hx => opOkE (w2.2 x hx)) (by omega)
  refine Ev.bind (f := fun k bt => _) hev ?_
  have i0 := hg.ins0
  have i1 := hg.ins1
  have hf : Few ins l := ⟨i0, by omega, by omega⟩
  obtain ⟨ea, la⟩ := literal_f hf ok.2.1.1 ok.2.1.2
  obtain ⟨eb, lb⟩ := literal_f hf ok.2.2.1.1 ok.2.2.1.2
  obtain ⟨ec, lc⟩ := literal_f hf ok.2.2.2.1 ok.2.2.2.2
  refine Ev.bindc (f := fun k t => _) ea ?_
  refine Ev.bindc (f := fun k t => _) eb ?_
  refine Ev.bindc (f := fun k t => _) ec ?_
  clear ea eb ec
  generalize x3.f1 % (2 * (ins + (l.length : Int) + 1)) = a at la ⊢
  generalize x3.f2 % (2 * (ins + (l.length : Int) + 1)) = b at lb ⊢
  generalize x3.f3 % (2 * (ins + (l.length : Int) + 1)) = c at lc ⊢
  have n1 := (and_good hg la lb).2.1
  have n2 := (or_good hg la lb).2.1
  have n3 := (xor_good hg la lb).2.1
  have n4 := (mux_good hg la lb lc).2.1
  obtain ⟨t1, e1, k1⟩ := n1
  obtain ⟨t2, e2, k2⟩ := n2
  obtain ⟨t3, e3, k3⟩ := n3
  obtain ⟨t4, e4, k4⟩ := n4
  have s1 := gsame_ev ins (andL l a b) (by rw [e1, List.length_append]; omega)
  have s2 := gsame_ev ins (orL l a b) (by rw [e2, List.length_append]; omega)
  have s3 := gsame_ev ins (xorL ins l a b) (by rw [e3, List.length_append]; omega)
  have s4 := gsame_ev ins (muxL ins l a b c) (by rw [e4, List.length_append]; omega)
  refine Ev.bind (f := fun k t => _) (aand_ev hf la lb) ?_
  refine Ev.bind (f := fun k t => _) (and_ev' hf la lb) ?_
  refine Ev.bind (f := fun k t => _) s1 ?_
  refine Ev.ite_pos (by trivial) ?_
  rw [bne_self_eq_false]
  refine Ev.step (f := fun k => _) (fun k => by simp only [proofmarklaw13_AigTells.j1]; rw [if_neg (by decide)]) ?_
  have v2 := aor_ev hg hf (by omega) la lb
  have u2 := or_ev hg hf (by omega) la lb
  refine Ev.bind (f := fun k t => _) v2 ?_
  refine Ev.bind (f := fun k t => _) u2 ?_
  refine Ev.bind (f := fun k t => _) s2 ?_
  refine Ev.ite_pos (by trivial) ?_
  rw [bne_self_eq_false]
  refine Ev.step (f := fun k => _) (fun k => by simp only [proofmarklaw13_AigTells.j2]; rw [if_neg (by decide)]) ?_
  have v3 := axor_ev hg hf (by omega) la lb
  have u3 := xor_ev hg hf (by omega) la lb
  refine Ev.bind (f := fun k t => _) v3 ?_
  refine Ev.bind (f := fun k t => _) u3 ?_
  refine Ev.bind (f := fun k t => _) s3 ?_
  refine Ev.ite_pos (by trivial) ?_
  rw [bne_self_eq_false]
  refine Ev.step (f := fun k => _) (fun k => by simp only [proofmarklaw13_AigTells.j3]; rw [if_neg (by decide)]) ?_
  have v4 := amux_ev hg hf (by omega) la lb lc
  have u4 := mux_ev hg hf (by omega) la lb lc
  refine Ev.bind (f := fun k t => _) v4 ?_
  refine Ev.bind (f := fun k t => _) u4 ?_
  obtain ⟨bv, hbv, hbl⟩ := bits_ev ins l x4 i0 i1
  obtain ⟨v, hva, hvr, hval⟩ := eval2_ev hg (by omega) hbl
  have vl := hval.len
  have hla := la.2
  have la0 := la.1
  have sv := bsame_ev v (by omega)
  have f1 := lit_f (v := v) (a := a) la0 (by omega) (by omega)
  have f2 := rlit_f (v := v) (a := a) la0 (by omega) (by omega)
  have s5 := gsame_ev (wrap64 x1) [] (by simp)
  refine Ev.bind (f := fun k t => _) hbv ?_
  refine Ev.bind (f := fun k t => _) hva ?_
  refine Ev.bind (f := fun k t => _) hbv ?_
  refine Ev.bind (f := fun k t => _) hvr ?_
  refine Ev.ite_pos (by trivial) ?_
  refine Ev.bind (f := fun k t => _) s4 ?_
  refine Ev.ite_pos (by trivial) ?_
  refine Ev.ite_pos (by trivial) ?_
  refine Ev.bind (f := fun k t => _) sv ?_
  refine Ev.ite_pos (by trivial) ?_
  refine Ev.bindc (f := fun k t => _) f1 ?_
  refine Ev.bindc (f := fun k t => _) f2 ?_
  refine Ev.ite_pos (by rw [beq_self_eq_true]) ?_
  refine Ev.bindc (f := fun k t => _) (a := (wrap64 x1, [])) rfl ?_
  refine Ev.bindc (f := fun k t => _) (a := (wrap64 x1, [])) rfl ?_
  refine Ev.bind (f := fun k t => _) s5 ?_
  exact Ev.now _
end Go.Proofs.Ytlnjefcfbncegaa.Pure
