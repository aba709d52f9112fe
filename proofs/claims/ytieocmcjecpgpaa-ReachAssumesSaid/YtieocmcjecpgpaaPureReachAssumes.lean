/- ReachAssumes, in plain Lean. -/
import Derived.Test.YtieocmcjecpgpaaPrM
import Derived.Test.YtieocmcjecpgpaaPrH
import Derived.Test.YtieocmcjecpgpaaAmY
namespace Go.Proofs.Ytieocmcjecpgpaa.Am
set_option linter.unusedVariables false
set_option linter.unusedSimpArgs false
section
variable {N : List Nd} {I : List Pn} {C : List Cl} {P P' : List Pw} {Q : List Pn} {n : Nat} {l : List (List Int × List Nat)}
theorem sameV2_f {a b : Int} {t : Tr} (ht : t.length ≤ 1000) (hr : ∀ k : Nat, k < t.length → (KLi_at t (k : Int)).length ≤ 1000) (hn : 1000 < n) : ref12_Same n a b t [] a b t [] = some (true, ()) := by
  unfold ref12_Same
  simp only [cond_dec]
  rw [if_pos trivial, if_pos trivial, sameRows_f ht hr hn, bindS]
  simp only [cond_true]
  rw [sameRows_f (x := []) (by simp) (fun k hk => by simp at hk) hn, bindS]
theorem few_in {M : List (List Int)} (nd : ∀ (a b : Nat) x y, M[a]? = some x → M[b]? = some y → x = y → a = b) (h : ∀ x ∈ M, ∃ (b : Nat) (e : List Int × List Nat), l[b]? = some e ∧ e.1 = x) : M.length ≤ l.length := by
  let f : List Int → Nat := fun x => open Classical in if h : ∃ (b : Nat) (e : List Int × List Nat), l[b]? = some e ∧ e.1 = x then Classical.choose h else 0
  have hf : ∀ x ∈ M, ∃ e : List Int × List Nat, l[f x]? = some e ∧ e.1 = x := fun x hx => by
    have h := h x hx
    simp only [f, dif_pos h]
    exact Classical.choose_spec h
  refine few_of (f := f) (fun a b x y ha hb e => nd a b x y ha hb ?_) fun x hx => ?_
  · obtain ⟨e1, q1, q2⟩ := hf x (List.mem_of_getElem? ha)
    obtain ⟨e2, q3, q4⟩ := hf y (List.mem_of_getElem? hb)
    rw [e, q3] at q1
    cases q1
    rw [← q2, ← q4]
  · obtain ⟨e, q1, -⟩ := hf x hx
    exact (List.getElem?_eq_some_iff.1 q1).1
theorem pa_old {z : Pw} {j : Nat} (h : j < P.length) : Kisi_at (P ++ [z]) (j : Int) = Kisi_at P (j : Int) := at_appl (t := Kisi_) h
theorem pa_new {z : Pw} : Kisi_at (P ++ [z]) (P.length : Int) = z := by
  rw [show Kisi_at (P ++ [z]) (P.length : Int) = _ from at_appr (t := Kisi_) (Nat.le_refl _), Nat.sub_self]
  rfl
theorem pa_right (r : RightP N I C P Q) (hp : P.length < 16) {z : Pw} (hz : PropP N z) : RightP N I C (P ++ [z]) Q := right_props r (by simp; omega) fun j hj => by
  simp only [List.length_append, List.length_cons, List.length_nil] at hj
  by_cases c : j = P.length
  · rw [c, pa_new]; exact hz
  · rw [pa_old (by omega)]; exact r.prop j (by omega)
theorem pa_bad {z : Pw} {q : Nat} (hq : q < P.length) : badP (P ++ [z]) (q : Int) = badP P (q : Int) := by
  unfold badP
  rw [if_neg (by omega), if_neg (by simp; omega), if_neg (by omega), if_neg (by omega), pa_old hq]
theorem pa_legal {z : Pw} {v : List Int} (h : legalB (P ++ [z]) v = true) : legalB P v = true := legalB_iff.2 fun j hj h9 => by
  have := legalB_iff.1 h j (by simp; omega)
  rw [pa_old hj] at this
  exact this h9
theorem pa_hit {z : Pw} {v : List Int} {q : Nat} (hq : q < P.length) : hitB (P ++ [z]) q v = hitB P q v := by
  unfold hitB
  rw [pa_old hq]
theorem pa_run (r : RightP N I C P Q) {z : Pw} {p p' : Int} {t : List Nat} {u : List Int} (h : run (sysN N I C (P ++ [z]) p) (firstV C) t = some u) : run (sysN N I C P p') (firstV C) t = some u :=
  (run_sub (S := sysN N I C P p') (S' := sysN N I C (P ++ [z]) p) (Pd := FitC N C) rfl (fun s k hs hk => ⟨fun h => pa_legal (z := z) h, rfl, fit_after r (nums_evalV r (fit_row r k) hs)⟩) t _ u (fit_first r) h).1
/-- What is told with one more assumption. -/
theorem pa_cmp (r : RightP N I C P Q) {z : Pw} (r' : RightP N I C (P ++ [z]) Q) (sm : Sm N I C) {q : Nat} (hq : q < P.length) :
    ((tellR N I (resN N I C (P ++ [z]) (q : Int))).1 = 1 → (tellR N I (resN N I C P (q : Int))).1 = 1 ∧ (tellR N I (resN N I C P (q : Int))).2.1 ≤ (tellR N I (resN N I C (P ++ [z]) (q : Int))).2.1) ∧ ((tellR N I (resN N I C P (q : Int))).1 = 2 → (tellR N I (resN N I C (P ++ [z]) (q : Int))).1 = 2) := by
  obtain ⟨-, f1⟩ := res_f (p := (q : Int)) r sm
  obtain ⟨-, f2⟩ := res_f (p := (q : Int)) r' sm
  generalize resN N I C P (q : Int) = x at *
  generalize resN N I C (P ++ [z]) (q : Int) = y at *
  obtain ⟨x1, lx⟩ := x
  obtain ⟨y1, ly⟩ := y
  cases y1 with
  | none => exact ⟨fun h => by simp [tellR] at h, fun _ => rfl⟩
  | some ik =>
    obtain ⟨i, k⟩ := ik
    obtain ⟨hy, hk, e, he, hL, hH⟩ := f2
    have hr := pa_run (p' := (q : Int)) r (hy.path i e he)
    have hL2 : (sysN N I C P (q : Int)).L e.1 k = true := pa_legal (z := z) hL
    have hH2 : (sysN N I C P (q : Int)).H e.1 k = true := by
      have h : (if (q : Int) < 0 then false else hitB (P ++ [z]) (q : Int).toNat (evalV N I C e.1 (rowV N I k))) = true := hH
      show (if (q : Int) < 0 then false else hitB P (q : Int).toNat (evalV N I C e.1 (rowV N I k))) = true
      rw [if_neg (by omega), Int.toNat_natCast] at h ⊢
      rw [← pa_hit (z := z) hq]; exact h
    cases x1 with
    | none =>
      have := f1.no hr hk hL2
      rw [hH2] at this; cases this
    | some jk =>
      obtain ⟨j, m⟩ := jk
      have f3 := f1
      obtain ⟨hx, -, e2, he2, -⟩ := f3
      have hle := tle_len (f1.hit he2 hr hk hL2 hH2)
      simp only [List.length_append, List.length_cons, List.length_nil] at hle
      simp only [tellR, he, he2, Option.getD_some]
      constructor
      · intro h
        by_cases c : e.2.length < 64
        · rw [if_pos c, if_pos (by omega)]
          exact ⟨rfl, by simp only; omega⟩
        · rw [if_neg c] at h; simp at h
      · intro h
        by_cases c : e2.2.length < 64
        · rw [if_pos c] at h; simp at h
        · rw [if_neg c] at h; simp at h
theorem pa_many (r : RightP N I C P Q) {z : Pw} (r' : RightP N I C (P ++ [z]) Q) (sm : Sm N I C) (h1 : (resN N I C P (-1)).1 = none) (h2 : (resN N I C (P ++ [z]) (-1)).1 = none) : (resN N I C (P ++ [z]) (-1)).2.length ≤ (resN N I C P (-1)).2.length := by
  obtain ⟨-, f1⟩ := res_f (p := -1) r sm
  obtain ⟨-, f2⟩ := res_f (p := -1) r' sm
  generalize resN N I C P (-1) = x at *
  generalize resN N I C (P ++ [z]) (-1) = y at *
  obtain ⟨x1, lx⟩ := x
  obtain ⟨y1, ly⟩ := y
  have h1 : x1 = none := h1
  have h2 : y1 = none := h2
  subst h1
  subst h2
  have hy : Inv (sysN N I C (P ++ [z]) (-1)) ly.length 0 ly := f2
  have := few_in (l := lx) (M := ly.map (·.1)) (fun a b x y ha hb e => by
    rw [List.getElem?_map] at ha hb
    cases qa : ly[a]? with
    | none => rw [qa] at ha; cases ha
    | some ea =>
      cases qb : ly[b]? with
      | none => rw [qb] at hb; cases hb
      | some eb =>
        rw [qa] at ha
        rw [qb] at hb
        cases ha
        cases hb
        exact hy.nd a b ea eb qa qb e) (fun x hx => by
    obtain ⟨e, he, rfl⟩ := List.mem_map.1 hx
    obtain ⟨b, hb⟩ := List.getElem?_of_mem he
    obtain ⟨b', e', q1, q2, -⟩ := f1.all (pa_run (p' := -1) r (hy.path b e hb))
    exact ⟨b', e', q1, q2⟩)
  simpa using this
/-- A net whose assumption is never so. -/
abbrev lit0 : Nd := (1, 1, 0, 0, 0, 0, 0)
theorem lit_node : NodeP (N ++ [lit0]) N.length := by
  have e := xd_new (N := N) (x := lit0)
  refine ⟨by rw [e]; decide, by rw [e]; decide, by rw [e]; decide, by rw [e]; exact fun _ => rfl, by rw [e]; exact fun _ => rfl, by rw [e]; exact fun _ => rfl, ?_⟩
  rw [e]
  exact .inl ⟨rfl, by decide, by decide, rfl⟩
theorem dead_right (r : RightP N I C P Q) (hN : N.length ≤ 300) (hp : P.length < 16) : RightP (N ++ [lit0]) I C (P ++ [(9, ByteArray.empty, (N.length : Int))]) Q := by
  refine right_app r hN lit_node (by decide) (by decide) (by simp; omega) fun j hj => ?_
  simp only [List.length_append, List.length_cons, List.length_nil] at hj
  by_cases c : j = P.length
  · rw [c, pa_new]
    refine ⟨by simp, by simp, ?_⟩
    rw [show (N ++ [lit0]).length = N.length + 1 by simp]
    unfold wid
    rw [if_neg (by simp only; omega)]
    simp only [xd_new]
  · rw [pa_old (by omega)]
    exact xrop (r.prop j (by omega))
theorem dead_res (r : RightP N I C P Q) {p : Int} : resN (N ++ [lit0]) I C (P ++ [(9, ByteArray.empty, (N.length : Int))]) p = (none, [(firstV C, [])]) := by
  have h := srch_dead (S := sysN (N ++ [lit0]) I C (P ++ [(9, ByteArray.empty, (N.length : Int))]) p) (f := 4998) (fun k hk => by
    refine legalB_no.2 fun h => ?_
    have := h P.length (by simp)
    rw [pa_new] at this
    refine this rfl ?_
    show Ki_at (evalV (N ++ [lit0]) I C (firstV C) (rowV (N ++ [lit0]) I k)) (N.length : Int) = 0
    rw [eval_more r (by decide) (by decide)]
    rw [show Ki_at (evalV N I C (firstV C) (rowV (N ++ [lit0]) I k) ++ [doV (N ++ [lit0]) (evalV N I C (firstV C) (rowV (N ++ [lit0]) I k) ++ [0]) lit0]) (N.length : Int) = _ from at_mid (t := i_) (evalV_len N I C _ _)]
    unfold doV
    rw [do_lit])
  have h : srch (sysN (N ++ [lit0]) I C (P ++ [(9, ByteArray.empty, (N.length : Int))]) p) 5000 0 [(firstV C, [])] = some (none, [(firstV C, [])]) := h
  unfold resN
  rw [h]
  rfl
theorem dead_f (s : Small N I C P Q) (r : RightP N I C P Q) (hN : N.length < 60) (hp : P.length < 16) {q : Nat} (hq : q < P.length) (hb : badP P (q : Int) = false) (hs : smB N = true) : (ask (True ∧ ((([] : List Kiiiiiii)).length + N.length) * 56 ≤ 140737488355328) (ask (True ∧ ((([] : List Kiiiiiii) ++ N).length + (([(1, 1, 0, 0, 0, 0, 0)] : List Kiiiiiii)).length) * 56 ≤ 140737488355328) (ask (True ∧ ((([] : List Kisi)).length + P.length) * 32 ≤ 140737488355328) (ask (True ∧ ((([] : List Kisi) ++ P).length + (([(9, ByteArray.empty, (N.length : Int))] : List Kisi)).length) * 32 ≤ 140737488355328) ((reach_Tell big ((([] : List Kiiiiiii) ++ N) ++ ([(1, 1, 0, 0, 0, 0, 0)] : List Kiiiiiii)) I C ((([] : List Kisi) ++ P) ++ ([(9, ByteArray.empty, (N.length : Int))] : List Kisi)) Q (q : Int)).bind (fun r15 => (reach_Many big ((([] : List Kiiiiiii) ++ N) ++ ([(1, 1, 0, 0, 0, 0, 0)] : List Kiiiiiii)) I C ((([] : List Kisi) ++ P) ++ ([(9, ByteArray.empty, (N.length : Int))] : List Kisi)) Q).bind (fun r16 => cond true
 (cond (decide (r15.2.2.2.1 = 0))
 ((ref12_Same big r15.1 r15.2.1 r15.2.2.1 ([] : List (List Int)) 2 0 ([] : List (List Int)) ([] : List (List Int))).bind (fun r17 => cond r17.1
 (cond (decide (r16.2.1 = 0))
 (some (decide (r16.1 = 1), ()))
 (some (false, ())))
 (some (false, ()))))
 (some (false, ())))
 (some (false, ()))))))))) = some (true, ()) := by
  have hn : 20000 < big := by decide
  have hn2 : 1000 < big := by decide
  have s' : Small (N ++ [lit0]) I C (P ++ [(9, ByteArray.empty, (N.length : Int))]) Q := ⟨by simp; omega, s.i, s.c, by simp; omega, s.q⟩
  have r' := dead_right r (by omega) hp
  have ht := tell_f (n := big) (p := (q : Int)) s' r' hn
  have hm := (many_f (n := big) s' r' hn).1
  have es : smB (N ++ [lit0]) = true := (sw_more (N := N) (x := lit0) (by decide) (by decide)).trans hs
  have eb : badP (P ++ [(9, ByteArray.empty, (N.length : Int))]) (q : Int) = false := (pa_bad hq).trans hb
  have et : tellV (N ++ [lit0]) I C (P ++ [(9, ByteArray.empty, (N.length : Int))]) (q : Int) = (2, 0, [], 0) := by
    unfold tellV
    rw [eb, es]
    simp only
    rw [dead_res r]
    rfl
  have em : manyV (N ++ [lit0]) I C (P ++ [(9, ByteArray.empty, (N.length : Int))]) = (1, 0) := by
    unfold manyV
    rw [es]
    simp only
    rw [dead_res r]
    rfl
  rw [et] at ht
  rw [em] at hm
  simp only [List.nil_append]
  rw [ask_of ⟨trivial, by simp; omega⟩, ask_of ⟨trivial, by simp; omega⟩, ask_of ⟨trivial, by simp; omega⟩, ask_of ⟨trivial, by simp; omega⟩]
  rw [show reach_Tell big (N ++ [((1 : Int), (1 : Int), (0 : Int), (0 : Int), (0 : Int), (0 : Int), (0 : Int))]) I C (P ++ [((9 : Int), ByteArray.empty, (N.length : Int))]) Q (q : Int) = _ from ht, bindS, show reach_Many big (N ++ [((1 : Int), (1 : Int), (0 : Int), (0 : Int), (0 : Int), (0 : Int), (0 : Int))]) I C (P ++ [((9 : Int), ByteArray.empty, (N.length : Int))]) Q = _ from hm, bindS]
  simp only [cond_true]
  rw [sameV2_f (t := []) (by simp) (fun k hk => by simp at hk) hn2]
  rfl
end
theorem assumes {N I C P Q} {a b : Int} (ha : (Lit.int .u8 a).wf = true) (hb : (Lit.int .u8 b).wf = true) : law12_ReachAssumes big N I C P Q a b = some (true, ()) := by
  have hn : 20000 < big := by decide
  have hn2 : 1000 < big := by decide
  unfold law12_ReachAssumes
  rw [head12, bindS]
  obtain ⟨g, hg, hs⟩ := great12_f (n := big) (N := N) (I := I) (C := C) (P := P) (Q := Q) (by decide)
  rw [hg, bindS]
  cases g with
  | true => rfl
  | false =>
    obtain ⟨s, r, hN⟩ := hs rfl
    have s4 := s.p
    simp only [cond_false]
    by_cases hP : (P.length : Int) = 0
    · rw [decide_eq_true hP, cond_true]
    rw [decide_eq_false hP, cond_false]
    by_cases h16 : (16 : Int) ≤ (P.length : Int)
    · rw [decide_eq_true h16, cond_true]
    rw [decide_eq_false h16, cond_false]
    by_cases h60 : (60 : Int) ≤ (N.length : Int)
    · rw [decide_eq_true h60, cond_true]
    rw [decide_eq_false h60, cond_false]
    obtain ⟨q, hq, e⟩ := lit_mod8 (m := P.length) ha (by omega) (by have := r.p; omega)
    have hp := r.prop q hq
    obtain ⟨n0, n1, -⟩ := prop_node r hq
    have hN0 : (N.length : Int) ≠ 0 := by omega
    obtain ⟨c, hc, e2⟩ := lit_mod8 (m := N.length) hb (by omega) (by omega)
    -- the assumption's node
    have j1 : ∃ d : Int, law12_ReachAssumes_j1 big N P a b = some (d, ()) ∧ wid N d N.length = 1 := by
      unfold law12_ReachAssumes_j1
      simp only [cond_dec, e, e2]
      rw [ask_of (by omega), ask_of (by omega)]
      by_cases w : (Kiiiiiii_at N (c : Int)).2.1 = 1
      · rw [if_neg (by simpa using w)]
        refine ⟨_, rfl, ?_⟩
        unfold wid
        rw [if_neg (by omega)]
        exact w
      · rw [if_pos w]
        exact ⟨_, rfl, hp.2.2⟩
    obtain ⟨d, hj, hd⟩ := j1
    have rz : RightP N I C (P ++ [(9, ByteArray.empty, d)]) Q := pa_right r (by omega) ⟨by simp, by simp, hd⟩
    have sz : Small N I C (P ++ [(9, ByteArray.empty, d)]) Q := ⟨s.n, s.i, s.c, by simp; omega, s.q⟩
    have m1 := many_f (n := big) s r hn
    have m2 := many_f (n := big) sz rz hn
    have nev := fun (hbb : badP P (q : Int) = false) (hss : smB N = true) => dead_f s r (by omega) (by omega) hq hbb hss
    rw [ask_of hP, ask_of hN0, hj, bindS, ask_of ⟨trivial, by simp; omega⟩, ask_of ⟨trivial, by simp; omega⟩, e]
    simp only
    have t1 := tell_f (n := big) (p := (q : Int)) s r hn
    have t2 := tell_f (n := big) (p := (q : Int)) sz rz hn
    rw [show reach_Tell big N I C (([] ++ P) ++ [(9, ByteArray.empty, d)]) Q (q : Int) = reach_Tell big N I C (P ++ [(9, ByteArray.empty, d)]) Q (q : Int) from rfl, show reach_Many big N I C (([] ++ P) ++ [(9, ByteArray.empty, d)]) Q = reach_Many big N I C (P ++ [(9, ByteArray.empty, d)]) Q from rfl, t1, bindS, t2, bindS, m1.1, bindS, m2.1, bindS]
    simp only
    have eb : badP (P ++ [(9, ByteArray.empty, d)]) (q : Int) = badP P (q : Int) := pa_bad hq
    unfold tellV manyV
    rw [eb]
    cases hsm : smB N with
    | false =>
      cases badP P (q : Int) with
      | true => rfl
      | false => rfl
    | true =>
      have sm := sm_of r hsm
      have hm := pa_many r rz sm (m1.2 hsm) (m2.2 hsm)
      cases hbb : badP P (q : Int) with
      | true =>
        simp only [ne_eq, not_true_eq_false, decide_false, cond_false]
        rw [decide_eq_false (by omega)]
        rfl
      | false =>
        have hnev := nev hbb hsm
        obtain ⟨c1, c2⟩ := pa_cmp r rz sm hq
        generalize tellR N I (resN N I C P (q : Int)) = T at *
        generalize tellR N I (resN N I C (P ++ [(9, ByteArray.empty, d)]) (q : Int)) = T' at *
        simp only [ne_eq, not_true_eq_false, decide_false, cond_false]
        rw [decide_eq_false (by omega), cond_false, hnev]
        by_cases k1 : T'.1 = 1
        · obtain ⟨k2, k3⟩ := c1 k1
          rw [decide_eq_true k1, decide_eq_false (not_not_intro k2), decide_eq_false (by omega), decide_eq_false (show ¬ T.1 = 2 by omega)]
          rfl
        · rw [decide_eq_false k1]
          by_cases k2 : T.1 = 2
          · rw [decide_eq_true k2, decide_eq_false (not_not_intro (c2 k2))]
            rfl
          · rw [decide_eq_false k2]
            rfl
end Go.Proofs.Ytieocmcjecpgpaa.Am
namespace Go.Proofs.Ytieocmcjecpgpaa.Pure
open Go.Proofs.Ytieocmcjecpgpaa.Am
theorem ReachAssumes (d : law12_ReachAssumes_s.I) (h : BAs law12_ReachAssumes_s.ar d fun _ => True) : ∃ n, law12_ReachAssumes n d.1 d.2.1 d.2.2.1 d.2.2.2.1 d.2.2.2.2.1 d.2.2.2.2.2.1 d.2.2.2.2.2.2.1 = some (true, ()) := by
  obtain ⟨-, -, -, -, -, h1, h2, -⟩ := h
  exact ⟨big, assumes h1 h2⟩
end Go.Proofs.Ytieocmcjecpgpaa.Pure
