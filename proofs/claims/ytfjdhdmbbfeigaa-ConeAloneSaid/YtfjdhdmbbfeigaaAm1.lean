/- A round of a range over a function, executed: its contract. -/
import Derived.Test.YtfjdhdmbbfeigaaAmW
namespace Go.Proofs.Ytfjdhdmbbfeigaa.Am
set_option linter.unusedVariables false
set_option linter.unusedSimpArgs false
def zipE : List Nat → List AV → List (Nat × AV)
  | p :: ps, u :: us => (p, u) :: zipE ps us
  | _, _ => []
def lenE : List Nat → List AV → Bool
  | _ :: ps, _ :: us => lenE ps us
  | [], [] => true
  | _, _ => false
theorem zipE_R {w : World} {m : Mp} : ∀ {ps : List Nat} {us : List AV} {vs : List Value} {T : Array Value}, nodupN ps = true → (∀ p ∈ ps, p < T.size) → lenE ps us = true → F2 (AV.R w m) us vs →
    vs.length = ps.length ∧ ((ps.zip vs).foldl (fun T (p : Nat × Value) => T.setIfInBounds p.1 p.2) T).size = T.size ∧ (∀ t, t ∉ ps → ((ps.zip vs).foldl (fun T (p : Nat × Value) => T.setIfInBounds p.1 p.2) T).getD t undef = T.getD t undef) ∧ (∀ t, t ∉ ps → lk (zipE ps us) t = none) ∧ ∀ t u, lk (zipE ps us) t = some u → u.R w m (((ps.zip vs).foldl (fun T (p : Nat × Value) => T.setIfInBounds p.1 p.2) T).getD t undef)
  | [], [], [], T, _, _, _, _ => ⟨rfl, rfl, fun _ _ => rfl, fun _ _ => rfl, fun t u h => by cases h⟩
  | p :: ps, u :: us, v :: vs, T, hn, hlt, hl, hf => by
    simp only [nodupN, Bool.and_eq_true, Bool.not_eq_true'] at hn
    have np : p ∉ ps := fun h => by rw [memN_iff.2 h] at hn; cases hn.1
    obtain ⟨h1, h2, h3, h5, h4⟩ := zipE_R (T := T.setIfInBounds p v) hn.2 (fun q hq => by rw [Array.size_setIfInBounds]; exact hlt q (List.mem_cons_of_mem _ hq)) hl hf.2
    refine ⟨by simp [h1], by rw [List.zip_cons_cons, List.foldl_cons, h2, Array.size_setIfInBounds], fun t ht => ?_, fun t ht => ?_, fun t x hx => ?_⟩
    · rw [List.zip_cons_cons, List.foldl_cons, h3 t fun h => ht (List.mem_cons_of_mem _ h)]
      have : p ≠ t := fun e => ht (by rw [e]; exact List.mem_cons_self)
      simp [Array.getD_eq_getD_getElem?, Array.getElem?_setIfInBounds, this]
    · rw [zipE, lk_cons, if_neg fun e => ht (by rw [e]; exact List.mem_cons_self)]
      exact h5 t fun h => ht (List.mem_cons_of_mem _ h)
    · rw [zipE, lk_cons] at hx
      rw [List.zip_cons_cons, List.foldl_cons]
      split at hx
      · rename_i e
        subst e
        cases hx
        rw [h3 p np]
        have hp := hlt p List.mem_cons_self
        have : (T.setIfInBounds p v).getD p undef = v := by simp [Array.getD_eq_getD_getElem?, Array.getElem?_setIfInBounds, hp]
        rw [this]
        exact hf.1
      · exact h4 t x hx
  | [], _ :: _, _, _, _, _, h, _ => by cases h
  | _ :: _, [], _, _, _, _, h, _ => by cases h
  | _ :: _, _ :: _, [], _, _, _, _, h => h.elim
  | [], [], _ :: _, _, _, _, _, h => h.elim
/-- What a round is of its arguments' data. -/
noncomputable def exY (P : Program) (k : Nat) (n : Nat) (Γ : List (Ctr P)) (an : Ann) (s : Sig) (d : s.I) : Option s.O :=
  match s.args d, (keyN s.bs).all (fun b => Nat.blt b 100) && nodupN (keyN s.ob) && nodupN (lt k).ps && (lt k).ps.all (fun p => Nat.blt p (lt k).n) with
  | .c ⟨false, [.yld b _]⟩ :: us, true => match lk (s.bl d) b, lenE (lt k).ps us with
    | some (.lop k' tm j), true => match Nat.beq k' k with
      | true => ex P (lt k).n n Γ false (lt k).as_ an.fst ⟨zipE (lt k).ps us ++ tm, somes (s.bl d)⟩ ⟨[], []⟩ fun e ov => match e with
        | .normal => match (ov.ap ⟨[], []⟩).b b with
          | some (.lop k1 tm1 j1) => ask (j1 = 0) (ex P (lt k).n n Γ false (lt k).bd an.snd (ov.setb b (some (.lop k1 tm1 (-1)))) ⟨[], []⟩ fun e ov => match (ov.ap ⟨[], []⟩).b b with
            | some (.lop k2 tm2 _) => match Nat.blt 0 (codeE e + 1).toNat with
              | true => tell (X := Unit) s.ot ⟨[(0, V (.bool (eqE e .normal)))], (ov.setb b (some (.lop k2 tm2 (codeE e)))).ap ⟨[], []⟩ |>.blk⟩ ⟨[], []⟩ ()
              | false => none
            | _ => none)
          | _ => none
        | _ => none
      | false => none
    | _, _ => none
  | _, _ => none
noncomputable def labsY (k : Nat) (an : Ann) : List (LI × LI) := labs (lt k).n (lt k).as_ an.fst ++ labs (lt k).n (lt k).bd an.snd
theorem Blk.R_lop {w w' : World} {m : Mp} {b k : Nat} {tm : List (Nat × AV)} {j j' : Int} {r : Loop} (h : (Blk.lop k tm j).R w m b) (hr : w.heap[m.mu b]? = some (.loop r)) (hS : ¬ m.S (m.mu b)) (e : w' = w.putObj (m.mu b) (.loop { r with state := lopS j', pending := lopP j' })) : (Blk.lop k tm j').R w' m b := by
  obtain ⟨h0, fn, tmps, df, h1, h2, h3⟩ := h
  rw [hr] at h1
  cases h1
  have hlt : m.mu b < w.heap.size := (Array.getElem?_eq_some_iff.1 hr).1
  have g : Goes w w' m m (fun _ => True) := ⟨fun k hk => by rw [e]; exact World.putObj_heap_other fun e => hS (e ▸ hk), fun _ h => h, fun _ _ => rfl, fun _ _ => rfl, fun _ _ => rfl, fun _ _ => rfl⟩
  exact ⟨h0, fn, tmps, df, by rw [e]; exact World.putObj_heap_same hlt, h2, fun p hp => AV.R_goes g (fun _ _ => trivial) (h3 p hp)⟩
theorem Blk.lop_is {w : World} {m : Mp} {b k : Nat} {tm : List (Nat × AV)} {j : Int} (h : (Blk.lop k tm j).R w m b) : m.nl b = false ∧ ∃ r : Loop, w.heap[m.mu b]? = some (.loop r) ∧ r.state = lopS j ∧ r.pending = lopP j := by
  obtain ⟨h0, fn, tmps, df, h1, h2, h3⟩ := h
  exact ⟨h0, _, h1, rfl, rfl⟩
/-- The record of the loop is told anew. -/
theorem OK.lop {E : Ent} {st : St} {m : Mp} {a : Act} {w : World} (h : OK E st m a w) {b k : Nat} {tm : List (Nat × AV)} {j : Int} (hb : st.b b = some (.lop k tm j)) {r : Loop} (hr : w.heap[m.mu b]? = some (.loop r)) (j' : Int) : OK E (st.setb b (some (.lop k tm j'))) m a (w.putObj (m.mu b) (.loop { r with state := lopS j', pending := lopP j' })) := by
  have hB := h.blk b _ hb
  have hn := (Blk.lop_is hB).1
  exact h.write hb hn World.putObj_size (fun k hk => World.putObj_heap_other hk) (Blk.R_lop hB hr (h.own b _ hb hn).1 rfl) (Io.refl _)
theorem Spec.ofY {P : Program} {k : Nat} {n : Nat} {Γ : List (Ctr P)} {an : Ann} {s : Sig} {d : s.I} {r : s.O} (hl : (labsY k an).map (·.1) = (labsY k an).map (·.2)) (h : exY P k n Γ an s d = some r) : Spec P (.yl k) (s.args d) (s.bl d) (s.res r) (s.bl' r) := by
  unfold exY at h
  split at h <;> (try cases h)
  rename_i b cap us ha hk
  split at h <;> (try cases h)
  rename_i k' tm j hlb hlen
  split at h <;> (try cases h)
  rename_i hkk
  have hkk := Nat.eq_of_beq_eq_true hkk
  subst hkk
  simp only [Bool.and_eq_true] at hk
  obtain ⟨⟨⟨hk1, hk2⟩, hk3⟩, hk4⟩ := hk
  have kbl : keyN (s.bl d) = keyN s.bs := mkB_keys _ _
  have kbl' : keyN (s.bl' r) = keyN s.ob := mkB_keys _ _
  have hbl : ∀ p ∈ s.bl d, p.1 < 100 := fun p hp => blt_of (List.all_eq_true.1 hk1 p.1 (by rw [← kbl]; exact List.mem_map.2 ⟨p, hp, rfl⟩))
  have hbm := lk_mem hlb
  have hb100 : b < 100 := hbl _ hbm
  have hl' := Labs.of (n := (lt k').n) (c := .skip) (an := .d) rfl
  have hlA : Labs (lt k').n (lt k').as_ an.fst ∧ Labs (lt k').n (lt k').bd an.snd := by
    have key : ∀ {l : List (LI × LI)}, l.map (·.1) = l.map (·.2) → ∀ p ∈ l, p.1 = p.2 := by
      intro l
      induction l with
      | nil => intro _ p hp; cases hp
      | cons q l ih =>
        intro h p hp
        simp only [List.map_cons, List.cons.injEq] at h
        rcases List.mem_cons.1 hp with rfl | hp
        · exact h.1
        · exact ih h.2 p hp
    exact ⟨fun p hp => key hl p (List.mem_append_left _ hp), fun p hp => key hl p (List.mem_append_right _ hp)⟩
  intro w m vs hargs hblk hS hinj hlt
  show KRun P (.yl k') vs w (PostC s d r w m)
  rw [ha] at hargs
  match vs, hargs with
  | v :: vs, hargs =>
  obtain ⟨hv, hargs⟩ := hargs
  have hv : v = .func (.yield (m.mu b)) #[] #[] := by
    obtain ⟨y, e, hy⟩ := (show ∃ y, [SV.yld b cap] = [y] ∧ y.R w m v from hv)
    cases e
    exact hy
  subst hv
  obtain ⟨hnl, fn, tmps, df, h1, h2, h3⟩ := hblk _ hbm
  simp only at hnl h1
  obtain ⟨z1, z2, z3, z4, z5⟩ := zipE_R (T := tmps) hk3 (fun p hp => by have := blt_of (List.all_eq_true.1 hk4 p hp); omega) hlen hargs
  let E : Ent := ⟨w, InO m (s.bl d), m.S, tmps.size, m⟩
  let T' := ((lt k').ps.zip vs).foldl (fun T (p : Nat × Value) => T.setIfInBounds p.1 p.2) tmps
  have ok : OK E ((⟨zipE (lt k').ps us ++ tm, somes (s.bl d)⟩ : St).ap ⟨[], []⟩) m { tmps := T', defers := [] } w := by
    have e0 : ((⟨zipE (lt k').ps us ++ tm, somes (s.bl d)⟩ : St).ap ⟨[], []⟩) = ⟨zipE (lt k').ps us ++ tm, somes (s.bl d)⟩ := by unfold St.ap; simp
    rw [e0]
    have mem : ∀ b B, (⟨zipE (lt k').ps us ++ tm, somes (s.bl d)⟩ : St).b b = some B → (b, B) ∈ s.bl d := fun b B h => lk_somes h
    refine ⟨⟨[], rfl, List.nodup_nil, fun r hr => by cases hr⟩, z2, fun t v hv => ?_, fun b B hB => hblk _ (mem b B hB), fun b B hB hn => ⟨hS _ (mem b B hB) hn, .inr ⟨_, mem b B hB, hn, rfl⟩⟩, fun b c B C hB hC hn hn' e => hinj _ (mem b B hB) _ (mem c C hC) hn hn' e, hlt, Nat.le_refl _, fun _ _ _ => rfl, fun _ h => h, fun _ h => .inl h, fun _ _ => rfl, Io.refl _⟩
    have hv : lk (zipE (lt k').ps us ++ tm) t = some v := hv
    rw [lk_app] at hv
    by_cases ht : t ∈ (lt k').ps
    · cases hz : lk (zipE (lt k').ps us) t with
      | some u => rw [hz] at hv; cases hv; exact z5 t _ hz
      | none =>
        exfalso
        have : ∀ {ps : List Nat} {us : List AV}, lenE ps us = true → t ∈ ps → lk (zipE ps us) t ≠ none := by
          intro ps
          induction ps with
          | nil => intro us _ h; cases h
          | cons p ps ih =>
            intro us hl hm
            cases us with
            | nil => cases hl
            | cons u us =>
              rw [zipE, lk_cons]
              split
              · intro e; cases e
              · rename_i hne
                rcases List.mem_cons.1 hm with rfl | hm
                · exact absurd rfl hne
                · exact ih hl hm
        exact this hlen ht hz
    · rw [z4 t ht] at hv
      show v.R w m (T'.getD t undef)
      rw [show T'.getD t undef = tmps.getD t undef from z3 t ht]
      exact h3 _ (lk_mem hv)
  let Q2 : Exit → St → Prop := fun e st => 0 ≤ codeE e ∧ ∃ k2 tm2 j2, st.b b = some (.lop k2 tm2 j2) ∧ tell (X := Unit) s.ot ⟨[(0, V (.bool (eqE e .normal)))], (st.setb b (some (.lop k2 tm2 (codeE e)))).blk⟩ ⟨[], []⟩ () = some r
  let Q1 : Exit → St → Prop := fun e st => e = .normal ∧ ∃ k1 tm1, st.b b = some (.lop k1 tm1 0) ∧ AW (some (m.mu b)) P (lt k').n (lt k').bd (st.setb b (some (.lop k1 tm1 (-1)))) Q2
  have hw : AW (some (m.mu b)) P (lt k').n (lt k').as_ ((⟨zipE (lt k').ps us ++ tm, somes (s.bl d)⟩ : St).ap ⟨[], []⟩) Q1 := ex_ok (fun h => by cases h) hlA.1 h fun e ov he => by
    cases e
    case normal =>
      simp only at he
      split at he <;> (try cases he)
      rename_i k1 tm1 j1 hb1
      rw [ask_some] at he
      obtain ⟨hj, he⟩ := he
      subst hj
      refine ⟨rfl, k1, tm1, hb1, ?_⟩
      show AW _ _ _ _ ((ov.setb b (some (.lop k1 tm1 (-1)))).ap ⟨[], []⟩) _
      refine ex_ok (fun h => by cases h) hlA.2 he fun e ov he => ?_
      split at he <;> (try cases he)
      rename_i k2 tm2 j2 hb2
      split at he <;> (try cases he)
      rename_i hc
      have hc := blt_of hc
      exact ⟨by omega, k2, tm2, j2, hb2, he⟩
    all_goals (simp only [reduceCtorEq] at he)
  refine ⟨m.mu b, vs, fn, T', (lt k').as_, (lt k').bd, rfl, ?_, roundIn_of_wpIn (Fz_fn none fn) (wpIn_mono (hw E m { tmps := T', defers := [] } w h2 ok) fun e a' w' ⟨st, m1, ⟨he, k1, tm1, hb1, hbody⟩, o⟩ => ?_)⟩
  · rw [run_yield h1 (by simp [z1])]
    simp [T']
  · subst he
    have mu1 : m1.mu b = m.mu b := congrArg (·.1) (o.fix b hb100)
    obtain ⟨-, r1, hr1, hst, hpe⟩ := Blk.lop_is (o.blk b _ hb1)
    have o1 := o.lop hb1 hr1 (-1)
    rw [mu1] at o1 hr1
    have er : ({ r1 with state := lopS (-1), pending := lopP (-1) } : Loop) = { r1 with state := .busy } := by
      cases r1
      simp only at hpe
      subst hpe
      rfl
    rw [er] at o1
    refine ⟨_, run_beginRound hr1 hst, wpIn_mono (hbody E m1 a' _ h2 o1) fun e a2 w2 ⟨st2, m2, ⟨hc, k2, tm2, j2, hb2, ht⟩, o2⟩ => ?_⟩
    have mu2 : m2.mu b = m.mu b := congrArg (·.1) (o2.fix b hb100)
    obtain ⟨-, r2, hr2, -, -⟩ := Blk.lop_is (o2.blk b _ hb2)
    have o3 := o2.lop hb2 hr2 (codeE e)
    rw [mu2] at o3 hr2
    have fin : PostC s d r w m (.returned (.bool (eqE e .normal))) _ := fin_of (N := tmps.size) rfl o3 (v := V (.bool (eqE e .normal))) (CV.R_one (by simp only [SV.R])) ht hbl kbl' hk2
    match e, hc, fin with
    | .normal, _, fin => exact ⟨_, _, run_endRound none hr2, fin⟩
    | .ret, _, fin => exact ⟨_, _, run_endRound (some .ret) hr2, fin⟩
    | .exit id, _, fin =>
      refine ⟨_, _, run_endRound (some (.exit id)) hr2, ?_⟩
      have e1 : lopS (codeE (.exit id)) = .done := by
        show lopS (2 + id) = .done
        unfold lopS; rw [if_neg (by omega), if_neg (by omega)]
      have e2 : lopP (codeE (.exit id)) = some (.exit id) := by
        show lopP (2 + id) = _
        unfold lopP
        rw [if_neg (by omega), if_pos (by omega)]
        congr 2
        omega
      rw [e1, e2] at fin
      exact fin
    | .goto _, hc, _ => simp only [codeE] at hc; omega
    | .panic _, hc, _ => simp only [codeE] at hc; omega
    | .outgrown, hc, _ => simp only [codeE] at hc; omega
/-- A round's contract. -/
@[reducible] def Ctr.ofY {P : Program} (k : Nat) (n : Nat) (Γ : List (Ctr P)) (an : Ann) (s : Sig) (run : s.I → Option s.O) (h : ∀ d, run d = exY P k n Γ an s d) (hl : (labsY k an).map (·.1) = (labsY k an).map (·.2) := by kernel_rfl) : Ctr P :=
  ⟨.yl k, s, run, fun d r hr => Spec.ofY hl (by rw [← h]; exact hr)⟩
end Go.Proofs.Ytfjdhdmbbfeigaa.Am
