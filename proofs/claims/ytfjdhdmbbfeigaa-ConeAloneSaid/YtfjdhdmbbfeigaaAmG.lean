/- What operations make of a state: slices made. -/
import Derived.Test.YtfjdhdmbbfeigaaAmF
namespace Go.Proofs.Ytfjdhdmbbfeigaa.Am
set_option linter.unusedVariables false
set_option linter.unusedSimpArgs false
/-- Elements out of cells. -/
def elemsOf (t : Ty) : Nat → List SV → Option (List t.D)
  | 0, l => match l with | [] => some [] | _ => none
  | n + 1, l => match dec t l with
    | some (x, r) => match elemsOf t n r with | some xs => some (x :: xs) | none => none
    | none => none
theorem elemsOf_R {t : Ty} {w : World} {m : Mp} : ∀ {n : Nat} {l : List SV} {xs : List t.D} {vs : List Value}, elemsOf t n l = some xs → F2 (SV.R w m) l vs → xs.length = n ∧ vs.length = n * t.sz ∧ ∀ j p, xs[j]? = some p → ∃ cs, t.K w m.S p cs ∧ ∀ i u, cs[i]? = some u → vs[j * t.sz + i]? = some u
  | 0, l, xs, vs, h, hf => by
    simp only [elemsOf] at h
    split at h <;> cases h
    match vs, hf with
    | [], _ => exact ⟨rfl, by simp, fun j p h => by simp at h⟩
  | n + 1, l, xs, vs, h, hf => by
    simp only [elemsOf] at h
    split at h <;> (try cases h)
    rename_i x r hd
    split at h <;> cases h
    rename_i xs' hx
    obtain ⟨v1, v2, rfl, k1, f2⟩ := dec_R t hd hf
    obtain ⟨h1, h2, h3⟩ := elemsOf_R hx f2
    have l1 := Ty.K_len t k1
    refine ⟨by simp [h1], by rw [List.length_append, l1, h2, Nat.add_mul]; omega, fun j p hj => ?_⟩
    cases j with
    | zero =>
      cases hj
      refine ⟨v1, k1, fun i u hi => ?_⟩
      have : i < v1.length := by
        rcases Nat.lt_or_ge i v1.length with q | q
        · exact q
        · rw [List.getElem?_eq_none q] at hi; cases hi
      rw [Nat.zero_mul, Nat.zero_add, List.getElem?_append_left this]
      exact hi
    | succ j =>
      obtain ⟨cs, hk, hc⟩ := h3 j p hj
      refine ⟨cs, hk, fun i u hi => ?_⟩
      rw [List.getElem?_append_right (by rw [l1, Nat.add_mul]; omega), ← hc i u hi, l1]
      congr 1
      rw [Nat.add_mul]
      omega
/-- A row's block, new. -/
theorem row_new {w : World} {m : Mp} {nb : Nat} {e : TypeId} {cells : Array Value} {t : Ty} {xs : List t.D} (h2 : xs.length * t.sz ≤ cells.size)
    (h3 : ∀ j p, xs[j]? = some p → ∃ cs, t.K (w.alloc (.cells cells e)) m.S p cs ∧ ∀ i u, cs[i]? = some u → cells.toList[j * t.sz + i]? = some u) : Blk.R (w.alloc (.cells cells e)) (m.set nb w.heap.size cells.size xs.length false) nb (.row e t xs) := by
  refine ⟨(le_set ..).symm, ?_⟩
  rw [nl_set]
  refine ⟨cells, by rw [mu_set, alloc_new], (ka_set ..).symm, h2, fun j p hj => ?_⟩
  obtain ⟨cs, hk, hc⟩ := h3 j p hj
  exact ⟨cs, hk, fun i u hi => by simpa using hc i u hi⟩
/-- A slice of elements told one by one. -/
def fBuildSlice (P : Program) (ev : Operand → Option AV) (t : TypeId) (len : Nat) (ps : List (Nat × Operand)) (ty : Option Ty) (nb : Nat) : Option (AV × Blk) :=
  match P.underlying t with
  | some (.slice e) => match P.info? e with
    | some i => match i.zero, partsOf ev ps, decide (len * i.size ≤ 16777216 ∧ len ≤ 16777216) with
      | some z, some l, true => match fillL (fun k => some (k * i.size, i.size)) (List.replicate (len * i.size) none) (l.map fun p => (p.1, p.2.map some)) with
        | some l' => match mapO id l' with
          | some L => match ty with
            | some ty => match Nat.beq i.size ty.sz, elemsOf ty len L with
              | true, some xs => some (V (.own nb ty.sz), .row e ty xs)
              | _, _ => none
            | none => some (V (.sub nb i.size 0 len), .var e L)
          | none => none
        | none => none
      | _, _, _ => none
    | none => none
  | _ => none
theorem F2.none {R : SV → Value → Prop} : ∀ {n : Nat} {k : List Value}, n = k.length → F2 (fun (o : Option SV) v => ∀ x, o = some x → R x v) (List.replicate n Option.none) k
  | 0, [], _ => trivial
  | n + 1, _ :: _, e => ⟨(fun _ h => nomatch h), F2.none (by simpa using e)⟩
  | 0, _ :: _, e => by simp at e
  | _ + 1, [], e => by simp at e
theorem F2.somes {R : SV → Value → Prop} : ∀ {l : List SV} {k : List Value}, F2 R l k → F2 (fun (o : Option SV) v => ∀ x, o = some x → R x v) (l.map some) k
  | [], [], _ => trivial
  | _ :: _, _ :: _, h => ⟨fun _ e => (Option.some.inj e) ▸ h.1, somes h.2⟩
  | [], _ :: _, h => h.elim
  | _ :: _, [], h => h.elim
theorem F2.unsome {R : SV → Value → Prop} : ∀ {l : List (Option SV)} {L : List SV} {k : List Value}, F2 (fun (o : Option SV) v => ∀ x, o = some x → R x v) l k → mapO id l = some L → F2 R L k
  | [], L, [], _, e => by cases e; trivial
  | o :: l, L, _ :: _, h, e => by
    cases o with
    | none => simp [mapO] at e
    | some b =>
      cases hl : mapO id l with
      | none => simp [mapO, hl] at e
      | some l' =>
        simp only [mapO, id, hl, Option.some.injEq] at e
        subst e
        exact ⟨h.1 b rfl, unsome h.2 hl⟩
  | [], _, _ :: _, h, _ => h.elim
  | _ :: _, _, [], h, _ => h.elim
theorem fBuildSlice_run {P : Program} {ev : Operand → Option AV} {t : TypeId} {len : Nat} {ps : Array (Nat × Operand)} {ty : Option Ty} {nb : Nat} {y : AV} {B : Blk} (h : fBuildSlice P ev t len ps.toList ty nb = some (y, B)) {w : World} {m : Mp} {a : Act}
    (hev : ∀ o ka le x u, ev x = some u → u.R (w.alloc o) (m.set nb w.heap.size ka le false) (a.eval x)) : ∃ o' ka le val, (Instr.buildSlice t len (ps.map fun p => (p.1, a.eval p.2))).run P w = .ok val (w.alloc o') ∧ B.R (w.alloc o') (m.set nb w.heap.size ka le false) nb ∧ y.R (w.alloc o') (m.set nb w.heap.size ka le false) val := by
  unfold fBuildSlice at h
  split at h <;> (try cases h)
  rename_i e hu
  split at h <;> (try cases h)
  rename_i i hi
  split at h <;> (try cases h)
  rename_i z l hz hl hlen
  obtain ⟨hlen, hlen2⟩ := of_decide_eq_true hlen
  have hmx : len ≤ maxLen := by simp only [maxLen]; omega
  split at h <;> (try cases h)
  rename_i l' hl'
  split at h <;> (try cases h)
  rename_i L hL
  have hsz : szOf P e = some i.size := by simp [szOf, hi]
  have hzv : ∀ w : World, (zeroValue e).run P w = .ok z w := fun w => by simp [zeroValue, typeInfo, hi, hz]
  obtain ⟨zs, hzs⟩ : ∃ zs : Array Value, zs = if len * i.size = 0 then #[] else z.cells := ⟨_, rfl⟩
  have key : ∀ (w' : World) (m' : Mp), (∀ x u, ev x = some u → u.R w' m' (a.eval x)) → ∃ cells', Instr.fill (fun k => some (k * i.size, i.size)) ((Array.range (len * i.size)).map (zs[· % zs.size]!)) (ps.toList.map fun p => (p.1, a.eval p.2)) = some cells' ∧ F2 (SV.R w' m') L cells'.toList := fun w' m' hev' => by
    have hq := partsOf_R hev' hl
    have hq' : F2 (fun (p : Nat × List (Option SV)) (q : Nat × Value) => p.1 = q.1 ∧ F2 (fun (o : Option SV) v => ∀ x, o = some x → SV.R w' m' x v) p.2 q.2.cells.toList) (l.map fun p => (p.1, p.2.map some)) (ps.toList.map fun p => (p.1, a.eval p.2)) :=
      F2.map _ (hq.imp fun p q hpq => ⟨hpq.1, F2.somes hpq.2⟩)
    obtain ⟨cells', h1, h2⟩ := fill_run (R := fun (o : Option SV) v => ∀ x, o = some x → SV.R w' m' x v) (cells := (Array.range (len * i.size)).map (zs[· % zs.size]!)) _ (F2.none (by simp)) hq' hl'
    exact ⟨cells', h1, F2.unsome h2 hL⟩
  obtain ⟨cells', h1, -⟩ := key (w.alloc default) _ (hev default 0 0)
  have hrun : (Instr.buildSlice t len (ps.map fun p => (p.1, a.eval p.2))).run P w = .ok (.slice (some ⟨w.heap.size, 0, none⟩) len len) (w.alloc (.cells cells' e)) := by
    have h1' := h1
    rw [show (ps.toList.map fun p => (p.1, a.eval p.2)) = (ps.map fun p => (p.1, a.eval p.2)).toList by simp] at h1'
    simp only [Instr.buildSlice, Sem.run_bind, run_underlying hu, Result.andThen_ok, run_szOf hsz]
    rw [if_neg (by omega)]
    by_cases h0 : len * i.size = 0
    · rw [if_pos h0] at hzs ⊢
      subst hzs
      simp only [pure_bind]
      rw [h1']
      rfl
    · rw [if_neg h0] at hzs ⊢
      subst hzs
      simp only [pure_bind, Sem.run_bind, hzv, Result.andThen_ok]
      rw [h1']
      rfl
  have rel : ∀ ka le, F2 (SV.R (w.alloc (.cells cells' e)) (m.set nb w.heap.size ka le false)) L cells'.toList := fun ka le => by
    obtain ⟨c2, h2, h3⟩ := key _ _ (hev (.cells cells' e) ka le)
    rw [h1] at h2
    cases h2
    exact h3
  split at h
  · rename_i ty
    split at h <;> cases h
    rename_i xs hs hx
    have hs := Nat.eq_of_beq_eq_true hs
    obtain ⟨q1, q2, -⟩ := elemsOf_R hx (rel 0 0)
    refine ⟨.cells cells' e, cells'.size, xs.length, _, hrun, row_new ?_ fun j p hj => ?_, CV.R_one ?_⟩
    · rw [q1, ← q2]; simp
    · obtain ⟨-, -, q3⟩ := elemsOf_R hx (rel cells'.size xs.length)
      exact q3 j p hj
    · simp only [SV.R, nl_set, mu_set, ka_set, le_set]
      have hs1 := Ty.sz_pos ty
      have hs2 : len * 1 ≤ len * ty.sz := Nat.mul_le_mul_left _ hs1
      refine ⟨len, by rw [q1], by omega, ?_, by rw [← hs] at hs2; simp only [maxLen]; omega⟩
      rw [← q2]; simp
  · cases h
    refine ⟨.cells cells' e, cells'.size, len, _, hrun, var_new (rel _ _), CV.R_one ?_⟩
    simp only [SV.R, nl_set, mu_set, ka_set, le_set]
    have hl2 := (rel 0 0).len
    have hl3 : L.length = len * i.size := by
      have a1 : l'.length = len * i.size := by
        obtain ⟨c2, h2, h3⟩ := key (w.alloc default) _ (hev default 0 0)
        have : ∀ {ps : List (Nat × List (Option SV))} {l l' : List (Option SV)}, fillL (fun k => some (k * i.size, i.size)) l ps = some l' → l'.length = l.length := by
          intro ps
          induction ps with
          | nil => intro l l' h; cases h; rfl
          | cons p ps ih =>
            intro l l' h
            simp only [fillL] at h
            split at h
            · rename_i hd
              have hd := of_decide_eq_true hd
              rw [ih h]
              simp
              omega
            · cases h
        rw [this hl']
        simp
      have a2 : ∀ {l : List (Option SV)} {L : List SV}, mapO id l = some L → L.length = l.length := by
        intro l
        induction l with
        | nil => intro L h; cases h; rfl
        | cons o l ih =>
          intro L h
          cases o with
          | none => simp [mapO] at h
          | some b =>
            cases hl : mapO id l with
            | none => simp [mapO, hl] at h
            | some l' =>
              simp only [mapO, id, hl, Option.some.injEq] at h
              subst h
              simp [ih hl]
      rw [a2 hL, a1]
    refine ⟨0, len, rfl, ⟨Nat.le_refl _, hmx, by omega⟩, fun _ => ⟨by simp, ?_⟩⟩
    simp at hl2 ⊢
    omega
end Go.Proofs.Ytfjdhdmbbfeigaa.Am
