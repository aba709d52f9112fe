/- What operations make of a state: appends. -/
import Derived.Test.YtfjdhdmbbfeigaaAmH
namespace Go.Proofs.Ytfjdhdmbbfeigaa.Am
set_option linter.unusedVariables false
set_option linter.unusedSimpArgs false
/-- A block that goes on under another name, as it was or grown elsewhere. -/
theorem OK.renew {E : Ent} {st : St} {m : Mp} {a : Act} {w w' : World} (h : OK E st m a w) (ob : Option Nat) (hob : ∀ b, ob = some b → (∃ B, st.b b = some B) ∧ m.nl b = false) {nb g ka le : Nat} {nl : Bool} {B' : Blk} (hf : ¬ st.has nb ∧ 100 ≤ nb) (hio : Io w w') (hsz : w.heap.size ≤ w'.heap.size)
    (hh : ∀ k, k < w.heap.size → (∀ b, ob = some b → k ≠ m.mu b) → w'.heap[k]? = w.heap[k]?) (hg : nl = false → (∃ b, ob = some b ∧ g = m.mu b) ∨ w.heap.size ≤ g) (st' : St) (he : st'.env = st.env) (hb' : ∀ c C, st'.b c = some C → (c = nb ∧ C = B') ∨ (c ≠ nb ∧ some c ≠ ob ∧ st.b c = some C)) (hB : B'.R w' (m.set nb g ka le nl) nb) : OK E st' (m.set nb g ka le nl) a w' := by
  have hS : ∀ k, m.S k → k < w.heap.size ∧ ∀ b, ob = some b → k ≠ m.mu b := fun k hk => ⟨h.lt k hk, fun b hb e => by
    obtain ⟨⟨B, hB⟩, hn⟩ := hob b hb
    exact (h.own b B hB hn).1 (e ▸ hk)⟩
  have ne : ∀ b, st.has b → b ≠ nb := fun b hb e => hf.1 (e ▸ hb)
  have g' : Goes w w' m (m.set nb g ka le nl) st.has := ⟨fun k hk => hh k (hS k hk).1 (hS k hk).2, fun _ h => h, fun b hb => if_neg (ne b hb), fun b hb => if_neg (ne b hb), fun b hb => if_neg (ne b hb), fun b hb => if_neg (ne b hb)⟩
  have nms : ∀ c C, st.b c = some C → (m.set nb g ka le nl).mu c = m.mu c ∧ (m.set nb g ka le nl).nl c = m.nl c := fun c C hC => ⟨g'.mu c (.inr (.inl ⟨C, hC⟩)), g'.nl c (.inr (.inl ⟨C, hC⟩))⟩
  have far : ∀ c C, st.b c = some C → some c ≠ ob → m.nl c = false → ∀ b, ob = some b → m.mu c ≠ m.mu b := fun c C hC hne hn b hb e => by
    obtain ⟨⟨B, hB⟩, hn'⟩ := hob b hb
    exact hne (by rw [hb, h.inj c b C B hC hB hn hn' e])
  refine ⟨h.defers.go rfl fun r p => ⟨by
      rw [hh r p.lt fun b hb => ?_]
      · exact p.is
      · obtain ⟨⟨B, hB⟩, hn⟩ := hob b hb
        exact fun e => p.no b B hB hn e.symm, p.own, p.noS, fun c C hC hn => by
      rcases hb' c C hC with ⟨rfl, rfl⟩ | ⟨hne, hno, hC⟩
      · rw [nl_set] at hn
        rw [mu_set]
        rcases hg hn with ⟨b, hb, rfl⟩ | hge
        · obtain ⟨⟨B, hB⟩, hn'⟩ := hob b hb
          exact p.no b B hB hn'
        · have := p.lt; omega
      · rw [(nms c C hC).1]
        exact p.no c C hC (by rw [← (nms c C hC).2]; exact hn)⟩, h.tmps, fun t v hv => ?_, fun c C hC => ?_, fun c C hC hn => ?_, fun c d C D hC hD hn hn' hmu => ?_, fun k hk => by have := h.lt k hk; omega, by have := h.le; omega, fun k hk hO => ?_, h.sup, h.new, fun b hb => by rw [fix_set hf.2 hb]; exact h.fix b hb, h.io.trans hio⟩
  · have hv' : st.e t = some v := by rw [← hv]; unfold St.e; rw [he]
    exact AV.R_goes g' (fun b hb => .inl ⟨t, v, hv', hb⟩) (h.env t v hv')
  · rcases hb' c C hC with ⟨rfl, rfl⟩ | ⟨hne, hno, hC⟩
    · exact hB
    · exact Blk.R_goes g' (.inr (.inl ⟨C, hC⟩)) (fun hn => hh _ (Blk.R_lt (h.blk c C hC) hn) (far c C hC hno hn)) (fun b hb => .inr (.inr ⟨c, C, hC, hb⟩)) (h.blk c C hC)
  · rcases hb' c C hC with ⟨rfl, rfl⟩ | ⟨hne, hno, hC⟩
    · rw [nl_set] at hn
      rw [mu_set]
      rcases hg hn with ⟨b, hb, rfl⟩ | hge
      · obtain ⟨⟨B, hB⟩, hn'⟩ := hob b hb
        exact h.own b B hB hn'
      · exact ⟨fun hs => by have := h.lt _ hs; omega, .inl (by have := h.le; omega)⟩
    · rw [(nms c C hC).1]
      exact h.own c C hC (by rw [← (nms c C hC).2]; exact hn)
  · have one : ∀ c C, c ≠ nb → some c ≠ ob → st.b c = some C → (m.set nb g ka le nl).nl c = false → nl = false → m.mu c ≠ g := fun c C hne hno hC hn hnl e => by
      have hn0 : m.nl c = false := by rw [← (nms c C hC).2]; exact hn
      rcases hg hnl with ⟨b, hb, rfl⟩ | hge
      · exact far c C hC hno hn0 b hb e
      · have := Blk.R_lt (h.blk c C hC) hn0
        omega
    rcases hb' c C hC with ⟨rfl, rfl⟩ | ⟨hne, hno, hC1⟩ <;> rcases hb' d D hD with ⟨rfl, rfl⟩ | ⟨hne', hno', hD1⟩
    · rfl
    · rw [mu_set, (nms d D hD1).1] at hmu
      exact absurd hmu.symm (one d D hne' hno' hD1 hn' (by rw [nl_set] at hn; exact hn))
    · rw [mu_set, (nms c C hC1).1] at hmu
      exact absurd hmu (one c C hne hno hC1 hn (by rw [nl_set] at hn'; exact hn'))
    · rw [(nms c C hC1).1, (nms d D hD1).1] at hmu
      exact h.inj c d C D hC1 hD1 (by rw [← (nms c C hC1).2]; exact hn) (by rw [← (nms d D hD1).2]; exact hn') hmu
  · rw [hh k (by have := h.le; omega) fun b hb e => ?_]
    · exact h.frame k hk hO
    · subst e
      obtain ⟨⟨B, hB⟩, hn'⟩ := hob b hb
      rcases (h.own b B hB hn').2 with h1 | h1
      · omega
      · exact hO h1
/-- Cells of all elements, in one row. -/
theorem flat_cells {α : Type} {sz : Nat} {K : α → List Value → Prop} (hK : ∀ p cs, K p cs → cs.length = sz) : ∀ (l : List α) (f : Nat → Option Value), (∀ j p, l[j]? = some p → ∃ cs, K p cs ∧ ∀ i u, cs[i]? = some u → f (j * sz + i) = some u) →
    ∃ vs : List Value, vs.length = l.length * sz ∧ (∀ k u, vs[k]? = some u → f k = some u) ∧ ∀ j p, l[j]? = some p → ∃ cs, K p cs ∧ ∀ i u, cs[i]? = some u → vs[j * sz + i]? = some u
  | [], f, h => ⟨[], by simp, fun k u hk => by simp at hk, fun j p hj => by simp at hj⟩
  | x :: l, f, h => by
    obtain ⟨cs, hk, hc⟩ := h 0 x rfl
    obtain ⟨vs, h1, h2, h3⟩ := flat_cells hK l (fun k => f (k + sz)) fun j p hj => by
      obtain ⟨cs, hk, hc⟩ := h (j + 1) p hj
      exact ⟨cs, hk, fun i u hi => by rw [← hc i u hi, Nat.add_mul]; congr 1; omega⟩
    have hl := hK x cs hk
    refine ⟨cs ++ vs, by simp [hl, h1, Nat.add_mul, Nat.add_comm], fun k u hk' => ?_, fun j p hj => ?_⟩
    · rcases Nat.lt_or_ge k cs.length with q | q
      · rw [List.getElem?_append_left q] at hk'
        have := hc k u hk'
        simpa using this
      · rw [List.getElem?_append_right q] at hk'
        have := h2 _ u hk'
        rw [← this]
        congr 1
        omega
    · cases j with
      | zero =>
        cases hj
        refine ⟨cs, hk, fun i u hi => ?_⟩
        have : i < cs.length := by
          rcases Nat.lt_or_ge i cs.length with q | q
          · exact q
          · rw [List.getElem?_eq_none q] at hi; cases hi
        rw [Nat.zero_mul, Nat.zero_add, List.getElem?_append_left this]
        exact hi
      | succ j =>
        obtain ⟨cs', hk', hc'⟩ := h3 j p hj
        refine ⟨cs', hk', fun i u hi => ?_⟩
        rw [List.getElem?_append_right (by rw [hl, Nat.add_mul]; omega), ← hc' i u hi, hl]
        congr 1
        rw [Nat.add_mul]
        omega
/-- What a slice that is read holds, in cells. -/
theorem rowOf_R {bl : Nat → Option Blk} {x : SV} {t : Ty} {l : List t.D} (h : rowOf bl x = some ⟨t, l⟩) {w : World} {m : Mp} {v : Value} (hx : x.R w m v) (hb : ∀ b B, bl b = some B → B.R w m b) (hlen : ∀ b sz off len, x = .sub b sz off len → ((l.length : Int) = len)) :
    ∃ A c, v = .slice A l.length c ∧ ∃ vs : List Value, vs.length = l.length * t.sz ∧ (0 < l.length → ∃ ad, A = some ad ∧ ∀ k u, vs[k]? = some u → w.cell? (ad.add k) = some u) ∧ ∀ j p, l[j]? = some p → ∃ cs, t.K w m.S p cs ∧ ∀ i u, cs[i]? = some u → vs[j * t.sz + i]? = some u := by
  have nil : ∀ (t : Ty) (A : Option Addr) (c : Nat), ∃ A' c', (Value.slice A 0 c) = .slice A' ([] : List t.D).length c' ∧ ∃ vs : List Value, vs.length = ([] : List t.D).length * t.sz ∧ (0 < ([] : List t.D).length → ∃ ad, A' = some ad ∧ ∀ k u, vs[k]? = some u → w.cell? (ad.add k) = some u) ∧ ∀ j p, ([] : List t.D)[j]? = some p → ∃ cs, t.K w m.S p cs ∧ ∀ i u, cs[i]? = some u → vs[j * t.sz + i]? = some u :=
    fun t A c => ⟨A, c, rfl, [], by simp, fun h => absurd h (Nat.lt_irrefl _), fun j p hj => by simp at hj⟩
  cases x <;> simp only [rowOf] at h <;> (try cases h)
  case row =>
    obtain ⟨A, c, rfl, q1, q2, q3⟩ := hx
    by_cases h0 : 0 < l.length
    · obtain ⟨ad, rfl, hs, hc⟩ := q3 h0
      obtain ⟨vs, h1, h2, h3⟩ := flat_cells (fun p cs hk => Ty.K_len t hk) l (fun k => w.cell? (ad.add k)) hc
      exact ⟨_, c, rfl, vs, h1, fun _ => ⟨ad, rfl, h2⟩, h3⟩
    · have : l = [] := List.eq_nil_of_length_eq_zero (by omega)
      subst this
      exact nil t A c
  case own b sz =>
    split at h <;> (try cases h)
    rename_i ty t' l' hB
    split at h <;> cases h
    rename_i hs
    have hs := Nat.eq_of_beq_eq_true hs
    subst hs
    obtain ⟨p0, p1⟩ := hb b _ hB
    simp only [SV.R] at hx
    split at hx <;> rename_i hnl <;> rw [hnl] at p1
    · subst hx; subst p1
      exact nil t none 0
    · obtain ⟨cap, rfl, _⟩ := hx
      obtain ⟨cells, q1, q2, q3, q5⟩ := p1
      obtain ⟨vs, h1, h2, h3⟩ := flat_cells (fun p cs hk => Ty.K_len t hk) l (fun k => cells[k]?) q5
      refine ⟨_, cap, by rw [p0], vs, h1, fun _ => ⟨_, rfl, fun k u hk => ?_⟩, h3⟩
      rw [add_plain]
      simp only [World.cell?, q1]
      simpa using h2 k u hk
  case sub b sz off len =>
    split at h <;> (try cases h)
    rename_i ty t' l' hB
    split at h <;> cases h
    rename_i hs
    have hs := Nat.eq_of_beq_eq_true hs
    subst hs
    have hl := hlen b _ off len rfl
    obtain ⟨p0, p1⟩ := hb b _ hB
    simp only [SV.R] at hx
    split at hx <;> rename_i hnl <;> rw [hnl] at p1
    · obtain ⟨rfl, rfl⟩ := hx
      subst p1
      simp only [List.drop_nil, List.take_nil]
      exact nil t none 0
    · obtain ⟨o, cap, rfl, ⟨hle, hmx, hol⟩, hk⟩ := hx
      obtain ⟨cells, q1, q2, q3, q5⟩ := p1
      have hll : ((l'.drop off).take len).length = len := by omega
      by_cases h0 : len = 0
      · subst h0
        simp only [List.take_zero]
        exact nil t _ cap
      · obtain ⟨rfl, hk⟩ := hk (by omega)
        obtain ⟨vs, h1, h2, h3⟩ := flat_cells (fun p cs hk => Ty.K_len t hk) ((l'.drop off).take len) (fun k => cells[off * t.sz + k]?) fun j p hj => by
          rw [List.getElem?_take] at hj
          split at hj
          · rw [List.getElem?_drop] at hj
            obtain ⟨cs, hk, hc⟩ := q5 _ p hj
            exact ⟨cs, hk, fun i u hi => by rw [← hc i u hi, Nat.add_mul]; congr 1; omega⟩
          · cases hj
        refine ⟨_, cap, by rw [hll], vs, h1, fun _ => ⟨_, rfl, fun k u hk => ?_⟩, h3⟩
        rw [add_plain]
        simp only [World.cell?, q1]
        simpa using h2 k u hk
def lenOk : SV → Nat → Prop
  | .sub _ _ _ len, n => (n : Int) = len
  | _, _ => True
instance (y : SV) (n : Nat) : Decidable (lenOk y n) := match y with
  | .sub _ _ _ len => inferInstanceAs (Decidable ((n : Int) = len))
  | .int .. | .bool _ | .str _ | .row .. | .nilsl | .own .. | .ptr .. | .nilptr | .rp .. | .ep .. | .map _ | .nilmap | .fn .. | .nilfn | .yld .. | .bm .. => inferInstanceAs (Decidable True)
theorem lenOk_of {y : SV} {n : Nat} (h : lenOk y n) : ∀ b sz off len, y = .sub b sz off len → ((n : Int) = len) := fun b sz off len e => by
  subst e
  exact h
/-- What a row's block is, behind an append. -/
theorem append_R {w' : World} {m : Mp} {nb : Nat} {e : TypeId} {t : Ty} {l : List t.D} {vs : List Value} {v' : Value} (hown : w'.ownsRow 0 e t.sz v' l.length vs) (hel : ∀ j p, l[j]? = some p → ∃ cs, t.K w' m.S p cs ∧ ∀ i u, cs[i]? = some u → vs[j * t.sz + i]? = some u) :
    ∃ g ka nl, Blk.R w' (m.set nb g ka l.length nl) nb (.row e t l) ∧ SV.R w' (m.set nb g ka l.length nl) (.own nb t.sz) v' ∧ (nl = false → v'.ownBlock = some g) := by
  obtain ⟨hl, hv⟩ := hown
  rcases hv with ⟨rfl, h0⟩ | ⟨g, cap, cur, rfl, -, hh, hle, hmx, hcs, ht⟩
  · have : l = [] := List.eq_nil_of_length_eq_zero h0
    subst this
    refine ⟨0, 0, true, ⟨(le_set ..).symm, by rw [nl_set]⟩, by simp only [SV.R, nl_set], fun h => by cases h⟩
  · refine ⟨g, cur.size, false, ⟨(le_set ..).symm, ?_⟩, ?_, fun _ => rfl⟩
    · rw [nl_set]
      refine ⟨cur, by rw [mu_set]; exact hh, (ka_set ..).symm, by rw [hcs]; exact Nat.mul_le_mul_right _ hle, fun j p hj => ?_⟩
      obtain ⟨cs, hk, hc⟩ := hel j p hj
      refine ⟨cs, hk, fun i u hi => ?_⟩
      have := hc i u hi
      rw [← ht, List.getElem?_take] at this
      split at this
      · simpa using this
      · cases this
    · simp only [SV.R, nl_set, mu_set, ka_set, le_set]
      exact ⟨cap, rfl, hle, hcs.symm, hmx⟩
/-- The element type's row of the table. -/
def appE (P : Program) (tys : List TypeId) : Option (TypeId × TypeInfo × Value) :=
  match tys with
  | [t, t'] => match Nat.beq t t', P.underlying t with
    | true, some (.slice e) => match P.info? e with
      | some i => match i.zero with
        | some z => match Nat.beq z.cells.size i.size, decide (0 < i.size ∧ 1 ≤ i.bytes) with
          | true, true => some (e, i, z)
          | _, _ => none
        | none => none
      | none => none
    | _, _ => none
  | _ => none
theorem appE_of {P : Program} {tys : Array TypeId} {e : TypeId} {i : TypeInfo} {z : Value} (h : appE P tys.toList = some (e, i, z)) : ∃ t, tys = #[t, t] ∧ P.underlying t = some (.slice e) ∧ P.info? e = some i ∧ i.zero = some z ∧ z.cells.size = i.size ∧ 0 < i.size ∧ 1 ≤ i.bytes := by
  unfold appE at h
  split at h <;> (try cases h)
  rename_i t t' ht
  split at h <;> (try cases h)
  rename_i e' hb hu
  split at h <;> (try cases h)
  rename_i i' hi
  split at h <;> (try cases h)
  rename_i z' hz
  split at h <;> cases h
  rename_i h2 h1
  have hb := Nat.eq_of_beq_eq_true hb
  subst hb
  have h2 := of_decide_eq_true h2
  refine ⟨t, ?_, hu, hi, hz, Nat.eq_of_beq_eq_true h1, h2.1, h2.2⟩
  rw [← Array.toArray_toList (xs := tys), ht]
def fApp (P : Program) (bl : Nat → Option Blk) (tys : List TypeId) (x y : SV) (nb : Nat) : Option (Cd × AV × List (Nat × Option Blk)) :=
  match appE P tys, rowOf bl y with
  | some (e, i, _), some ⟨t2, ys⟩ => match Nat.beq i.size t2.sz with
    | true => match x with
      | .own b sz => match bl b with
        | some (.row ty t1 l) => match Nat.beq ty e, Nat.beq sz t1.sz, Ty.eq t2 t1 with
          | true, true, some ⟨h⟩ => some (⟨lenOk y ys.length ∧ (l.length + ys.length) * i.bytes ≤ 140737488355328⟩, V (.own nb t1.sz), [(b, none), (nb, some (.row e t1 (l ++ Ty.cast h ys)))])
          | _, _, _ => none
        | _ => none
      | .nilsl => some (⟨lenOk y ys.length ∧ ys.length * i.bytes ≤ 140737488355328⟩, V (.own nb t2.sz), [(nb, some (.row e t2 ys))])
      | _ => none
    | false => none
  | _, _ => none
theorem append_none {P : Program} {w : World} {t ty e : TypeId} (hu : P.underlying t = some (.slice e)) {i : TypeInfo} (hi : P.info? e = some i) {v : Value} {n c : Nat} {xs : List Value} {size : Nat} (hv : w.ownsRow 0 e size v n xs) (A : Option Addr) : (Builtin.append_ #[t, t] ty #[v, .slice A 0 c]).run P w = .ok v w := by
  have hf : ∀ A, (Builtin.firstCells i.size 0 (.slice A 0 c)).run P w = .ok #[] w := fun A => by cases A <;> simp [Builtin.firstCells, loadCells, loadCellsFrom]
  rcases hv.2 with ⟨rfl, rfl⟩ | ⟨g, cap, cur, rfl, -, hh, hle, -, hcs, -⟩
  · simp [Builtin.append_, run_underlying hu, sizeOf, typeInfo, hi, Builtin.lenOf, hf]
  · simp [Builtin.append_, run_underlying hu, sizeOf, typeInfo, hi, Builtin.lenOf, hf, hle, storeCells]
/-- An append, in terms of rows of cells. -/
theorem run_app {P : Program} {w : World} {t ty e : TypeId} {i : TypeInfo} {z : Value} (hu : P.underlying t = some (.slice e)) (hi : P.info? e = some i) (hz : i.zero = some z) (hzs : z.cells.size = i.size) (hsz : 0 < i.size) (hby : 1 ≤ i.bytes) {v : Value} {n : Nat} {xs : List Value} (hown : w.ownsRow 0 e i.size v n xs)
    {A : Option Addr} {k c : Nat} {news : List Value} (hl : news.length = k * i.size) (hnews : 0 < k → ∃ ad, A = some ad ∧ ∀ j u, news[j]? = some u → w.cell? (ad.add j) = some u) (h1 : ∀ u ∈ news, u.oneCell' = true) (hb : (n + k) * i.bytes ≤ 140737488355328) :
    ∃ v' w', (Builtin.append_ #[t, t] ty #[v, .slice A k c]).run P w = .ok v' w' ∧ w'.ownsRow 0 e i.size v' (n + k) (xs ++ news) ∧ w.grownBy w' v.ownBlock ∧ (v'.ownBlock = v.ownBlock ∨ v'.ownBlock = some w.heap.size) := by
  by_cases h0 : k = 0
  · subst h0
    have hn : news = [] := List.eq_nil_of_length_eq_zero (by simpa using hl)
    subst hn
    exact ⟨v, w, append_none hu hi hown A, by simpa using hown, ⟨rfl, rfl, rfl, Nat.le_refl _, fun _ _ _ => rfl⟩, .inl rfl⟩
  · obtain ⟨ad, rfl, hc⟩ := hnews (by omega)
    have h63 : n + k ≤ maxLen := by
      have : (n + k) * 1 ≤ (n + k) * i.bytes := Nat.mul_le_mul_left _ hby
      simp only [maxLen]
      omega
    obtain ⟨v', w', q1, q2, q3, -, q5⟩ := run_append_own_at (P := P) w 0 t ty e i z i.size i.bytes hu hi hz rfl rfl hzs hsz v n xs hown ad k c news hl hc h1 h63 hb (Nat.zero_le _)
    exact ⟨v', w', q1, q2, q3, q5⟩
theorem rows_one {t : Ty} {w : World} {S : Nat → Prop} {l : List t.D} {vs : List Value} (hl : vs.length = l.length * t.sz) (h : ∀ j p, l[j]? = some p → ∃ cs, t.K w S p cs ∧ ∀ i u, cs[i]? = some u → vs[j * t.sz + i]? = some u) : ∀ u ∈ vs, u.oneCell' = true := by
  intro u hu
  obtain ⟨k, hk, he⟩ := List.mem_iff_getElem.1 hu
  have hsp := Ty.sz_pos t
  have hj : k / t.sz < l.length := by rw [Nat.div_lt_iff_lt_mul hsp]; omega
  obtain ⟨cs, hK, hc⟩ := h (k / t.sz) _ (List.getElem?_eq_getElem hj)
  have hlen := Ty.K_len t hK
  have hi : k % t.sz < cs.length := by rw [hlen]; exact Nat.mod_lt _ hsp
  have := hc (k % t.sz) _ (List.getElem?_eq_getElem hi)
  rw [Nat.mul_comm, Nat.div_add_mod, List.getElem?_eq_getElem hk, he] at this
  have e := Option.some.inj this
  rw [e]
  exact Ty.K_one t hK _ (List.getElem_mem hi)
theorem does_app {P : Program} {o : Oper} {ev : Operand → Option AV} {bl : Nat → Option Blk} {nw : List Nat} {tys : Array TypeId} {a1 a2 : Operand} {x y : SV} {nb : Nat} {c : Cd} {v : AV} {ub : List (Nat × Option Blk)} (ho : o.op = .call ⟨.builtin .append, #[a1, a2], tys⟩) (h1 : sv (ev a1) = some x) (h2 : sv (ev a2) = some y) (hnb : nb ∈ nw) (h : fApp P bl tys.toList x y nb = some (c, v, ub)) : Does P o ev bl nw ⟨c.p, some v, ub⟩ := by
  intro E st m a w ok hev hbl hnw hns hd hc K Q hK
  have hx := sv_R h1 (fun u hu => hev a1 u hu)
  have hy := sv_R h2 (fun u hu => hev a2 u hu)
  have hbR : ∀ b B, bl b = some B → B.R w m b := fun b B hB => ok.blk b B (hbl b B hB)
  unfold fApp at h
  split at h <;> (try cases h)
  rename_i e i z t2 ys hap hro
  obtain ⟨t, rfl, hu, hi, hz, hzs, hsz, hby⟩ := appE_of hap
  split at h <;> (try cases h)
  rename_i hs
  have hs := Nat.eq_of_beq_eq_true hs
  have hexec : ∀ v' w', (Builtin.append_ #[t, t] o.type #[a.eval a1, a.eval a2]).run P w = .ok v' w' → (execOp a.eval o).run P w = .ok (.value v') w' := fun v' w' hr => by
    simp [execOp, ho, resolve, invoke, builtin, hr]
  split at h
  · rename_i b sz
    split at h <;> (try cases h)
    rename_i ty t1 l hB
    split at h <;> cases h
    rename_i h' hs1 hs2 hte
    subst h'
    have hs1 := Nat.eq_of_beq_eq_true hs1
    have hs2 := Nat.eq_of_beq_eq_true hs2
    subst hs1; subst hs2
    obtain ⟨A, cp, hyv, vs, g1, g2, g3⟩ := rowOf_R hro hy hbR (lenOk_of hc.1)
    have hst := hbl b _ hB
    obtain ⟨p0, p1⟩ := ok.blk b _ hst
    -- the row as cells
    obtain ⟨xs, hxl, hown, hxe, hob⟩ : ∃ xs : List Value, xs.length = l.length * i.size ∧ w.ownsRow 0 ty i.size (a.eval a1) l.length xs ∧ (∀ j p, l[j]? = some p → ∃ cs, t2.K w m.S p cs ∧ ∀ i u, cs[i]? = some u → xs[j * t2.sz + i]? = some u) ∧ ((a.eval a1).ownBlock = none ∧ m.nl b = true ∨ (a.eval a1).ownBlock = some (m.mu b) ∧ m.nl b = false) := by
      simp only [SV.R] at hx
      split at hx <;> rename_i hnl <;> rw [hnl] at p1
      · subst p1
        exact ⟨[], by simp, ⟨by simp, .inl ⟨hx, rfl⟩⟩, fun j p hj => by simp at hj, .inl ⟨by rw [hx]; rfl, hnl⟩⟩
      · obtain ⟨cap, hv, hle, hcap, hmx⟩ := hx
        obtain ⟨cells, q1, q2, q3, q5⟩ := p1
        have hcl : l.length * t2.sz ≤ cells.toList.length := by simpa using q3
        refine ⟨cells.toList.take (l.length * t2.sz), by rw [List.length_take, hs]; omega, ⟨by rw [List.length_take, hs]; omega, .inr ⟨m.mu b, cap, cells, by rw [hv, p0], Nat.zero_le _, q1, by omega, hmx, by rw [q2, ← hcap, hs], by rw [hs]⟩⟩, fun j p hj => ?_, .inr ⟨by rw [hv]; rfl, hnl⟩⟩
        obtain ⟨cs, hk, hcc⟩ := q5 j p hj
        refine ⟨cs, hk, fun q u hq => ?_⟩
        have hql : q < t2.sz := by
          rcases Nat.lt_or_ge q t2.sz with r | r
          · exact r
          · rw [List.getElem?_eq_none (by rw [Ty.K_len t2 hk]; exact r)] at hq; cases hq
        have hjl : j < l.length := by
          rcases Nat.lt_or_ge j l.length with r | r
          · exact r
          · rw [List.getElem?_eq_none r] at hj; cases hj
        have : (j + 1) * t2.sz ≤ l.length * t2.sz := Nat.mul_le_mul_right _ hjl
        rw [Nat.add_mul] at this
        rw [List.getElem?_take, if_pos (by omega)]
        simpa using hcc q u hq
    obtain ⟨v', w', r1, r2, r3, r4⟩ := run_app (P := P) (ty := o.type) hu hi hz hzs hsz hby hown (by rw [g1, hs]) (c := cp) g2 (rows_one g1 g3) hc.2
    rw [← hyv] at r1
    unfold Oper.wp
    rw [hexec v' w' r1, Oper.upon_value]
    have hS : ∀ k, m.S k → k < w.heap.size ∧ some k ≠ (a.eval a1).ownBlock := fun k hk => ⟨ok.lt k hk, fun e => by
      rcases hob with ⟨h1, -⟩ | ⟨h1, hn⟩
      · rw [h1] at e; cases e
      · rw [h1] at e
        exact (ok.own b _ hst hn).1 (by rw [← Option.some.inj e]; exact hk)⟩
    have still : Still m.S w w' := fun k hk => r3.block k (hS k hk).1 (hS k hk).2
    have hel : ∀ j p, (l ++ ys)[j]? = some p → ∃ cs, t2.K w' m.S p cs ∧ ∀ i u, cs[i]? = some u → (xs ++ vs)[j * t2.sz + i]? = some u := fun j p hj => by
      rcases Nat.lt_or_ge j l.length with q | q
      · rw [List.getElem?_append_left q] at hj
        obtain ⟨cs, hk, hcc⟩ := hxe j p hj
        refine ⟨cs, Ty.K_still still (fun _ h => h) t2 hk, fun i u hi => ?_⟩
        have := hcc i u hi
        have hlt : j * t2.sz + i < xs.length := by
          rcases Nat.lt_or_ge (j * t2.sz + i) xs.length with r | r
          · exact r
          · rw [List.getElem?_eq_none r] at this; cases this
        rw [List.getElem?_append_left hlt]
        exact this
      · rw [List.getElem?_append_right q] at hj
        obtain ⟨cs, hk, hcc⟩ := g3 _ p hj
        refine ⟨cs, Ty.K_still still (fun _ h => h) t2 hk, fun i u hi => ?_⟩
        have hle : l.length * t2.sz ≤ j * t2.sz := Nat.mul_le_mul_right _ q
        rw [List.getElem?_append_right (by rw [hxl, hs]; omega), ← hcc i u hi, hxl, hs]
        congr 1
        rw [Nat.sub_mul]
        omega
    rw [hs] at r2
    obtain ⟨g, ka, nl, b1, b2, b3⟩ := append_R (nb := nb) (m := m) (l := l ++ ys) (by simpa using r2) hel
    have hren := ok.renew (if m.nl b = true then none else some b) (fun b' hb' => by
      split at hb'
      · cases hb'
      · cases hb'
        exact ⟨⟨_, hst⟩, by simpa using (by assumption : ¬ m.nl b = true)⟩) (hnw nb hnb) (nb := nb) (g := g) (ka := ka) (le := (l ++ ys).length) (nl := nl) (B' := .row ty t2 (l ++ ys)) ⟨r3.os, r3.tape, r3.output⟩ r3.size (fun k hk hne => r3.block k hk fun e => by
        rcases hob with ⟨h1, -⟩ | ⟨h1, hn⟩
        · rw [h1] at e; cases e
        · rw [h1] at e
          exact hne b (by rw [if_neg (by rw [hn]; decide)]) (Option.some.inj e)) (fun hnl => by
        have h3 := b3 hnl
        rcases r4 with r4 | r4
        · rcases hob with ⟨h1, -⟩ | ⟨h1, hn⟩
          · rw [r4, h1] at h3; cases h3
          · rw [r4, h1] at h3
            exact .inl ⟨b, by rw [if_neg (by rw [hn]; decide)], (Option.some.inj h3).symm⟩
        · rw [r4] at h3
          exact .inr (by rw [← Option.some.inj h3]; exact Nat.le_refl _)) (st.setbs [(b, none), (nb, some (.row ty t2 (l ++ ys)))]) rfl (fun c C hC => by
        simp only [St.setbs, List.foldl_cons, List.foldl_nil] at hC
        rw [St.setb_b] at hC
        split at hC
        · rename_i e; exact .inl ⟨e.symm, (Option.some.inj hC).symm⟩
        · rename_i e1
          rw [St.setb_b] at hC
          split at hC
          · cases hC
          · rename_i e2
            refine .inr ⟨Ne.symm e1, ?_, hC⟩
            split
            · exact fun h => by cases h
            · exact fun h => e2 (Option.some.inj h).symm) b1
    exact hK _ _ _ (hren.put o.dst (some (V (.own nb t2.sz))) v' hd fun q hq => by cases hq; exact CV.R_one b2)
  · cases h
    obtain ⟨A, cp, hyv, vs, g1, g2, g3⟩ := rowOf_R hro hy hbR (lenOk_of hc.1)
    have hown : w.ownsRow 0 e i.size (a.eval a1) 0 [] := ⟨by simp, .inl ⟨hx, rfl⟩⟩
    obtain ⟨v', w', r1, r2, r3, r4⟩ := run_app (P := P) (ty := o.type) hu hi hz hzs hsz hby hown (by rw [g1, hs]) (c := cp) g2 (rows_one g1 g3) (by rw [Nat.zero_add]; exact hc.2)
    rw [← hyv] at r1
    unfold Oper.wp
    rw [hexec v' w' r1, Oper.upon_value]
    have hno : (a.eval a1).ownBlock = none := by rw [show a.eval a1 = _ from hx]; rfl
    have still : Still m.S w w' := fun k hk => r3.block k (ok.lt k hk) (by rw [hno]; exact fun h => by cases h)
    rw [Nat.zero_add, List.nil_append, hs] at r2
    obtain ⟨g, ka, nl, b1, b2, b3⟩ := append_R (nb := nb) (m := m) (l := ys) r2 fun j p hj => by
      obtain ⟨cs, hk, hcc⟩ := g3 j p hj
      exact ⟨cs, Ty.K_still still (fun _ h => h) t2 hk, hcc⟩
    have hren := ok.renew none (fun b' hb' => by cases hb') (hnw nb hnb) (nb := nb) (g := g) (ka := ka) (le := ys.length) (nl := nl) (B' := .row e t2 ys) ⟨r3.os, r3.tape, r3.output⟩ r3.size (fun k hk _ => r3.block k hk (by rw [hno]; exact fun h => by cases h)) (fun hnl => by
        have h3 := b3 hnl
        rcases r4 with r4 | r4
        · rw [r4, hno] at h3; cases h3
        · rw [r4] at h3
          exact .inr (by rw [← Option.some.inj h3]; exact Nat.le_refl _)) (st.setbs [(nb, some (.row e t2 ys))]) rfl (fun c C hC => by
        simp only [St.setbs, List.foldl_cons, List.foldl_nil] at hC
        rw [St.setb_b] at hC
        split at hC
        · rename_i e; exact .inl ⟨e.symm, (Option.some.inj hC).symm⟩
        · rename_i e1
          exact .inr ⟨Ne.symm e1, (fun h => by cases h), hC⟩) b1
    exact hK _ _ _ (hren.put o.dst (some (V (.own nb t2.sz))) v' hd fun q hq => by cases hq; exact CV.R_one b2)
  · cases h
end Go.Proofs.Ytfjdhdmbbfeigaa.Am
