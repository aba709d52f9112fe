/- What operations make of a state: slices made long, stores, appends. -/
import Derived.Test.YtfjdhdmbbfeigaaAmG
namespace Go.Proofs.Ytfjdhdmbbfeigaa.Am
set_option linter.unusedVariables false
set_option linter.unusedSimpArgs false
/-- Cells of a kind's zero value; what is left of them. -/
def isZ : Ty → List Value → Option (List Value)
  | .int k, l => match l with | .int k' 0 :: r => (match decide (k = k') with | true => some r | false => none) | _ => none
  | .bool, l => match l with | .bool false :: r => some r | _ => none
  | .str, l => match l with | .string ⟨⟨[]⟩⟩ :: r => some r | _ => none
  | .sl _, l => match l with | .slice none 0 0 :: r => some r | _ => none
  | .pr a b, l => match isZ a l with | some r => isZ b r | none => none
theorem isZ_K {w : World} {S : Nat → Prop} : ∀ {t : Ty} {l r : List Value}, isZ t l = some r → ∃ c, l = c ++ r ∧ t.K w S t.d0 c
  | .int k, l, r, h => by
    simp only [isZ] at h
    split at h <;> (try cases h)
    rename_i k' r'
    by_cases hk : k = k'
    · subst hk
      simp only [decide_true, Option.some.injEq] at h
      subst h
      exact ⟨[.int k 0], rfl, rfl⟩
    · rw [decide_eq_false hk] at h; cases h
  | .bool, l, r, h => by
    simp only [isZ] at h
    split at h <;> cases h
    exact ⟨[.bool false], rfl, rfl⟩
  | .str, l, r, h => by
    simp only [isZ] at h
    split at h <;> cases h
    exact ⟨[.string ⟨⟨[]⟩⟩], rfl, rfl⟩
  | .sl e, l, r, h => by
    simp only [isZ] at h
    split at h <;> cases h
    exact ⟨[.slice none 0 0], rfl, none, 0, rfl, Nat.le_refl _, Nat.zero_le _, fun h => absurd h (Nat.lt_irrefl _)⟩
  | .pr a b, l, r, h => by
    simp only [isZ] at h
    split at h <;> (try cases h)
    rename_i r' h1
    obtain ⟨c1, rfl, k1⟩ := isZ_K (w := w) (S := S) h1
    obtain ⟨c2, rfl, k2⟩ := isZ_K (w := w) (S := S) h
    exact ⟨c1 ++ c2, (List.append_assoc ..).symm, c1, c2, rfl, k1, k2⟩
/-- A slice made long, of zero elements. -/
def fMake (P : Program) (t : TypeId) (x y : SV) (ty : Ty) (nb : Nat) : Option (Cd × AV × Blk) :=
  match P.underlying t with
  | some (.slice e) => match P.info? e with
    | some i => match i.zero, x, y, Nat.beq i.size ty.sz with
      | some z, .int _ l, .int _ c, true => match isZ ty z.cells.toList with
        | some [] => some (⟨(0 ≤ l ∧ l ≤ c) ∧ (i.bytes : Int) * c ≤ 281474976710656 ∧ c ≤ 281474976710656⟩, V (.own nb ty.sz), .row e ty (List.replicate l.toNat ty.d0))
        | _ => none
      | _, _, _, _ => none
    | none => none
  | _ => none
theorem made_get {z : Array Value} {n i : Nat} (h : i < n) : (madeCells z n)[i]? = some z[i % z.size]! := by
  simp [madeCells, h]
theorem fMake_run {P : Program} {t : TypeId} {x y : SV} {ty : Ty} {nb : Nat} {c : Cd} {v : AV} {B : Blk} (h : fMake P t x y ty nb = some (c, v, B)) (hc : c.p) {w : World} {m : Mp} {u u' : Value} (hx : x.R w m u) (hy : y.R w m u') :
    ∃ o' ka le val, (Instr.makeSlice t u u').run P w = .ok val (w.alloc o') ∧ B.R (w.alloc o') (m.set nb w.heap.size ka le false) nb ∧ v.R (w.alloc o') (m.set nb w.heap.size ka le false) val := by
  unfold fMake at h
  split at h <;> (try cases h)
  rename_i e hu
  split at h <;> (try cases h)
  rename_i i hi
  split at h <;> (try cases h)
  rename_i z k l k' c' hz hs
  have hs := Nat.eq_of_beq_eq_true hs
  split at h <;> cases h
  rename_i hzz
  obtain ⟨⟨h0, h1⟩, h2, h3⟩ := hc
  rw [show u = _ from hx, show u' = _ from hy]
  have hr := run_make (P := P) w t e i z hu hi hz k k' l c' h0 h1 h2 (by omega)
  have hsp := Ty.sz_pos ty
  refine ⟨_, (madeCells z.cells (c'.toNat * i.size)).size, (List.replicate l.toNat ty.d0).length, _, hr, row_new ?_ fun j p hj => ?_, CV.R_one ?_⟩
  · rw [size_madeCells, List.length_replicate, hs]
    exact Nat.mul_le_mul_right _ (by omega)
  · obtain ⟨c1, e1, k1⟩ := isZ_K (w := w.alloc (.cells (madeCells z.cells (c'.toNat * i.size)) e)) (S := m.S) hzz
    rw [List.append_nil] at e1
    have hj' : j < l.toNat ∧ p = ty.d0 := by
      rw [List.getElem?_replicate] at hj
      split at hj
      · cases hj; exact ⟨by assumption, rfl⟩
      · cases hj
    obtain ⟨hj1, rfl⟩ := hj'
    have hlen := Ty.K_len ty k1
    refine ⟨c1, k1, fun q uq hq => ?_⟩
    have hq1 : q < c1.length := by
      rcases Nat.lt_or_ge q c1.length with r | r
      · exact r
      · rw [List.getElem?_eq_none r] at hq; cases hq
    have hzs : z.cells.size = ty.sz := by rw [← hlen, ← e1]; simp
    have hlt : j * ty.sz + q < c'.toNat * i.size := by
      have : (j + 1) * ty.sz ≤ c'.toNat * ty.sz := Nat.mul_le_mul_right _ (by omega)
      rw [Nat.add_mul] at this
      rw [hs]
      omega
    have hm := made_get (z := z.cells) hlt
    rw [Array.getElem?_toList, hm, hzs]
    rw [show (j * ty.sz + q) % ty.sz = q by rw [Nat.mul_comm, Nat.mul_add_mod, Nat.mod_eq_of_lt (by omega)]]
    rw [← e1] at hq
    have hq2 : z.cells[q]? = some uq := by simpa using hq
    simp [getElem!_def, hq2]
  · simp only [SV.R, nl_set, mu_set, ka_set, le_set, List.length_replicate, size_madeCells]
    refine ⟨c'.toNat, rfl, by omega, by rw [hs], by simp only [maxLen]; omega⟩
/-- Cells with a part of them told anew. -/
def splice (cs : List SV) (off : Nat) (x : List SV) : Option (List SV) := match decide (off + x.length ≤ cs.length) with | true => some (cs.take off ++ x ++ cs.drop (off + x.length)) | false => none
/-- A store. -/
def fStore (P : Program) (bl : Nat → Option Blk) (t : TypeId) (x : SV) (y : CV) : Option (Nat × Blk) :=
  match szOf P t with
  | some n => match Nat.beq y.l.length n with
    | true => match x with
      | .ptr b off => match bl b with
        | some (.var ty cs) => match splice cs off y.l with | some cs' => some (b, .var ty cs') | none => none
        | _ => none
      | .ep b sz i fo => match bl b with
        | some (.row ty t' l) => match Nat.beq sz t'.sz, splice (enc t' (at_ t' l i)) fo y.l with
          | true, some ec => match dec t' ec with
            | some (e', []) => some (b, .row ty t' (l.set i.toNat e'))
            | _ => none
          | _, _ => none
        | _ => none
      | _ => none
    | false => none
  | none => none
theorem run_storeVar_at {P : Program} {w : World} {g off : Nat} {e t : TypeId} {cur : Array Value} {v : Value} {n : Nat} (hn : szOf P t = some n) (hv : v.cells.toList.length = n) (hg : w.heap[g]? = some (.cells cur e (0, 0))) (hl : off + n ≤ cur.size) (h1 : ∀ u ∈ v.cells.toList, u.oneCell' = true) :
    (storeVar t ⟨g, off, none⟩ v).run P w = .ok () (w.setRow g (cur.toList.take off ++ v.cells.toList ++ cur.toList.drop (off + n)).toArray) := by
  have := run_storeCells_at (P := P) g off e v.cells.toList 0 cur w hg (by omega) h1
  simp only [storeVar, Sem.run_bind, run_szOf hn, Result.andThen_ok]
  rw [if_neg (by simpa using hv)]
  rw [this, Nat.add_zero, hv]
theorem size_setRow (w : World) (g : Nat) (cs : Array Value) : (w.setRow g cs).heap.size = w.heap.size := by simp [World.setRow]
theorem splice_get {cells xs : List Value} {off j : Nat} (h : off + xs.length ≤ cells.length) (hj : j < off ∨ off + xs.length ≤ j) : (cells.take off ++ xs ++ cells.drop (off + xs.length))[j]? = cells[j]? := by
  rcases hj with hj | hj
  · rw [List.append_assoc, List.getElem?_append_left (by simp; omega), List.getElem?_take, if_pos hj]
  · rw [List.getElem?_append_right (by simp; omega), List.getElem?_drop]
    congr 1
    simp
    omega
theorem does_store {P : Program} {o : Oper} {ev : Operand → Option AV} {bl : Nat → Option Blk} {nw : List Nat} {t : TypeId} {a1 a2 : Operand} {x : SV} {y : CV} {b : Nat} {B' : Blk} (ho : o.op = .store t a1 a2) (h1 : sv (ev a1) = some x) (h2 : ev a2 = some (.c y)) (h : fStore P bl t x y = some (b, B')) : Does P o ev bl nw ⟨True, none, [(b, some B')]⟩ := by
  intro E st m a w ok hev hbl hnw hns hd hc K Q hK
  have hx := sv_R h1 (fun u hu => hev a1 u hu)
  have hy := hev a2 _ h2
  have hyc := CV.R_cells hy
  have one := hyc.one
  unfold fStore at h
  split at h <;> (try cases h)
  rename_i n hn
  split at h <;> (try cases h)
  rename_i hyl
  have hyl := Nat.eq_of_beq_eq_true hyl
  have hvl : (a.eval a2).cells.toList.length = n := by rw [← hyc.len]; exact hyl
  have fin : ∀ (b : Nat) (B B' : Blk) (g off : Nat) (e : TypeId) (cur : Array Value), st.b b = some B → m.nl b = false → g = m.mu b → a.eval a1 = .pointer (some ⟨g, off, none⟩) → w.heap[g]? = some (.cells cur e (0, 0)) → off + n ≤ cur.size →
      Blk.R (w.setRow g (cur.toList.take off ++ (a.eval a2).cells.toList ++ cur.toList.drop (off + n)).toArray) m b B' → (∀ a' w' m', OK E (st.app o.dst ⟨True, none, [(b, some B')]⟩) m' a' w' → K a' w') → o.wp P a w K Q := by
    intro b B B' g off e cur hb hnl hg ha hh hle hB hK
    subst hg
    have hr := run_storeVar_at (P := P) hn hvl hh hle one
    have hrun : (execOp a.eval o).run P w = .ok .skip (w.setRow (m.mu b) (cur.toList.take off ++ (a.eval a2).cells.toList ++ cur.toList.drop (off + n)).toArray) := by
      simp [execOp, ho, Instr.storeAt, ha, Instr.sureAddr, hr]
    unfold Oper.wp
    rw [hrun, Oper.upon_skip]
    exact hK _ _ m ((ok.write hb hnl (size_setRow ..) (fun k hk => setRow_other w (m.mu b) k _ hk) hB ⟨rfl, rfl, rfl⟩).put o.dst none undef hd fun x hx => by cases hx)
  have still : ∀ (b : Nat) (B : Blk) (cs : Array Value), st.b b = some B → m.nl b = false → Goes w (w.setRow (m.mu b) cs) m m (fun _ => True) := fun b B cs hb hnl =>
    ⟨fun k hk => setRow_other w _ k _ fun e => (ok.own b B hb hnl).1 (e ▸ hk), fun _ h => h, fun _ _ => rfl, fun _ _ => rfl, fun _ _ => rfl, fun _ _ => rfl⟩
  split at h <;> (try cases h)
  · rename_i b off
    split at h <;> (try cases h)
    rename_i ty cs hB
    split at h <;> cases h
    rename_i cs' hcs
    have hst := hbl b _ hB
    obtain ⟨hnl, cells, q1, q2, q3⟩ := ok.blk b _ hst
    have hfl := q3.len
    unfold splice at hcs
    split at hcs <;> cases hcs
    rename_i hd'
    have hd' := of_decide_eq_true hd'
    refine fin b _ (.var ty (cs.take off ++ y.l ++ cs.drop (off + y.l.length))) _ off ty cells hst hnl rfl hx q1 (by simp at hfl; omega) ⟨hnl, _, setRow_heap w _ cells _ ty _ q1, ?_, ?_⟩ hK
    · rw [← q2]
      simp at hvl ⊢
      simp at hfl
      omega
    · have g := still b _ (cells.toList.take off ++ (a.eval a2).cells.toList ++ cells.toList.drop (off + n)).toArray hst hnl
      have q3' := F2.R_goes g (fun _ _ => trivial) q3
      have hyc' := F2.R_goes g (fun _ _ => trivial) hyc
      have := ((q3'.take off).app hyc').app (q3'.drop (off + y.l.length))
      rw [hyl] at this ⊢
      simpa using this
  · rename_i b sz i fo
    split at h <;> (try cases h)
    rename_i ty t' l hB
    split at h <;> (try cases h)
    rename_i ec hs hec
    have hs := Nat.eq_of_beq_eq_true hs
    subst hs
    split at h <;> cases h
    rename_i e' hde
    have hst := hbl b _ hB
    obtain ⟨p0, p1⟩ := ok.blk b _ hst
    obtain ⟨i0, i1, hv⟩ := hx
    have hil : i.toNat < l.length := by omega
    cases hnl : m.nl b with
    | true => rw [hnl] at p1; subst p1; simp at hil
    | false =>
      rw [hnl] at p1
      obtain ⟨cells, q1, q2, q3, q5⟩ := p1
      unfold splice at hec
      split at hec <;> cases hec
      rename_i hd'
      have hd' := of_decide_eq_true hd'
      obtain ⟨cs, hk, hcell⟩ := q5 _ _ (at_some (t := t') (l := l) i0 (by omega))
      have hcl := Ty.K_len t' hk
      have hencl := (enc_R t' hk).len
      have hmul : (i.toNat + 1) * t'.sz ≤ l.length * t'.sz := Nat.mul_le_mul_right _ (by omega)
      rw [Nat.add_mul] at hmul
      have hfit : i.toNat * t'.sz + fo + n ≤ cells.size := by omega
      have hlen2 : (i.toNat * t'.sz + fo) + (a.eval a2).cells.toList.length ≤ cells.toList.length := by rw [hvl]; simpa using hfit
      have g := still b _ (cells.toList.take (i.toNat * t'.sz + fo) ++ (a.eval a2).cells.toList ++ cells.toList.drop (i.toNat * t'.sz + fo + n)).toArray hst hnl
      refine fin b _ (.row ty t' (l.set i.toNat e')) _ (i.toNat * t'.sz + fo) ty cells hst hnl rfl hv q1 hfit ⟨by rw [List.length_set]; exact p0, ?_⟩ hK
      rw [hnl]
      refine ⟨_, setRow_heap w _ cells _ ty _ q1, ?_, ?_, fun j p hj => ?_⟩
      · rw [← q2]
        simp at hvl ⊢
        omega
      · rw [List.length_set]
        simp at hvl ⊢
        omega
      · by_cases hji : i.toNat = j
        · subst hji
          rw [List.getElem?_set_self hil] at hj
          cases hj
          have hK' := Ty.K_still g.still g.sup t' hk
          have hyc' := F2.R_goes g (fun _ _ => trivial) hyc
          have he := enc_R t' hK'
          have hsp := ((he.take fo).app hyc').app (he.drop (fo + y.l.length))
          obtain ⟨v1, v2, ev, kv, fv⟩ := dec_R t' hde hsp
          match v2, fv with
          | [], _ =>
          rw [List.append_nil] at ev
          refine ⟨v1, kv, fun q uq hq => ?_⟩
          rw [← ev] at hq
          rw [hyl, ← hvl] at hq
          simp only [List.getElem?_toArray]
          rw [← hvl]
          have hqn : q < t'.sz := by
            rcases Nat.lt_or_ge q t'.sz with r | r
            · exact r
            · rw [List.getElem?_eq_none (by simp at hvl ⊢; omega)] at hq; cases hq
          rcases Nat.lt_or_ge q fo with r | r
          · rw [splice_get (by omega) (.inl r)] at hq
            rw [splice_get hlen2 (.inl (by omega))]
            simpa using hcell q uq hq
          · rcases Nat.lt_or_ge q (fo + (a.eval a2).cells.toList.length) with r' | r'
            · rw [List.append_assoc, List.getElem?_append_right (by simp; omega), List.getElem?_append_left (by simp at r' ⊢; omega)] at hq
              rw [List.append_assoc, List.getElem?_append_right (by simp; omega), List.getElem?_append_left (by simp at r' ⊢; omega)]
              rw [← hq]
              congr 1
              simp
              omega
            · rw [splice_get (by omega) (.inr r')] at hq
              rw [splice_get hlen2 (.inr (by omega))]
              simpa using hcell q uq hq
        · rw [List.getElem?_set_ne hji] at hj
          obtain ⟨cs', hk', hcell'⟩ := q5 j p hj
          refine ⟨cs', Ty.K_still g.still g.sup t' hk', fun q uq hq => ?_⟩
          have hq1 : q < t'.sz := by
            rcases Nat.lt_or_ge q t'.sz with r | r
            · exact r
            · rw [List.getElem?_eq_none (by rw [Ty.K_len t' hk']; exact r)] at hq; cases hq
          simp only [List.getElem?_toArray]
          rw [← hvl]
          rw [splice_get hlen2 ?_]
          · simpa using hcell' q uq hq
          · rcases Nat.lt_or_gt_of_ne hji with r | r
            · right
              have : (i.toNat + 1) * t'.sz ≤ j * t'.sz := Nat.mul_le_mul_right _ (by omega)
              rw [Nat.add_mul] at this
              omega
            · left
              have : (j + 1) * t'.sz ≤ i.toNat * t'.sz := Nat.mul_le_mul_right _ (by omega)
              rw [Nat.add_mul] at this
              omega
end Go.Proofs.Ytfjdhdmbbfeigaa.Am
