/- copy. -/
import Derived.Test.YtfjdhdmbbfeigaaAm3
import Derived.Laws.CopyRow
import Derived.Laws.IdiomCopy
namespace Go.Proofs.Ytfjdhdmbbfeigaa.Am
set_option linter.unusedVariables false
set_option linter.unusedSimpArgs false
/-- Elements copied to a place. -/
def cpy {α : Type} (l : List α) (off len : Nat) (s : List α) : List α := l.take off ++ s.take len ++ l.drop (off + min s.length len)
theorem cpy_len {α : Type} {l s : List α} {off len : Nat} (h : off + len ≤ l.length) : (cpy l off len s).length = l.length := by
  unfold cpy
  simp
  omega
theorem cpy_at {α : Type} {l s : List α} {off len j : Nat} (h : off + len ≤ l.length) : (cpy l off len s)[j]? = if j < off then l[j]? else if j < off + min s.length len then s[j - off]? else l[j]? := by
  unfold cpy
  have h1 : (l.take off).length = off := by simp; omega
  have h2 : (s.take len).length = min s.length len := by simp; omega
  split
  · rename_i c
    rw [List.getElem?_append_left (by simp; omega), List.getElem?_append_left (by omega), List.getElem?_take, if_pos c]
  · rename_i c
    split
    · rename_i c2
      rw [List.getElem?_append_left (by rw [List.length_append, h1, h2]; omega), List.getElem?_append_right (by omega), h1, List.getElem?_take, if_pos (by omega)]
    · rename_i c2
      rw [List.getElem?_append_right (by rw [List.length_append, h1, h2]; omega), List.length_append, h1, h2, List.getElem?_drop]
      congr 1
      omega
def copyAt (bl : Nat → Option Blk) : SV → Option (Nat × Nat × Nat × TypeId × (t : Ty) × List t.D)
  | .own b 1 => match bl b with | some (.row ty t l) => some (b, 0, l.length, ty, ⟨t, l⟩) | _ => none
  | .sub b 1 off len => match bl b with | some (.row ty t l) => some (b, off, len, ty, ⟨t, l⟩) | _ => none
  | _ => none
def fCopy (P : Program) (bl : Nat → Option Blk) (tys : List TypeId) (x y : SV) : Option (Nat × Blk × Nat) :=
  match tys, copyAt bl x, y with
  | [dT, sT], some (b, off, len, ty, ⟨t, l⟩), .row t' s => match P.underlying dT, Ty.eq t' t with
    | some (.slice e), some ⟨h⟩ => match szOf P e, Nat.beq t.sz 1 with
      | some 1, true => some (b, .row ty t (cpy l off len (Ty.cast h s)), min s.length len)
      | _, _ => none
    | _, _ => none
  | _, _, _ => none
theorem copyAt_R {bl : Nat → Option Blk} {x : SV} {b off len : Nat} {ty : TypeId} {t : Ty} {l : List t.D} (h : copyAt bl x = some (b, off, len, ty, ⟨t, l⟩)) {w : World} {m : Mp} {v : Value} (hx : x.R w m v) (hb : ∀ b B, bl b = some B → B.R w m b) : bl b = some (.row ty t l) ∧ ((m.nl b = true ∧ v = .slice none 0 0 ∧ len = 0 ∧ l = []) ∨ (m.nl b = false ∧ off + len ≤ l.length ∧ ∃ o cap, v = .slice (some ⟨m.mu b, o, none⟩) len cap ∧ (0 < len → o = off))) := by
  unfold copyAt at h
  split at h <;> (try cases h)
  · rename_i b'
    split at h <;> cases h
    rename_i ty l hB
    refine ⟨hB, ?_⟩
    obtain ⟨h0, h1⟩ := hb _ _ hB
    simp only [SV.R] at hx
    cases hn : m.nl b with
    | true =>
      rw [hn] at hx h1
      exact .inl ⟨rfl, hx, by simp only at h1; subst h1; rfl, h1⟩
    | false =>
      rw [hn] at hx
      obtain ⟨cap, e, -⟩ := hx
      exact .inr ⟨rfl, by omega, 0, cap, by rw [h0]; exact e, fun _ => rfl⟩
  · rename_i b' off' len'
    split at h <;> cases h
    rename_i ty l hB
    refine ⟨hB, ?_⟩
    obtain ⟨h0, h1⟩ := hb _ _ hB
    simp only [SV.R] at hx
    cases hn : m.nl b with
    | true =>
      rw [hn] at hx h1
      obtain ⟨e, e2⟩ := hx
      exact .inl ⟨rfl, e, e2, h1⟩
    | false =>
      rw [hn] at hx
      obtain ⟨o, cap, e, ⟨c1, c2, c3⟩, c4⟩ := hx
      exact .inr ⟨rfl, by omega, o, cap, e, fun q => by have := (c4 (by omega)).1; omega⟩
theorem OK.again {E : Ent} {st : St} {m : Mp} {a : Act} {w : World} (ok : OK E st m a w) {b : Nat} {B : Blk} (hb : st.b b = some B) : OK E (st.setb b (some B)) m a w := by
  have e : ∀ c, (st.setb b (some B)).b c = st.b c := fun c => by
    rw [St.setb_b]
    split
    · rename_i h; subst h; exact hb.symm
    · rfl
  exact ⟨ok.defers.go rfl fun r p => ⟨p.is, p.own, p.noS, fun c C hC => p.no c C (by rw [← e]; exact hC)⟩, ok.tmps, ok.env, fun c C hC => ok.blk c C (by rw [← e]; exact hC), fun c C hC => ok.own c C (by rw [← e]; exact hC), fun c d C D hC hD => ok.inj c d C D (by rw [← e]; exact hC) (by rw [← e]; exact hD), ok.lt, ok.le, ok.frame, ok.sup, ok.new, ok.fix, ok.io⟩
theorem does_copy {P : Program} {o : Oper} {ev : Operand → Option AV} {bl : Nat → Option Blk} {nw : List Nat} {tys : Array TypeId} {a1 a2 : Operand} {x y : SV} {b n : Nat} {B' : Blk} (ho : o.op = .call ⟨.builtin .copy, #[a1, a2], tys⟩) (h1 : sv (ev a1) = some x) (h2 : sv (ev a2) = some y) (h : fCopy P bl tys.toList x y = some (b, B', n)) : Does P o ev bl nw ⟨True, some (V (.int .i64 n)), [(b, some B')]⟩ := by
  intro E st m a w ok hev hbl hnw hns hd hc K Q hK
  have hx := sv_R h1 (fun u hu => hev a1 u hu)
  have hy := sv_R h2 (fun u hu => hev a2 u hu)
  unfold fCopy at h
  split at h <;> (try cases h)
  rename_i dT sT b' off len ty t l t' s htys hcp
  split at h <;> (try cases h)
  rename_i e ht hu _
  subst ht
  split at h <;> cases h
  rename_i he hts
  have hts := Nat.eq_of_beq_eq_true hts
  have hbR : ∀ b B, bl b = some B → B.R w m b := fun b B hB => ok.blk b B (hbl b B hB)
  obtain ⟨hB, hd1⟩ := copyAt_R hcp hx hbR
  have hst := hbl b _ hB
  obtain ⟨A, c, hyv, hrow⟩ := (show ∃ A c, a.eval a2 = .slice A s.length c ∧ Row t'.sz (t'.K w m.S) w m.S A c s from hy)
  have htys' : tys = #[dT, sT] := by rw [← Array.toArray_toList (xs := tys), htys]
  subst htys'
  have hsz : (P.info? e).map (·.size) = some 1 := by
    unfold szOf at he
    split at he <;> (try cases he)
    rename_i i hi
    simp [hi] at he ⊢
    first | exact he | assumption
  have cast : Ty.cast rfl s = s := rfl
  rw [cast] at hK
  obtain ⟨hle, hblk⟩ := ok.blk b _ hst
  have ty0 : TypeId := 0
  by_cases hn0 : min s.length len = 0
  · have hz : cpy l off len s = l := by
      unfold cpy
      have : s.take len = [] := by
        apply List.eq_nil_of_length_eq_zero
        rw [List.length_take]; omega
      rw [this, hn0, List.append_nil, Nat.add_zero, List.take_append_drop]
    have hrun : (execOp a.eval o).run P w = .ok (.value (goInt 0)) w := by
      rcases hd1 with ⟨-, e1, e2, -⟩ | ⟨-, -, o', cap, e1, -⟩
      · have hr := fun ty => run_copy_none (P := P) w dT sT ty e none A 0 0 s.length c hu hsz (by show min _ _ = 0; omega)
        simp [execOp, ho, resolve, invoke, builtin, e1, hyv, hr]
      · have hr := fun ty => run_copy_none (P := P) w dT sT ty e (some ⟨m.mu b, o', none⟩) A len cap s.length c hu hsz hn0
        simp [execOp, ho, resolve, invoke, builtin, e1, hyv, hr]
    unfold Oper.wp
    rw [hrun, Oper.upon_value]
    rw [hz, hn0] at hK
    exact hK _ _ m ((ok.again hst).put o.dst _ _ hd fun x hx => by cases hx; exact CV.R_one rfl)
  · rcases hd1 with ⟨-, -, e2, -⟩ | ⟨hnl, hfit, o', cap, e1, e2⟩
    · omega
    have := e2 (by omega)
    subst this
    rw [hnl] at hblk
    obtain ⟨cells, q1, q2, q3, q4⟩ := hblk
    rw [hts, Nat.mul_one] at q3
    obtain ⟨ad, hA, hS, hcell⟩ := hrow.2.2 (by omega)
    subst hA
    obtain ⟨vs, v1, v2, v3⟩ := flat_cells (sz := t'.sz) (K := t'.K w m.S) (fun p cs h => Ty.K_len t' h) (s.take len) (fun k => w.cell? (ad.add k)) (fun j p hj => by
      rw [List.getElem?_take] at hj
      split at hj
      · exact hcell j p hj
      · cases hj)
    have one := rows_one v1 v3
    rw [hts, Nat.mul_one, List.length_take, Nat.min_comm] at v1
    have hr := fun ty' => run_copy_row (P := P) w dT sT ty' e (m.mu b) o' len cap ad s.length c cells ty vs hu hsz q1 v1 v2 (by rw [v1]; omega) one
    have hrun : (execOp a.eval o).run P w = .ok (.value (goInt vs.length)) (w.setRow (m.mu b) (cells.toList.take o' ++ vs ++ cells.toList.drop (o' + vs.length)).toArray) := by
      simp [execOp, ho, resolve, invoke, builtin, e1, hyv, hr]
    have g : Goes w (w.setRow (m.mu b) (cells.toList.take o' ++ vs ++ cells.toList.drop (o' + vs.length)).toArray) m m (fun _ => True) :=
      ⟨fun k hk => setRow_other w _ k _ fun e => (ok.own b _ hst hnl).1 (e ▸ hk), fun _ h => h, fun _ _ => rfl, fun _ _ => rfl, fun _ _ => rfl, fun _ _ => rfl⟩
    unfold Oper.wp
    rw [hrun, Oper.upon_value]
    have hlen := cpy_len (s := s) hfit
    have csz : cells.toList.length = cells.size := Array.length_toList
    have hB' : Blk.R (w.setRow (m.mu b) (cells.toList.take o' ++ vs ++ cells.toList.drop (o' + vs.length)).toArray) m b (.row ty t' (cpy l o' len s)) := by
      refine ⟨by rw [hlen]; exact hle, ?_⟩
      rw [hnl]
      refine ⟨_, setRow_heap w _ cells _ ty _ q1, by simp; omega, by rw [hlen, hts]; simp; omega, fun j p hj => ?_⟩
      rw [cpy_at hfit] at hj
      have idx : ∀ (cs : List Value), t'.K w m.S p cs → ∀ i u, cs[i]? = some u → i = 0 := fun cs hk i u hi => by
        have := Ty.K_len t' hk
        rcases Nat.lt_or_ge i cs.length with q | q
        · omega
        · rw [List.getElem?_eq_none q] at hi; cases hi
      have tk : (cells.toList.take o').length = o' := by simp; omega
      split at hj
      · rename_i c1
        obtain ⟨cs, hk, hc'⟩ := q4 j p hj
        refine ⟨cs, Ty.K_still g.still g.sup t' hk, fun i u hi => ?_⟩
        have h0 := hc' i u hi
        have hi0 := idx cs hk i u hi
        subst hi0
        rw [hts, Nat.mul_one, Nat.add_zero] at h0 ⊢
        rw [List.getElem?_toArray, List.getElem?_append_left (by rw [List.length_append, tk]; omega), List.getElem?_append_left (by omega), List.getElem?_take, if_pos c1]
        simpa using h0
      · rename_i c1
        split at hj
        · rename_i c2
          obtain ⟨cs, hk, hc'⟩ := v3 (j - o') p (by rw [List.getElem?_take, if_pos (by omega)]; exact hj)
          refine ⟨cs, Ty.K_still g.still g.sup t' hk, fun i u hi => ?_⟩
          have h0 := hc' i u hi
          have hi0 := idx cs hk i u hi
          subst hi0
          rw [hts, Nat.mul_one, Nat.add_zero] at h0 ⊢
          rw [List.getElem?_toArray, List.getElem?_append_left (by rw [List.length_append, tk, v1]; show j < o' + min _ _; omega), List.getElem?_append_right (by omega), tk]
          exact h0
        · rename_i c2
          obtain ⟨cs, hk, hc'⟩ := q4 j p hj
          refine ⟨cs, Ty.K_still g.still g.sup t' hk, fun i u hi => ?_⟩
          have h0 := hc' i u hi
          have hi0 := idx cs hk i u hi
          subst hi0
          rw [hts, Nat.mul_one, Nat.add_zero] at h0 ⊢
          rw [List.getElem?_toArray, List.getElem?_append_right (by rw [List.length_append, tk, v1]; show o' + min _ _ ≤ j; omega), List.length_append, tk, List.getElem?_drop, ← h0, v1]
          rw [← Array.getElem?_toList]
          congr 1
          show o' + min _ _ + (j - (o' + min _ _)) = j
          omega
    exact hK _ _ m ((ok.write hst hnl (size_setRow ..) (fun k hk => setRow_other w (m.mu b) k _ hk) hB' ⟨rfl, rfl, rfl⟩).put o.dst _ _ hd fun x hx => by cases hx; rw [v1]; exact CV.R_one rfl)
end Go.Proofs.Ytfjdhdmbbfeigaa.Am
