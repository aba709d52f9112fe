/- Own slices as slices that are read; nil slices as own ones; regions. -/
import Derived.Test.YteblbknmikieoaaAmN
namespace Go.Proofs.Yteblbknmikieoaa.Am
set_option linter.unusedVariables false
set_option linter.unusedSimpArgs false
def vwBlk (bl : Nat → Option Blk) (vw : List Nat) : Blk → Blk
  | .var ty cs => .var ty (cs.map (vwSV bl vw))
  | .tab l => .tab (l.map fun p => (vwSV bl vw p.1, vwCV bl vw p.2))
  | B => B
theorem vwBlk_R {bl : Nat → Option Blk} {vw : List Nat} {w : World} {m : Mp} (hb : ∀ b B, bl b = some B → B.R w m b) {b : Nat} {B : Blk} (h : B.R w m b) : (vwBlk bl vw B).R w (m.vw bl vw) b := by
  have same := Blk.R_goes (goes_vw w m bl vw) trivial (fun _ => rfl) (fun _ _ => trivial) h
  cases B <;> simp only [vwBlk] <;> (try exact same)
  case var ty cs =>
    obtain ⟨h0, cells, h1, h2, h3⟩ := h
    exact ⟨h0, cells, h1, h2, F2.map _ (h3.imp fun _ _ r => vwSV_R hb r)⟩
  case tab l =>
    obtain ⟨h0, es, cl, h1, h2⟩ := h
    exact ⟨h0, es, cl, h1, F2.map _ (h2.imp fun _ _ r => ⟨vwSV_R hb r.1, vwCV_R hb r.2⟩)⟩
def frzB (bl : Nat → Option Blk) (vw : List Nat) (n : Nat) (x : Option Blk) : Option Blk := match memN n vw with | true => none | false => x.map (vwBlk bl vw)
/-- Blocks of own slices that are never written any more: their slices are told as slices that are read. -/
def frz (vw : List Nat) (st : St) : St :=
  ⟨st.env.map fun p => (p.1, vwAV st.b vw p.2), st.blk.map fun p => (p.1, frzB st.b vw p.1 p.2)⟩
theorem lk_map {α β : Type} (f : Nat → α → β) : ∀ (l : List (Nat × α)) (k : Nat), lk (l.map fun p => (p.1, f p.1 p.2)) k = (lk l k).map (f k)
  | [], k => rfl
  | (n, x) :: r, k => by
    rw [List.map_cons, lk_cons, lk_cons, lk_map f r k]
    split
    · rename_i e; subst e; rfl
    · rfl
theorem frz_sub (vw : List Nat) (st : St) : Sub st (frz vw st) := by
  intro E m a w ok
  have hb : ∀ b B, st.b b = some B → B.R w m b := ok.blk
  have he : ∀ t v, (frz vw st).e t = some v → ∃ u, st.e t = some u ∧ v = vwAV st.b vw u := fun t v h => by
    have h' : lk (st.env.map fun p => (p.1, vwAV st.b vw p.2)) t = some v := h
    rw [lk_map (fun _ x => vwAV st.b vw x)] at h'
    cases hl : lk st.env t with
    | none => rw [hl] at h'; cases h'
    | some u => rw [hl] at h'; exact ⟨u, hl, (Option.some.inj h').symm⟩
  have hbl : ∀ b B, (frz vw st).b b = some B → ∃ C, st.b b = some C ∧ B = vwBlk st.b vw C ∧ b ∉ vw := fun b B h => by
    have h' : (lk (st.blk.map fun p => (p.1, frzB st.b vw p.1 p.2)) b).join = some B := h
    rw [lk_map (frzB st.b vw)] at h'
    cases hl : lk st.blk b with
    | none => rw [hl] at h'; cases h'
    | some x =>
      rw [hl] at h'
      simp only [Option.map_some, Option.join_some, frzB] at h'
      split at h'
      · cases h'
      · rename_i hm
        cases x with
        | none => cases h'
        | some C =>
          refine ⟨C, by unfold St.b; rw [hl]; rfl, (Option.some.inj h').symm, fun hbv => ?_⟩
          rw [memN_iff.2 hbv] at hm
          cases hm
  refine ⟨m.vw st.b vw, ok.defers, ok.tmps, fun t v hv => ?_, fun b B hB => ?_, fun b B hB hn => ?_, fun b c B C hB hC hn hn' e => ?_, fun k hk => ?_, ok.le, ok.frame, fun k hk => .inl (ok.sup k hk), fun k hk => ?_, ok.fix, ok.io⟩
  · obtain ⟨u, hu, rfl⟩ := he t v hv
    exact vwAV_R hb (ok.env t u hu)
  · obtain ⟨C, hC, rfl, -⟩ := hbl b B hB
    exact vwBlk_R hb (ok.blk b C hC)
  · obtain ⟨C, hC, -, hno⟩ := hbl b B hB
    obtain ⟨q1, q2⟩ := ok.own b C hC hn
    refine ⟨fun hs => ?_, q2⟩
    rcases hs with hs | ⟨c, hc, ⟨D, hD⟩, hnc, e⟩
    · exact q1 hs
    · exact hno (by rw [← ok.inj c b D C hD hC hnc hn e]; exact hc)
  · obtain ⟨B', hB', -, -⟩ := hbl b B hB
    obtain ⟨C', hC', -, -⟩ := hbl c C hC
    exact ok.inj b c B' C' hB' hC' hn hn' e
  · rcases hk with hk | ⟨c, hc, ⟨D, hD⟩, hnc, e⟩
    · exact ok.lt k hk
    · rw [← e]; exact Blk.R_lt (ok.blk c D hD) hnc
  · rcases hk with hk | ⟨c, hc, ⟨D, hD⟩, hnc, e⟩
    · exact ok.new k hk
    · rw [← e]; exact .inr ((ok.own c D hD hnc).2)
/-- Names of a state, listed. -/
def allNs (st : St) : List Nat := (st.env.flatMap fun p => p.2.ns) ++ st.blk.flatMap fun p => match p.2 with | some B => p.1 :: B.ns | none => []
theorem has_allNs {st : St} {b : Nat} (h : st.has b) : b ∈ allNs st := by
  rcases h with ⟨t, v, hv, hb⟩ | ⟨B, hB⟩ | ⟨c, B, hB, hb⟩
  · exact List.mem_append_left _ (List.mem_flatMap.2 ⟨_, lk_mem hv, hb⟩)
  all_goals
    unfold St.b at hB
    cases hl : lk st.blk _ with
    | none => rw [hl] at hB; cases hB
    | some x =>
      rw [hl] at hB
      simp only [Option.join_some] at hB
      subst hB
      exact List.mem_append_right _ (List.mem_flatMap.2 ⟨_, lk_mem hl, by simp_all⟩)
def freshN (nb : Nat) (st : St) : Bool := Nat.ble 100 nb && !(memN nb (allNs st))
theorem freshN_of {nb : Nat} {st : St} (h : freshN nb st = true) : ¬ st.has nb ∧ 100 ≤ nb := by
  simp only [freshN, Bool.and_eq_true, Bool.not_eq_true'] at h
  refine ⟨fun hh => ?_, Nat.le_of_ble_eq_true h.1⟩
  rw [memN_iff.2 (has_allNs hh)] at h
  cases h.2
/-- A nil slice as an own one, of no elements: where it stands (a temporary; a cell of a variable). -/
def nilT (t nb : Nat) (e : TypeId) (ty : Ty) (st : St) : Option St :=
  match st.e t, freshN nb st with
  | some (.c ⟨false, [.nilsl]⟩), true => some ((st.put (some t) (some (V (.own nb ty.sz)))).setb nb (some (.row e ty [])))
  | _, _ => none
def nilC (b i nb : Nat) (e : TypeId) (ty : Ty) (st : St) : Option St :=
  match st.b b, freshN nb st with
  | some (.var t cs), true => match cs[i]? with
    | some .nilsl => some ((st.setb b (some (.var t (cs.set i (.own nb ty.sz))))).setb nb (some (.row e ty [])))
    | _ => none
  | _, _ => none
theorem goes_nil {st : St} {m : Mp} {nb : Nat} (hf : ¬ st.has nb) (w : World) : Goes w w m (m.set nb 0 0 0 true) st.has :=
  have ne : ∀ b, st.has b → b ≠ nb := fun b hb e => hf (e ▸ hb)
  ⟨fun _ _ => rfl, fun _ h => h, fun b hb => if_neg (ne b hb), fun b hb => if_neg (ne b hb), fun b hb => if_neg (ne b hb), fun b hb => if_neg (ne b hb)⟩
/-- A nil block more. -/
theorem OK.nil {E : Ent} {st : St} {m : Mp} {a : Act} {w : World} (ok : OK E st m a w) {nb : Nat} (hf : ¬ st.has nb ∧ 100 ≤ nb) (e : TypeId) (ty : Ty) : OK E (st.setb nb (some (.row e ty []))) (m.set nb 0 0 0 true) a w := by
  have g := goes_nil (m := m) hf.1 w
  have key : ∀ c C, (st.setb nb (some (.row e ty []))).b c = some C → c = nb ∧ C = .row e ty [] ∨ c ≠ nb ∧ st.b c = some C := fun c C hC => by
    rw [St.setb_b] at hC
    split at hC
    · rename_i h; exact .inl ⟨h.symm, (Option.some.inj hC).symm⟩
    · rename_i h; exact .inr ⟨Ne.symm h, hC⟩
  have nms : ∀ c C, st.b c = some C → (m.set nb 0 0 0 true).mu c = m.mu c ∧ (m.set nb 0 0 0 true).nl c = m.nl c := fun c C hC => ⟨g.mu c (.inr (.inl ⟨C, hC⟩)), g.nl c (.inr (.inl ⟨C, hC⟩))⟩
  refine ⟨ok.defers, ok.tmps, fun t v hv => AV.R_goes g (fun b hb => .inl ⟨t, v, hv, hb⟩) (ok.env t v hv), fun c C hC => ?_, fun c C hC hn => ?_, fun c d C D hC hD hn hn' hmu => ?_, ok.lt, ok.le, ok.frame, ok.sup, ok.new, fun b hb => by rw [fix_set hf.2 hb]; exact ok.fix b hb, ok.io⟩
  · rcases key c C hC with ⟨rfl, rfl⟩ | ⟨hne, hC⟩
    · exact ⟨(le_set ..).symm, by rw [nl_set]⟩
    · exact Blk.R_goes g (.inr (.inl ⟨C, hC⟩)) (fun _ => rfl) (fun b hb => .inr (.inr ⟨c, C, hC, hb⟩)) (ok.blk c C hC)
  · rcases key c C hC with ⟨rfl, rfl⟩ | ⟨hne, hC⟩
    · rw [nl_set] at hn; cases hn
    · rw [(nms c C hC).2] at hn
      rw [(nms c C hC).1]
      exact ok.own c C hC hn
  · rcases key c C hC with ⟨rfl, rfl⟩ | ⟨hne, hC⟩
    · rw [nl_set] at hn; cases hn
    · rcases key d D hD with ⟨rfl, rfl⟩ | ⟨hne', hD⟩
      · rw [nl_set] at hn'; cases hn'
      · rw [(nms c C hC).2] at hn
        rw [(nms d D hD).2] at hn'
        rw [(nms c C hC).1, (nms d D hD).1] at hmu
        exact ok.inj c d C D hC hD hn hn' hmu
theorem nilT_sub {t nb : Nat} {e : TypeId} {ty : Ty} {st st' : St} (h : nilT t nb e ty st = some st') : Sub st st' := by
  intro E m a w ok
  unfold nilT at h
  split at h <;> cases h
  rename_i h1 h2
  have hf := freshN_of h2
  have hv := ok.env t _ h1
  have hnil : a.tmps.getD t undef = .slice none 0 0 := by
    have := sv_R (o := some (V .nilsl)) (y := .nilsl) rfl (fun u hu => by cases hu; exact hv)
    exact this
  refine ⟨m.set nb 0 0 0 true, ?_⟩
  have ok1 := ok.nil hf e ty
  refine ⟨ok1.defers, ok1.tmps, fun s v hs => ?_, fun c C hC => ok1.blk c C (by rw [St.setb_b] at hC ⊢; rwa [St.put_b] at hC), fun c C hC => ok1.own c C (by rw [St.setb_b] at hC ⊢; rwa [St.put_b] at hC), fun c d C D hC hD => ok1.inj c d C D (by rw [St.setb_b] at hC ⊢; rwa [St.put_b] at hC) (by rw [St.setb_b] at hD ⊢; rwa [St.put_b] at hD), ok1.lt, ok1.le, ok1.frame, ok1.sup, ok1.new, ok1.fix, ok1.io⟩
  have hs' : (st.put (some t) (some (V (.own nb ty.sz)))).e s = some v := hs
  rw [St.put_e] at hs'
  split at hs'
  · rename_i e
    subst e
    cases hs'
    rw [hnil]
    exact CV.R_one (by simp only [SV.R, nl_set])
  · exact ok1.env s v hs'
theorem F2.setL {R : SV → Value → Prop} {l : List SV} {vs : List Value} (h : F2 R l vs) {i : Nat} {x : SV} {v : Value} (hv : vs[i]? = some v) (hr : R x v) : F2 R (l.set i x) vs := by
  have := h.set i hr
  have hs : vs.set i v = vs := by
    apply List.ext_getElem?
    intro j
    rw [List.getElem?_set]
    split
    · rename_i e
      subst e
      split
      · exact hv.symm
      · rename_i h; rw [List.getElem?_eq_none (by omega)]
    · rfl
  rwa [hs] at this
theorem nilC_sub {b i nb : Nat} {e : TypeId} {ty : Ty} {st st' : St} (h : nilC b i nb e ty st = some st') : Sub st st' := by
  intro E m a w ok
  unfold nilC at h
  split at h <;> (try cases h)
  rename_i t cs h1 h2
  split at h <;> cases h
  rename_i hi
  have hf := freshN_of h2
  refine ⟨m.set nb 0 0 0 true, ?_⟩
  have ok1 := ok.nil hf e ty
  have hbn : b ≠ nb := fun e => hf.1 (e ▸ .inr (.inl ⟨_, h1⟩))
  have hst : (st.setb nb (some (.row e ty []))).b b = some (.var t cs) := by rw [St.setb_b, if_neg (Ne.symm hbn)]; exact h1
  have hB := ok1.blk b _ hst
  obtain ⟨q0, cells, q1, q2, q3⟩ := hB
  obtain ⟨v, hv, hr⟩ := q3.get i hi
  have hnew : Blk.R w (m.set nb 0 0 0 true) b (.var t (cs.set i (.own nb ty.sz))) := ⟨q0, cells, q1, q2, q3.setL hv (by
    have hr' : v = .slice none 0 0 := hr
    rw [hr']
    simp only [SV.R, nl_set])⟩
  have ok2 := ok1.write hst q0 rfl (fun _ _ => rfl) hnew (Io.refl _)
  have same : ∀ c, ((st.setb b (some (.var t (cs.set i (.own nb ty.sz))))).setb nb (some (.row e ty []))).b c = ((st.setb nb (some (.row e ty []))).setb b (some (.var t (cs.set i (.own nb ty.sz))))).b c := fun c => by
    rw [St.setb_b, St.setb_b, St.setb_b, St.setb_b]
    by_cases h1 : nb = c
    · subst h1; rw [if_pos rfl, if_neg hbn, if_pos rfl]
    · rw [if_neg h1]
      by_cases h2 : b = c
      · rw [if_pos h2, if_pos h2]
      · rw [if_neg h2, if_neg h2, if_neg h1]
  exact ⟨ok2.defers, ok2.tmps, ok2.env, fun c C hC => ok2.blk c C (by rw [← same]; exact hC), fun c C hC => ok2.own c C (by rw [← same]; exact hC), fun c d C D hC hD => ok2.inj c d C D (by rw [← same]; exact hC) (by rw [← same]; exact hD), ok2.lt, ok2.le, ok2.frame, ok2.sup, ok2.new, ok2.fix, ok2.io⟩
/-- Ways to tell a state anew. -/
inductive Pp where
  | keep (ts : List Nat) (mp : List (Nat × Nat))
  | frz (vw : List Nat)
  | nilT (t nb : Nat) (e : TypeId) (ty : Ty)
  | nilC (b i nb : Nat) (e : TypeId) (ty : Ty)
def pp : List Pp → St → Option St
  | [], st => some st
  | .keep ts mp :: r, st => match pull ts mp st with | some s => pp r s | none => none
  | .frz vw :: r, st => pp r (frz vw st)
  | .nilT t nb e ty :: r, st => match nilT t nb e ty st with | some s => pp r s | none => none
  | .nilC b i nb e ty :: r, st => match nilC b i nb e ty st with | some s => pp r s | none => none
theorem pp_sub : ∀ {l : List Pp} {st st' : St}, pp l st = some st' → Sub st st'
  | [], st, st', h => by cases h; exact .refl _
  | .keep ts mp :: r, st, st', h => by
    simp only [pp] at h
    split at h
    · exact (pull_sub (by assumption)).trans (pp_sub h)
    · cases h
  | .frz vw :: r, st, st', h => (frz_sub vw st).trans (pp_sub h)
  | .nilT t nb e ty :: r, st, st', h => by
    simp only [pp] at h
    split at h
    · exact (nilT_sub (by assumption)).trans (pp_sub h)
    · cases h
  | .nilC b i nb e ty :: r, st, st', h => by
    simp only [pp] at h
    split at h
    · exact (nilC_sub (by assumption)).trans (pp_sub h)
    · cases h
end Go.Proofs.Yteblbknmikieoaa.Am
