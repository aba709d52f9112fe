/- A call of a function whose contract is known. -/
import Derived.Test.YtfjdhdmbbfeigaaAmK
namespace Go.Proofs.Ytfjdhdmbbfeigaa.Am
set_option linter.unusedVariables false
set_option linter.unusedSimpArgs false
/-- Are all names of a list in another one? -/
def subN (l k : List Nat) : Bool := l.all fun b => memN b k
theorem subN_of {l k : List Nat} (h : subN l k = true) {b : Nat} (hb : b ∈ l) : b ∈ k := memN_iff.1 (List.all_eq_true.1 h b hb)
def nodupN : List Nat → Bool
  | [] => true
  | b :: r => !(memN b r) && nodupN r
theorem lk_of_mem {α : Type} : ∀ {l : List (Nat × α)} {b : Nat} {x : α}, nodupN (l.map (·.1)) = true → (b, x) ∈ l → lk l b = some x
  | [], _, _, _, h => by cases h
  | (c, y) :: r, b, x, hn, h => by
    simp only [List.map_cons, nodupN, Bool.and_eq_true, Bool.not_eq_true'] at hn
    rw [lk_cons]
    rcases List.mem_cons.1 h with h | h
    · cases h; rw [if_pos rfl]
    · split
      · rename_i e
        subst e
        have : memN c (r.map (·.1)) = true := memN_iff.2 (List.mem_map.2 ⟨_, h, rfl⟩)
        rw [hn.1] at this
        cases this
      · exact lk_of_mem hn.2 h
/-- The names of blocks and of values. -/
def keys (bl : List (Nat × Blk)) : List Nat := bl.map (·.1)
def bns (bl : List (Nat × Blk)) : List Nat := bl.flatMap fun p => p.2.ns
/-- Blocks told anew behind a call: what was handed over is gone, what is handed back is there. -/
def callUb (bl bl' : List (Nat × Blk)) : List (Nat × Option Blk) := bl.map (fun p => (p.1, none)) ++ bl'.map (fun p => (p.1, some p.2))
theorem setbs_b (st : St) : ∀ (ub : List (Nat × Option Blk)) (b : Nat), (st.setbs ub).b b = match lk ub.reverse b with | some B => B | none => st.b b := by
  intro ub
  induction ub generalizing st with
  | nil => intro b; rfl
  | cons p ub ih =>
    intro b
    have : (st.setbs (p :: ub)).b b = ((st.setb p.1 p.2).setbs ub).b b := rfl
    rw [this, ih, List.reverse_cons]
    have app : ∀ (l : List (Nat × Option Blk)) (q : Nat × Option Blk), lk (l ++ [q]) b = match lk l b with | some x => some x | none => if q.1 = b then some q.2 else none := by
      intro l q
      obtain ⟨q1, q2⟩ := q
      induction l with
      | nil => rw [List.nil_append, lk_cons]; rfl
      | cons r l ih2 =>
        obtain ⟨r1, r2⟩ := r
        rw [List.cons_append, lk_cons, lk_cons, ih2]
        split <;> rfl
    rw [app]
    cases lk ub.reverse b with
    | some x => rfl
    | none =>
      rw [St.setb_b]
      by_cases h : p.1 = b <;> simp [h]
theorem setbs_e (st : St) (ub : List (Nat × Option Blk)) (t : Nat) : (st.setbs ub).e t = st.e t := by
  induction ub generalizing st with
  | nil => rfl
  | cons p ub ih => exact ih (st.setb p.1 p.2)
theorem callUb_b (st : St) {bl bl' : List (Nat × Blk)} {b : Nat} {B : Blk} (h : (st.setbs (callUb bl bl')).b b = some B) : (b, B) ∈ bl' ∨ (b ∉ keys bl' ∧ b ∉ keys bl ∧ st.b b = some B) := by
  rw [setbs_b] at h
  cases hl : lk (callUb bl bl').reverse b with
  | some x =>
    rw [hl] at h
    simp only at h
    subst h
    have := List.mem_reverse.1 (lk_mem hl)
    rcases List.mem_append.1 this with h1 | h1
    · obtain ⟨p, _, e⟩ := List.mem_map.1 h1; cases e
    · obtain ⟨p, hp, e⟩ := List.mem_map.1 h1
      cases e
      exact .inl hp
  | none =>
    rw [hl] at h
    have none_of : ∀ x, (b, x) ∉ callUb bl bl' := fun x hx => by
      have hx := List.mem_reverse.2 hx
      have : ∀ (l : List (Nat × Option Blk)), lk l b = none → (b, x) ∉ l := by
        intro l
        induction l with
        | nil => intro _ h; cases h
        | cons q l ih =>
          intro h1 h2
          rw [lk_cons] at h1
          split at h1
          · cases h1
          · rename_i hne
            rcases List.mem_cons.1 h2 with e | e
            · cases e; exact hne rfl
            · exact ih h1 e
      exact this _ hl hx
    refine .inr ⟨fun hk => ?_, fun hk => ?_, h⟩
    · obtain ⟨p, hp, e⟩ := List.mem_map.1 hk
      exact none_of (some p.2) (List.mem_append_right _ (List.mem_map.2 ⟨p, hp, by rw [← e]⟩))
    · obtain ⟨p, hp, e⟩ := List.mem_map.1 hk
      exact none_of none (List.mem_append_left _ (List.mem_map.2 ⟨p, hp, by rw [← e]⟩))
/-- What must be so, of names, behind a call. -/
def callOk (vw : List Nat) (bl bl' : List (Nat × Blk)) (res : AV) (nw : List Nat) : Bool :=
  nodupN (keys bl') && subN res.ns (keys bl ++ keys bl') && subN (bns bl') (keys bl ++ keys bl') && ((keys bl').all fun b => memN b (keys bl) || memN b nw) && (vw.all fun b => !(memN b (keys bl))) && (match vw with | [] => true | _ => res.nr && bl'.all fun p => p.2.nr)
def caps (cap : List (Nat × Nat)) : List AV := cap.map fun p => V (.ptr p.1 p.2)
theorem call_ok {P : Program} {E : Ent} {st : St} {m : Mp} {a : Act} {w : World} {bl : Nat → Option Blk} {nw : List Nat} {κ : Key} {us : List AV} {vs : List Value} {vw : List Nat} {cbl cbl' : List (Nat × Blk)} {res : AV}
    (ok : OK E st m a w) (hblk : ∀ b B, bl b = some B → st.b b = some B) (hnw : ∀ n ∈ nw, ¬ st.has n ∧ 100 ≤ n) (hbl : ∀ p ∈ cbl, bl p.1 = some p.2) (hok : callOk vw cbl cbl' res nw = true) (hargs0 : F2 (AV.R w m) us vs) (hc : Spec P κ (us.map (vwAV bl vw)) cbl res cbl') :
    KRun P κ vs w fun e w' => ∃ v m2, e = .returned v ∧ OK E (st.setbs (callUb cbl cbl')) m2 a w' ∧ res.R w' m2 v ∧ ∀ c, st.has c → m2.mu c = m.mu c ∧ m2.nl c = m.nl c := by
  simp only [callOk, Bool.and_eq_true] at hok
  obtain ⟨⟨⟨⟨⟨c1, c2⟩, c3⟩, c4⟩, c5⟩, c6⟩ := hok
  have hbR : ∀ b B, bl b = some B → B.R w m b := fun b B hB => ok.blk b B (hblk b B hB)
  have hst : ∀ p ∈ cbl, st.b p.1 = some p.2 := fun p hp => hblk _ _ (hbl p hp)
  have hargs : F2 (AV.R w (m.vw bl vw)) (us.map (vwAV bl vw)) vs := F2.map _ (F2.imp (fun u v r => vwAV_R hbR r) hargs0)
  -- what may be read is not handed over
  have hvo : ∀ k, VwS m bl vw k → ¬ InO m cbl k := fun k ⟨b, hb, ⟨B, hB⟩, hn, e⟩ ⟨p, hp, hn', e'⟩ => by
    have hbb : b = p.1 := ok.inj b p.1 B p.2 (hblk _ _ hB) (hst p hp) hn hn' (by rw [e, e'])
    have := List.all_eq_true.1 c5 b hb
    have hm : memN b (keys cbl) = true := memN_iff.2 (List.mem_map.2 ⟨p, hp, hbb.symm⟩)
    rw [hm] at this
    cases this
  have gv := goes_vw w m bl vw
  have hcall := hc w (m.vw bl vw) vs hargs (fun p hp => Blk.R_goes gv trivial (fun _ => rfl) (fun _ _ => trivial) (ok.blk _ _ (hst p hp))) (fun p hp hn hs => by
      rcases hs with hs | hs
      · exact (ok.own _ _ (hst p hp) hn).1 hs
      · exact hvo _ hs ⟨p, hp, hn, rfl⟩) (fun p hp q hq hn hn' e => ok.inj _ _ _ _ (hst p hp) (hst q hq) hn hn' e) (fun k hk => by
      rcases hk with hk | ⟨b, hb, ⟨B, hB⟩, hn, e⟩
      · exact ok.lt k hk
      · rw [← e]; exact Blk.R_lt (hbR b B hB) hn)
  refine hcall.mono fun e w' ⟨v, m', he, hres, hb1, hb2, hb3, hlt, hle, hfr, hsup, hnew, hfix, hio⟩ => ?_
  subst he
  -- how names are mapped behind the call
  let S' : Nat → Prop := fun k => m'.S k ∧ ¬ VwS m bl vw k
  let m2 : Mp := ⟨fun c => if c ∈ keys cbl' then m'.mu c else m.mu c, fun c => if c ∈ keys cbl' then m'.ka c else m.ka c, fun c => if c ∈ keys cbl' then m'.le c else m.le c, fun c => if c ∈ keys cbl' then m'.nl c else m.nl c, S'⟩
  have hInO : ∀ k, InO (m.vw bl vw) cbl k ↔ InO m cbl k := fun k => Iff.rfl
  have at_old : ∀ c, c ∈ keys cbl → m'.mu c = m.mu c ∧ m'.ka c = m.ka c ∧ m'.le c = m.le c ∧ m'.nl c = m.nl c := fun c hc' => by
    obtain ⟨p, hp, rfl⟩ := List.mem_map.1 hc'
    have := hfix p hp
    simp only [Mp.at_, Mp.vw, Prod.mk.injEq] at this
    exact this
  have has_old : ∀ c, st.has c → c ∈ keys cbl' → c ∈ keys cbl := fun c hs hk => by
    have := List.all_eq_true.1 c4 c hk
    simp only [Bool.or_eq_true] at this
    rcases this with h | h
    · exact memN_iff.1 h
    · exact absurd hs (hnw c (memN_iff.1 h)).1
  have m2_has : ∀ c, st.has c → m2.mu c = m.mu c ∧ m2.ka c = m.ka c ∧ m2.le c = m.le c ∧ m2.nl c = m.nl c := fun c hs => by
    by_cases hk : c ∈ keys cbl'
    · have := at_old c (has_old c hs hk)
      simp only [m2, if_pos hk]
      exact this
    · simp [m2, hk]
  have m2_new : ∀ c, c ∈ keys cbl ++ keys cbl' → m2.mu c = m'.mu c ∧ m2.ka c = m'.ka c ∧ m2.le c = m'.le c ∧ m2.nl c = m'.nl c := fun c hc' => by
    by_cases hk : c ∈ keys cbl'
    · simp [m2, hk]
    · have := at_old c ((List.mem_append.1 hc').resolve_right hk)
      simp only [m2, if_neg hk]
      exact ⟨this.1.symm, this.2.1.symm, this.2.2.1.symm, this.2.2.2.symm⟩
  have hSO : ∀ k, m.S k → ¬ InO m cbl k := fun k hk ⟨p, hp, hn, e⟩ => (ok.own _ _ (hst p hp) hn).1 (e ▸ hk)
  have hSV : ∀ k, m.S k → ¬ VwS m bl vw k := fun k hk ⟨b, hb, ⟨B, hB⟩, hn, e⟩ => (ok.own _ _ (hblk _ _ hB) hn).1 (e ▸ hk)
  have g : Goes w w' m m2 st.has := ⟨fun k hk => hfr k (ok.lt k hk) (hSO k hk), fun k hk => ⟨hsup k (.inl hk), hSV k hk⟩, fun b hb => (m2_has b hb).1, fun b hb => (m2_has b hb).2.1, fun b hb => (m2_has b hb).2.2.1, fun b hb => (m2_has b hb).2.2.2⟩
  -- results, and blocks handed back, under the new map
  have g2 : Goes w' w' ({ m' with S := S' } : Mp) m2 (fun c => c ∈ keys cbl ++ keys cbl') := ⟨fun _ _ => rfl, fun _ h => h, fun b hb => (m2_new b hb).1, fun b hb => (m2_new b hb).2.1, fun b hb => (m2_new b hb).2.2.1, fun b hb => (m2_new b hb).2.2.2⟩
  have g3 : vw = [] → Goes w' w' m' m2 (fun c => c ∈ keys cbl ++ keys cbl') := fun hv => ⟨fun _ _ => rfl, fun k hk => ⟨hk, fun ⟨b, hb, _⟩ => by rw [hv] at hb; cases hb⟩, fun b hb => (m2_new b hb).1, fun b hb => (m2_new b hb).2.1, fun b hb => (m2_new b hb).2.2.1, fun b hb => (m2_new b hb).2.2.2⟩
  have hres2 : res.R w' m2 v := by
    have hn : ∀ c ∈ res.ns, c ∈ keys cbl ++ keys cbl' := fun c hc' => subN_of c2 hc'
    cases hv : vw with
    | nil => exact AV.R_goes (g3 hv) hn hres
    | cons b r =>
      rw [hv] at c6
      simp only [Bool.and_eq_true] at c6
      exact AV.R_goes g2 hn (AV.R_S S' c6.1 hres)
  have hb2' : ∀ p ∈ cbl', p.2.R w' m2 p.1 := fun p hp => by
    have hkey : p.1 ∈ keys cbl ++ keys cbl' := List.mem_append_right _ (List.mem_map.2 ⟨p, hp, rfl⟩)
    have hn : ∀ c ∈ p.2.ns, c ∈ keys cbl ++ keys cbl' := fun c hc' => subN_of c3 (List.mem_flatMap.2 ⟨p, hp, hc'⟩)
    cases hv : vw with
    | nil => exact Blk.R_goes (g3 hv) hkey (fun _ => rfl) hn (hb1 p hp)
    | cons b r =>
      rw [hv] at c6
      simp only [Bool.and_eq_true] at c6
      exact Blk.R_goes g2 hkey (fun _ => rfl) hn (Blk.R_S S' (List.all_eq_true.1 c6.2 p hp) (hb1 p hp))
  have hkey' : ∀ {c C}, (c, C) ∈ cbl' → c ∈ keys cbl' := fun hp => List.mem_map.2 ⟨_, hp, rfl⟩
  have m2k : ∀ c, c ∈ keys cbl' → m2.mu c = m'.mu c ∧ m2.nl c = m'.nl c := fun c hk => ⟨(m2_new c (List.mem_append_right _ hk)).1, (m2_new c (List.mem_append_right _ hk)).2.2.2⟩
  have far : ∀ c C, c ∉ keys cbl → st.b c = some C → m.nl c = false → ¬ InO m cbl (m.mu c) := fun c C hk hC hn ⟨p, hp, hn', e⟩ => hk (List.mem_map.2 ⟨p, hp, (ok.inj c p.1 C p.2 hC (hst p hp) hn hn' e.symm).symm⟩)
  have ok2 : OK E (st.setbs (callUb cbl cbl')) m2 a w' := by
    have notS : ∀ r, Prot E st m w r → ¬ m'.S r := fun r p hs => by
      rcases hnew r hs with h2 | h2 | ⟨q, hq, hn, e⟩
      · rcases h2 with h2 | ⟨b, hb, ⟨B, hB⟩, hn, e⟩
        · exact p.noS h2
        · exact p.no b B (hblk _ _ hB) hn e
      · have := p.lt; omega
      · exact p.no q.1 q.2 (hst q hq) hn e
    refine ⟨ok.defers.go rfl fun r p => ⟨by
      rw [hfr r p.lt fun ⟨q, hq, hn, e⟩ => p.no q.1 q.2 (hst q hq) hn e]
      exact p.is, p.own, fun hs => notS r p hs.1, fun c C hC hn => by
      rcases callUb_b st hC with h1 | ⟨k1, k2, h1⟩
      · have a1 := m2k c (hkey' h1)
        rw [a1.2] at hn
        rw [a1.1]
        obtain ⟨-, q2⟩ := hb2 _ h1 hn
        rcases q2 with q2 | ⟨q, hq, hn', e⟩
        · have := p.lt; simp only at q2; omega
        · simp only at e
          rw [← e]
          exact p.no q.1 q.2 (hst q hq) hn'
      · have hm := m2_has c (.inr (.inl ⟨C, h1⟩))
        rw [hm.2.2.2] at hn
        rw [hm.1]
        exact p.no c C h1 hn⟩, ok.tmps, fun t u hu => ?_, fun c C hC => ?_, fun c C hC hn => ?_, fun c d C D hC hD hn hn' hmu => ?_, fun k hk => hlt k hk.1, by have := ok.le; omega, fun k hk hO => ?_, fun k hk => ⟨hsup k (.inl (ok.sup k hk)), hSV k (ok.sup k hk)⟩, fun k hk => ?_, fun b hb => ?_, ok.io.trans hio⟩
    · rw [setbs_e] at hu
      exact AV.R_goes g (fun b hb => .inl ⟨t, u, hu, hb⟩) (ok.env t u hu)
    · rcases callUb_b st hC with h1 | ⟨k1, k2, h1⟩
      · exact hb2' _ h1
      · exact Blk.R_goes g (.inr (.inl ⟨C, h1⟩)) (fun hn => hfr _ (Blk.R_lt (ok.blk c C h1) hn) (far c C k2 h1 hn)) (fun b hb => .inr (.inr ⟨c, C, h1, hb⟩)) (ok.blk c C h1)
    · rcases callUb_b st hC with h1 | ⟨k1, k2, h1⟩
      · have hk := hkey' h1
        rw [(m2k c hk).2] at hn
        rw [(m2k c hk).1]
        obtain ⟨q1, q2⟩ := hb2 _ h1 hn
        refine ⟨fun hs => q1 hs.1, ?_⟩
        rcases q2 with q2 | ⟨p, hp, hn', e⟩
        · exact .inl (Nat.le_trans ok.le q2)
        · have := (ok.own _ _ (hst p hp) hn').2
          rw [show m'.mu c = m.mu p.1 from e.symm]
          exact this
      · have hm := m2_has c (.inr (.inl ⟨C, h1⟩))
        rw [hm.2.2.2] at hn
        rw [hm.1]
        obtain ⟨q1, q2⟩ := ok.own c C h1 hn
        refine ⟨fun hs => ?_, q2⟩
        rcases hnew _ hs.1 with h2 | h2 | h2
        · rcases h2 with h2 | h2
          · exact q1 h2
          · exact hs.2 h2
        · have := Blk.R_lt (ok.blk c C h1) hn
          omega
        · exact far c C k2 h1 hn h2
    · have mix : ∀ c d C D, (c, C) ∈ cbl' → d ∉ keys cbl → st.b d = some D → m'.nl c = false → m.nl d = false → m'.mu c ≠ m.mu d := fun c d C D h1 hk hD hn hn' e => by
        obtain ⟨-, q2⟩ := hb2 _ h1 hn
        rcases q2 with q2 | q2
        · have := Blk.R_lt (ok.blk d D hD) hn'
          simp only at q2
          omega
        · simp only at q2
          rw [e] at q2
          exact far d D hk hD hn' q2
      rcases callUb_b st hC with h1 | ⟨k1, k2, h1⟩ <;> rcases callUb_b st hD with h3 | ⟨k3, k4, h3⟩
      · have a1 := m2k c (hkey' h1)
        have a2 := m2k d (hkey' h3)
        rw [a1.2] at hn; rw [a2.2] at hn'; rw [a1.1, a2.1] at hmu
        exact hb3 _ h1 _ h3 hn hn' hmu
      · have a1 := m2k c (hkey' h1)
        have a2 := m2_has d (.inr (.inl ⟨D, h3⟩))
        rw [a1.2] at hn; rw [a2.2.2.2] at hn'; rw [a1.1, a2.1] at hmu
        exact absurd hmu (mix c d C D h1 k4 h3 hn hn')
      · have a1 := m2_has c (.inr (.inl ⟨C, h1⟩))
        have a2 := m2k d (hkey' h3)
        rw [a1.2.2.2] at hn; rw [a2.2] at hn'; rw [a1.1, a2.1] at hmu
        exact absurd hmu.symm (mix d c D C h3 k2 h1 hn' hn)
      · have a1 := m2_has c (.inr (.inl ⟨C, h1⟩))
        have a2 := m2_has d (.inr (.inl ⟨D, h3⟩))
        rw [a1.2.2.2] at hn; rw [a2.2.2.2] at hn'; rw [a1.1, a2.1] at hmu
        exact ok.inj c d C D h1 h3 hn hn' hmu
    · rw [hfr k (by have := ok.le; omega) fun ⟨p, hp, hn, e⟩ => ?_]
      · exact ok.frame k hk hO
      · have := (ok.own _ _ (hst p hp) hn).2
        rw [show m.mu p.1 = k from e] at this
        rcases this with h1 | h1
        · omega
        · exact hO h1
    · rcases hnew k hk.1 with h2 | h2 | ⟨p, hp, hn, e⟩
      · rcases h2 with h2 | h2
        · exact ok.new k h2
        · exact absurd h2 hk.2
      · exact .inr (.inl (by have := ok.le; omega))
      · have := (ok.own _ _ (hst p hp) hn).2
        rw [show m.mu p.1 = k from e] at this
        exact .inr this
    · rw [← ok.fix b hb]
      by_cases hk : b ∈ keys cbl'
      · have hkc : b ∈ keys cbl := by
          have := List.all_eq_true.1 c4 b hk
          simp only [Bool.or_eq_true] at this
          rcases this with h | h
          · exact memN_iff.1 h
          · have := (hnw b (memN_iff.1 h)).2
            omega
        have := at_old b hkc
        simp only [Mp.at_, m2, if_pos hk, this.1, this.2.1, this.2.2.1, this.2.2.2]
      · simp only [Mp.at_, m2, if_neg hk]
  exact ⟨v, m2, rfl, ok2, hres2, fun c hs => ⟨(m2_has c hs).1, (m2_has c hs).2.2.2⟩⟩
theorem mapO_R {w : World} {m : Mp} {a : Act} {ev : Operand → Option AV} (hev : ∀ x u, ev x = some u → u.R w m (a.eval x)) : ∀ {l : List Operand} {us : List AV}, mapO ev l = some us → F2 (AV.R w m) us (l.map a.eval)
  | [], us, h => by cases h; trivial
  | x :: l, us, h => by
    simp only [mapO] at h
    split at h <;> cases h
    rename_i u us' h1 h2
    exact ⟨hev x u h1, mapO_R hev h2⟩
theorem caps_R (w : World) (m : Mp) : ∀ cap : List (Nat × Nat), F2 (AV.R w m) (caps cap) (cap.map fun p => Value.pointer (some ⟨m.mu p.1, p.2, none⟩))
  | [] => trivial
  | p :: cap => ⟨CV.R_one rfl, caps_R w m cap⟩
theorem does_call {P : Program} {o : Oper} {ev : Operand → Option AV} {bl : Nat → Option Blk} {nw : List Nat} {fo : Operand} {ops : Array Operand} {tys : Array TypeId} {f : FuncId} {fn : Func} {cap : List (Nat × Nat)} {us : List AV} {vw : List Nat} {cbl cbl' : List (Nat × Blk)} {res : AV}
    (ho : o.op = .call ⟨.value fo, ops, tys⟩) (hf : sv (ev fo) = some (.fn f cap)) (hfn : P.funcs[f]? = some fn) (hnm : (fn.name == "runtime.NumGoroutine") = false) (hbd : fn.body.isSome = true) (hus : mapO ev ops.toList = some us) (hbl : ∀ p ∈ cbl, bl p.1 = some p.2) (hok : callOk vw cbl cbl' res nw = true) :
    Does P o ev bl nw (@Out.mk (Spec P (.fn f) ((us ++ caps cap).map (vwAV bl vw)) cbl res cbl') (some res) (callUb cbl cbl') (Classical.propDecidable _)) := by
  intro E st m a w ok hev hblk hnw hns hd hc K Q hK
  have hfv := sv_R hf (fun u hu => hev fo u hu)
  simp only [SV.R] at hfv
  let vs : List Value := ops.toList.map a.eval ++ cap.map fun p => Value.pointer (some ⟨m.mu p.1, p.2, none⟩)
  have hcall := call_ok ok hblk hnw hbl hok (F2.app (mapO_R hev hus) (caps_R w m cap)) hc
  have hrun : (execOp a.eval o).run P w = .ok (.enter f vs.toArray) w := by
    have hargsEq : ops.map a.eval ++ (cap.map fun p => Value.pointer (some ⟨m.mu p.1, p.2, none⟩)).toArray = vs.toArray := by
      apply Array.ext'
      simp [vs]
    have hb' : fn.body.isNone = false := by cases h : fn.body <;> simp_all
    simp only [execOp, ho, resolve, hfv, Deferred.ofValue, Sem.run_bind, Sem.run_pure, Result.andThen_ok, invoke, Array.empty_append, hargsEq, callFunc, run_program, hfn, hnm, hb', Bool.false_eq_true, if_false]
  unfold Oper.wp
  rw [hrun, Oper.upon_enter]
  refine Calls.mono hcall fun e w' ⟨v, m2, he, ok2, hres2, _⟩ => ?_
  subst he
  exact hK _ _ m2 (ok2.put o.dst (some res) v hd fun q hq => by cases hq; exact hres2)
theorem does_callB {P : Program} {o : Oper} {ev : Operand → Option AV} {bl : Nat → Option Blk} {nw : List Nat} {fo : Operand} {ops : Array Operand} {tys : Array TypeId} {f : FuncId} {fn : Func} {b off : Nat} {us : List AV} {vw : List Nat} {cbl cbl' : List (Nat × Blk)} {res : AV}
    (ho : o.op = .call ⟨.value fo, ops, tys⟩) (hf : sv (ev fo) = some (.bm f b off)) (hfn : P.funcs[f]? = some fn) (hnm : (fn.name == "runtime.NumGoroutine") = false) (hbd : fn.body.isSome = true) (hus : mapO ev ops.toList = some us) (hbl : ∀ p ∈ cbl, bl p.1 = some p.2) (hok : callOk vw cbl cbl' res nw = true) :
    Does P o ev bl nw (@Out.mk (Spec P (.fn f) ((V (.ptr b off) :: us).map (vwAV bl vw)) cbl res cbl') (some res) (callUb cbl cbl') (Classical.propDecidable _)) := by
  intro E st m a w ok hev hblk hnw hns hd hc K Q hK
  have hfv := sv_R hf (fun u hu => hev fo u hu)
  simp only [SV.R] at hfv
  let vs : List Value := Value.pointer (some ⟨m.mu b, off, none⟩) :: ops.toList.map a.eval
  have hcall := call_ok ok hblk hnw hbl hok (us := V (.ptr b off) :: us) (vs := vs) ⟨CV.R_one rfl, mapO_R hev hus⟩ hc
  have hrun : (execOp a.eval o).run P w = .ok (.enter f vs.toArray) w := by
    have hargsEq : #[Value.pointer (some ⟨m.mu b, off, none⟩)] ++ ops.map a.eval ++ #[] = vs.toArray := by
      apply Array.ext'
      simp [vs]
    have hb' : fn.body.isNone = false := by cases h : fn.body <;> simp_all
    simp only [execOp, ho, resolve, hfv, Deferred.ofValue, Sem.run_bind, Sem.run_pure, Result.andThen_ok, invoke, hargsEq, callFunc, run_program, hfn, hnm, hb', Bool.false_eq_true, if_false]
  unfold Oper.wp
  rw [hrun, Oper.upon_enter]
  refine Calls.mono hcall fun e w' ⟨v, m2, he, ok2, hres2, _⟩ => ?_
  subst he
  exact hK _ _ m2 (ok2.put o.dst (some res) v hd fun q hq => by cases hq; exact hres2)
end Go.Proofs.Ytfjdhdmbbfeigaa.Am
