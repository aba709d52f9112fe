/- A state told by a template, beside what stays. -/
import Derived.Test.YtfjdhdmbbfeigaaAmR
namespace Go.Proofs.Ytfjdhdmbbfeigaa.Am
set_option linter.unusedVariables false
set_option linter.unusedSimpArgs false
/-- What stays beside. -/
def St.ap (o b : St) : St := ⟨o.env ++ b.env, o.blk ++ b.blk⟩
theorem lk_app {α : Type} : ∀ (l k : List (Nat × α)) (n : Nat), lk (l ++ k) n = match lk l n with | some x => some x | none => lk k n
  | [], k, n => rfl
  | (a, x) :: l, k, n => by
    rw [List.cons_append, lk_cons, lk_cons, lk_app l k n]
    split <;> rfl
def keyN {α : Type} (l : List (Nat × α)) : List Nat := l.map (·.1)
theorem lk_key {α : Type} {l : List (Nat × α)} {n : Nat} {x : α} (h : lk l n = some x) : n ∈ keyN l := List.mem_map.2 ⟨_, lk_mem h, rfl⟩
theorem lk_no {α : Type} {l : List (Nat × α)} {n : Nat} (h : n ∉ keyN l) : lk l n = none := by
  cases e : lk l n with
  | none => rfl
  | some x => exact absurd (lk_key e) h
/-- Two lists of names have no name in common. -/
def disN (l k : List Nat) : Bool := l.all fun b => !(memN b k)
theorem disN_of {l k : List Nat} (h : disN l k = true) {b : Nat} (hb : b ∈ l) : b ∉ k := fun hk => by
  have := List.all_eq_true.1 h b hb
  rw [memN_iff.2 hk] at this
  cases this
theorem St.ap_e {o b : St} {t : Nat} (h : t ∉ keyN o.env) : (o.ap b).e t = b.e t := by
  unfold St.e St.ap
  simp only [lk_app, lk_no h]
theorem St.ap_b {o b : St} {t : Nat} (h : t ∉ keyN o.blk) : (o.ap b).b t = b.b t := by
  unfold St.b St.ap
  simp only [lk_app, lk_no h]
/-- How names go over into a template's: names; nil slices; slices that are read from here on. -/
structure Col where
  mp : List (Nat × Nat)
  nls : List Nat
  vw : List Nat
def Col.add (b c : Nat) (s : Col) : Col := match lk s.mp b with | some _ => s | none => ⟨(b, c) :: s.mp, s.nls, s.vw⟩
def colCap : List (Nat × Nat) → List (Nat × Nat) → Col → Col
  | (c, _) :: r, (b, _) :: q, s => colCap r q (s.add b c)
  | _, _, s => s
def colNs : List Nat → List Nat → Col → Col
  | c :: r, b :: q, s => colNs r q (s.add b c)
  | _, _, s => s
def colS : TS → SV → Col → Col
  | .con (.own c _), .own b _, s | .con (.own c _), .sub b _ _ _, s | .con (.sub c _ _ _), .sub b _ _ _, s | .con (.ptr c _), .ptr b _, s | .con (.map c), .map b, s | .ep c _ _, .ep b _ _ _, s => s.add b c
  | .con (.own c _), .nilsl, s => (match memN c s.nls with | true => s | false => ⟨s.mp, c :: s.nls, s.vw⟩)
  | .con (.fn _ l), .fn _ k, s => colCap l k s
  | .con (.bm _ c _), .bm _ b _, s => s.add b c
  | .con (.yld c l), .yld b k, s => colNs l k (s.add b c)
  | .row _, .own b _, s | .row _, .sub b _ _ _, s | .rp _ _, .ptr b _, s => (match memN b s.vw with | true => s | false => ⟨s.mp, s.nls, b :: s.vw⟩)
  | _, _, s => s
def colL : List TS → List SV → Col → Col
  | T :: r, x :: q, s => colL r q (colS T x s)
  | _, _, s => s
def colT : List (Bool × List TS) → List CV → Col → Col
  | T :: r, x :: q, s => colT r q (colL T.2 x.l s)
  | _, _, s => s
def colA : TA → AV → Col → Col
  | .c _ l, .c x, s => colL l x.l s
  | .t l, .t q, s => colT l q s
  | _, _, s => s
def colE (e : Nat → Option AV) : List (Nat × TA) → Col → Col
  | [], s => s
  | p :: r, s => colE e r (match e p.1 with | some v => colA p.2 v s | none => s)
def colB (bl : Nat → Option Blk) : List (Nat × TB) → Col → Col
  | [], s => s
  | p :: r, s => colB bl r (match lk (inv s.mp) p.1 with
    | some b => match p.2, bl b with | .var _ l, some (.var _ cs) => colL l cs s | .tab _ vs, some (.tab l) => colT vs (l.map (·.2)) s | .lop _ es, some (.lop _ tm _) => colE (lk tm) es s | _, _ => s
    | none => s)
/-- Of a template's names and what is: all of it. A block that the template names and that nothing leads to keeps its name. -/
def colId (bs : List (Nat × TB)) (bl : Nat → Option Blk) (s : Col) : Col := bs.foldl (fun s p => match lk (inv s.mp) p.1, memN p.1 s.nls, bl p.1 with | none, false, some _ => s.add p.1 p.1 | _, _, _ => s) s
def colSt (T : TSt) (e : Nat → Option AV) (bl : Nat → Option Blk) : Col := colB bl T.bs (colId T.bs bl (colE e T.es ⟨[], [], []⟩))
/-- May a state be told so? -/
def tellOk (c : Col) (T : TSt) (ov base : St) : Bool :=
  let bk := keyN base.blk
  mpOk c.mp
  && (c.nls.all (fun n => Nat.ble 100 n && (match lk (inv c.mp) n with | none => true | some _ => false)))
  && (T.bs.all fun p => memN p.1 c.nls || (match lk (inv c.mp) p.1 with | some b => !(memN b c.vw) && !(memN b bk) | none => false))
  && ((allNs base).all fun n => !(memN n c.nls) && (match lk (inv c.mp) n with | some x => Nat.beq x n | none => true))
  && disN bk (keyN ov.blk) && disN bk c.vw && disN (keyN base.env) (keyN ov.env)
def vwO (bl : Nat → Option Blk) (vw : List Nat) (e : Nat → Option AV) (t : Nat) : Option AV := match e t with | some v => some (vwAV bl vw v) | none => none
def vwB (bl : Nat → Option Blk) (vw : List Nat) (b : Nat) : Option Blk := match bl b with | some v => some (vwBlk bl vw v) | none => none
def tell (T : TSt) (ov base : St) {X : Type} (x : X) : Option (T.D X) :=
  match tellOk (colSt T (ov.ap base).e (ov.ap base).b) T ov base with
  | true => getSt (colSt T (ov.ap base).e (ov.ap base).b).mp (colSt T (ov.ap base).e (ov.ap base).b).nls T (vwO (ov.ap base).b (colSt T (ov.ap base).e (ov.ap base).b).vw (ov.ap base).e) (vwB (ov.ap base).b (colSt T (ov.ap base).e (ov.ap base).b).vw) x
  | false => none
def Mp.nils (m : Mp) (l : List Nat) : Mp := { m with nl := fun c => match memN c l with | true => true | false => m.nl c, le := fun c => match memN c l with | true => 0 | false => m.le c }
theorem OK.tell {E : Ent} {st st' : St} {m m' : Mp} {a : Act} {w : World} (ok : OK E st m a w) (src : Nat → Nat) (henv : ∀ t v, st'.e t = some v → v.R w m' (a.tmps.getD t undef))
    (hblk : ∀ c C, st'.b c = some C → C.R w m' c ∧ (m'.nl c = false → (∃ B, st.b (src c) = some B) ∧ m'.mu c = m.mu (src c) ∧ m.nl (src c) = false ∧ ¬ m'.S (m.mu (src c))))
    (hinj : ∀ c d C D, st'.b c = some C → st'.b d = some D → m'.nl c = false → m'.nl d = false → src c = src d → c = d)
    (hS : ∀ k, m'.S k → m.S k ∨ ∃ b B, st.b b = some B ∧ m.nl b = false ∧ m.mu b = k) (hS' : ∀ k, m.S k → m'.S k) (fix : ∀ b, b < 100 → m'.at_ b = m.at_ b) : OK E st' m' a w := by
  refine ⟨ok.defers.go rfl fun r p => ⟨p.is, p.own, fun hs => by
      rcases hS r hs with h | ⟨b, B, hB, hn, e⟩
      · exact p.noS h
      · exact p.no b B hB hn e, fun c C hC hn => by
      obtain ⟨⟨B, hB⟩, h1, h2, -⟩ := (hblk c C hC).2 hn
      rw [h1]
      exact p.no _ B hB h2⟩, ok.tmps, henv, fun c C hC => (hblk c C hC).1, fun c C hC hn => ?_, fun c d C D hC hD hn hn' e => ?_, fun k hk => ?_, ok.le, ok.frame, fun k hk => hS' k (ok.sup k hk), fun k hk => ?_, fun b hb => by rw [fix b hb]; exact ok.fix b hb, ok.io⟩
  · obtain ⟨-, h⟩ := hblk c C hC
    obtain ⟨⟨B, hB⟩, h1, h2, h3⟩ := h hn
    rw [h1]
    exact ⟨h3, (ok.own _ _ hB h2).2⟩
  · obtain ⟨⟨B, hB⟩, h1, h2, -⟩ := (hblk c C hC).2 hn
    obtain ⟨⟨B', hB'⟩, h1', h2', -⟩ := (hblk d D hD).2 hn'
    exact hinj c d C D hC hD hn hn' (ok.inj _ _ _ _ hB hB' h2 h2' (by rw [← h1, ← h1', e]))
  · rcases hS k hk with h | ⟨b, B, hB, hn, e⟩
    · exact ok.lt k h
    · rw [← e]; exact Blk.R_lt (ok.blk b B hB) hn
  · rcases hS k hk with h | ⟨b, B, hB, hn, e⟩
    · exact ok.new k h
    · rw [← e]; exact .inr (ok.own b B hB hn).2
theorem tell_sub {T : TSt} {ov base : St} {X : Type} {x : X} {d : T.D X} (h : tell T ov base x = some d) : Sub (ov.ap base) ((T.mk' d).ap base) := by
  intro E m a w ok
  unfold Am.tell at h
  generalize colSt T (ov.ap base).e (ov.ap base).b = c at h
  split at h <;> (try cases h)
  rename_i hok
  unfold getSt at h
  split at h <;> (try cases h)
  rename_i d' hb
  simp only [tellOk, Bool.and_eq_true] at hok
  obtain ⟨⟨⟨⟨⟨⟨c1, c2⟩, c3⟩, c4⟩, c5⟩, c6⟩, c7⟩ := hok
  have c1' := c1
  simp only [mpOk, Bool.and_eq_true] at c1'
  obtain ⟨n1, n2, n3⟩ := c1'
  have hbR : ∀ b B, (ov.ap base).b b = some B → B.R w m b := ok.blk
  let m1 := m.vw (ov.ap base).b c.vw
  let m' := (m1.re c.mp).nils c.nls
  have inv_of : ∀ b e, lk c.mp b = some e → lk (inv c.mp) e = some b := fun b e he => lk_of_mem (by
    have : (inv c.mp).map (·.1) = c.mp.map (·.2) := by simp [inv]
    rw [this]; exact n2) (List.mem_map.2 ⟨(b, e), lk_mem he, rfl⟩)
  have of_inv : ∀ b e, lk (inv c.mp) e = some b → lk c.mp b = some e := fun b e he => lk_of_mem n1 (by
    obtain ⟨⟨q1, q2⟩, hq, e'⟩ := List.mem_map.1 (lk_mem he)
    simp only [Prod.mk.injEq] at e'
    rw [← e'.1, ← e'.2]
    exact hq)
  have nls_of : ∀ n ∈ c.nls, 100 ≤ n ∧ lk (inv c.mp) n = none := fun n hn => by
    have := List.all_eq_true.1 c2 n hn
    simp only [Bool.and_eq_true] at this
    refine ⟨Nat.le_of_ble_eq_true this.1, ?_⟩
    have := this.2
    split at this
    · assumption
    · cases this
  have tl : Tl m1 m' c.mp c.nls := ⟨fun _ h => h, fun b e he => by
      have hi := inv_of b e he
      have : memN e c.nls = false := by
        cases hm : memN e c.nls with
        | false => rfl
        | true =>
          have := (nls_of e (memN_iff.1 hm)).2
          rw [hi] at this
          cases this
      simp [m', Mp.nils, Mp.re, this, hi], fun e he => by simp [m', Mp.nils, memN_iff.2 he]⟩
  -- names beside are what they were
  have side : ∀ n ∈ allNs base, m'.mu n = m1.mu n ∧ m'.ka n = m1.ka n ∧ m'.le n = m1.le n ∧ m'.nl n = m1.nl n := fun n hn => by
    have := List.all_eq_true.1 c4 n hn
    simp only [Bool.and_eq_true, Bool.not_eq_true'] at this
    have h2 := this.2
    have : (lk (inv c.mp) n).getD n = n := by
      split at h2
      · rename_i x hx; rw [hx]; exact Nat.eq_of_beq_eq_true h2
      · rename_i hx; rw [hx]; rfl
    simp [m', Mp.nils, Mp.re, this, ‹_ ∧ _›]
  have g1 : Goes w w m m1 (fun _ => True) := goes_vw w m _ _
  have g2 : Goes w w m1 m' (fun n => n ∈ allNs base) := ⟨fun _ _ => rfl, fun _ h => h, fun n hn => (side n hn).1, fun n hn => (side n hn).2.1, fun n hn => (side n hn).2.2.1, fun n hn => (side n hn).2.2.2⟩
  obtain ⟨-, kb, rb⟩ := getBs_R n1 hb
  obtain ⟨e1, -, re⟩ := getE_R h
  have vwv : ∀ t u, vwO (ov.ap base).b c.vw (ov.ap base).e t = some u → u.R w m1 (a.tmps.getD t undef) := fun t u hu => by
    unfold vwO at hu
    split at hu <;> cases hu
    rename_i v hv
    exact vwAV_R hbR (ok.env t v hv)
  have vwb : ∀ b B, vwB (ov.ap base).b c.vw b = some B → B.R w m1 b ∧ ∃ C, (ov.ap base).b b = some C := fun b B hB => by
    unfold vwB at hB
    split at hB <;> cases hB
    rename_i C hC
    exact ⟨vwBlk_R hbR (hbR b C hC), C, hC⟩
  -- where an entry of the state told is from
  have ent_e : ∀ t v, ((T.mk' d).ap base).e t = some v → (∃ u, vwO (ov.ap base).b c.vw (ov.ap base).e t = some u ∧ (u.R w m1 (a.tmps.getD t undef) → v.R w m' (a.tmps.getD t undef))) ∨ (base.e t = some v ∧ (ov.ap base).e t = some v) := fun t v hv => by
    unfold St.e St.ap at hv
    simp only [lk_app] at hv
    split at hv
    · rename_i y hy
      cases hv
      obtain ⟨u, hu, r⟩ := re t v (lk_mem hy)
      exact .inl ⟨u, hu, fun h => r tl h⟩
    · exact .inr ⟨hv, by rw [St.ap_e (disN_of c7 (lk_key hv))]; exact hv⟩
  have base_b : ∀ n B, base.b n = some B → n ∈ keyN base.blk ∧ n ∈ allNs base ∧ (ov.ap base).b n = some B := fun n B hB => by
    have hk : n ∈ keyN base.blk := by
      unfold St.b at hB
      cases hl : lk base.blk n with
      | none => rw [hl] at hB; cases hB
      | some x => exact lk_key hl
    exact ⟨hk, has_allNs (.inr (.inl ⟨B, hB⟩)), by rw [St.ap_b (disN_of c5 hk)]; exact hB⟩
  have ent_b : ∀ n C, ((T.mk' d).ap base).b n = some C → (∃ p ∈ T.blk d, p = (n, C)) ∨ base.b n = some C := fun n C hC => by
    unfold St.b St.ap at hC
    simp only [lk_app] at hC
    cases hl : lk (T.mk' d).blk n with
    | none => rw [hl] at hC; exact .inr hC
    | some x =>
      rw [hl] at hC
      simp only [Option.join_some] at hC
      subst hC
      have := lk_mem hl
      obtain ⟨p, hp, e⟩ := List.mem_map.1 this
      obtain ⟨p1, p2⟩ := p
      simp only [Prod.mk.injEq, Option.some.injEq] at e
      exact .inl ⟨_, hp, by rw [e.1, e.2]⟩
  have blkd : T.blk d = (mkB T.bs d').1 := by unfold TSt.blk; rw [e1]
  -- a block of the template: nil, or from one that was
  have src_of : ∀ n C, (n, C) ∈ T.blk d → (n ∈ c.nls ∧ C.R w m' n) ∨ ∃ b B C', n ∉ c.nls ∧ lk (inv c.mp) n = some b ∧ lk c.mp b = some n ∧ (ov.ap base).b b = some B ∧ C.R w m' n ∧ b ∉ c.vw ∧ b ∉ keyN base.blk := fun n C hn => by
    rw [blkd] at hn
    rcases rb n C hn with ⟨h1, h2⟩ | ⟨b, B, h1, h2, h3, h4, h5⟩
    · exact .inl ⟨h1, h2 tl⟩
    · obtain ⟨r1, C', r2⟩ := vwb b B h4
      have hk : n ∈ T.bs.map (·.1) := by rw [← kb]; exact List.mem_map.2 ⟨_, hn, rfl⟩
      obtain ⟨p, hp, e⟩ := List.mem_map.1 hk
      have := List.all_eq_true.1 c3 p hp
      rw [e, h2] at this
      have hm : memN n c.nls = false := by
        cases hm : memN n c.nls with
        | false => rfl
        | true => exact absurd (memN_iff.1 hm) h1
      rw [hm] at this
      simp only [Bool.false_or, Bool.and_eq_true, Bool.not_eq_true'] at this
      refine .inr ⟨b, C', C', h1, h2, h3, r2, h5 tl r1, fun h => ?_, fun h => ?_⟩
      · rw [memN_iff.2 h] at this; cases this.1
      · rw [memN_iff.2 h] at this; cases this.2
  have nlr : ∀ n, n ∉ c.nls → m'.nl n = (m1.re c.mp).nl n := fun n hn => by
    have hm : memN n c.nls = false := by
      cases hm : memN n c.nls with
      | false => rfl
      | true => exact absurd (memN_iff.1 hm) hn
    simp [m', Mp.nils, hm]
  have notS : ∀ b B, (ov.ap base).b b = some B → m.nl b = false → b ∉ c.vw → ¬ m'.S (m.mu b) := fun b B hB hn hv hs => by
    rcases hs with hs | ⟨x, hx, ⟨D, hD⟩, hnx, e⟩
    · exact (ok.own b B hB hn).1 hs
    · exact hv (by rw [← ok.inj x b D B hD hB hnx hn e]; exact hx)
  let src : Nat → Nat := fun n => match memN n (allNs base) with | true => n | false => (lk (inv c.mp) n).getD n
  have src_T : ∀ n b, lk (inv c.mp) n = some b → (n ∈ allNs base → b = n) → src n = b := fun n b h1 h2 => by
    simp only [src]
    split
    · rename_i hm; exact (h2 (memN_iff.1 hm)).symm
    · rw [h1]; rfl
  have baseId : ∀ n b, lk (inv c.mp) n = some b → n ∈ allNs base → b = n := fun n b h1 h2 => by
    have := List.all_eq_true.1 c4 n h2
    simp only [h1, Bool.and_eq_true] at this
    exact Nat.eq_of_beq_eq_true this.2
  have src_B : ∀ n, n ∈ allNs base → src n = n := fun n hn => by
    simp only [src, memN_iff.2 hn]
  refine ⟨m', ok.tell src (fun t v hv => ?_) (fun n C hC => ?_) (fun n k C D hC hD hn hk e => ?_) (fun k hk => ?_) (fun k hk => .inl hk) (fun b hb => ?_)⟩
  · rcases ent_e t v hv with ⟨u, hu, r⟩ | ⟨h1, h2⟩
    · exact r (vwv t u hu)
    · exact AV.R_goes g2 (fun b hb => has_allNs (.inl ⟨t, v, h1, hb⟩)) (AV.R_goes g1 (fun _ _ => trivial) (ok.env t v h2))
  · rcases ent_b n C hC with ⟨p, hp, rfl⟩ | h1
    · rcases src_of n C hp with ⟨h1, h2⟩ | ⟨b, B, C', h1, h2, h3, h4, h5, h6, h7⟩
      · exact ⟨h2, fun hn => by rw [(tl.nil n h1).1] at hn; cases hn⟩
      · rw [src_T n b h2 (baseId n b h2)]
        have ha := tl.at_ b n h3
        refine ⟨h5, fun hn => ?_⟩
        rw [ha.2.2.2] at hn
        exact ⟨⟨B, h4⟩, ha.1, hn, notS b B h4 hn h6⟩
    · obtain ⟨k1, k2, k3⟩ := base_b n C h1
      rw [src_B n k2]
      have ha := side n k2
      refine ⟨Blk.R_goes g2 k2 (fun _ => rfl) (fun b hb => has_allNs (.inr (.inr ⟨n, C, h1, hb⟩))) (Blk.R_goes g1 trivial (fun _ => rfl) (fun _ _ => trivial) (hbR n C k3)), fun hn => ?_⟩
      rw [ha.2.2.2] at hn
      exact ⟨⟨C, k3⟩, ha.1, hn, notS n C k3 hn (disN_of c6 k1)⟩
  · have key : ∀ n C, ((T.mk' d).ap base).b n = some C → m'.nl n = false → (lk c.mp (src n) = some n ∧ src n ∉ keyN base.blk) ∨ (src n = n ∧ n ∈ keyN base.blk) := fun n C hC hn => by
      rcases ent_b n C hC with ⟨p, hp, rfl⟩ | h1
      · rcases src_of n C hp with ⟨h1, h2⟩ | ⟨b, B, C', h1, h2, h3, h4, h5, h6, h7⟩
        · rw [(tl.nil n h1).1] at hn; cases hn
        · rw [src_T n b h2 (baseId n b h2)]
          exact .inl ⟨h3, h7⟩
      · obtain ⟨k1, k2, k3⟩ := base_b n C h1
        exact .inr ⟨src_B n k2, k1⟩
    rcases key n C hC hn with ⟨h1, h2⟩ | ⟨h1, h2⟩ <;> rcases key k D hD hk with ⟨h3, h4⟩ | ⟨h3, h4⟩
    · rw [e, h3] at h1
      exact (Option.some.inj h1).symm
    · exact absurd (by rw [e, h3]; exact h4) h2
    · exact absurd (by rw [← e, h1]; exact h2) h4
    · rw [← h1, ← h3, e]
  · rcases hk with hk | ⟨x, hx, ⟨D, hD⟩, hnx, e⟩
    · exact .inl hk
    · exact .inr ⟨x, D, hD, hnx, e⟩
  · have hnn : memN b c.nls = false := by
      cases hm : memN b c.nls with
      | false => rfl
      | true => have := (nls_of b (memN_iff.1 hm)).1; omega
    have : (lk (inv c.mp) b).getD b = b := by
      cases hl : lk (inv c.mp) b with
      | none => rfl
      | some x =>
        have := List.all_eq_true.1 n3 _ (lk_mem (of_inv x b hl))
        simp only [Bool.or_eq_true] at this
        rcases this with h | h
        · exact Nat.eq_of_beq_eq_true h
        · have := Nat.le_of_ble_eq_true h; omega
    simp [m', m1, Mp.at_, Mp.nils, Mp.re, Mp.vw, hnn, this]
end Go.Proofs.Ytfjdhdmbbfeigaa.Am
