/- Regions, executed: what they ask for, where they part, what they call. -/
import Derived.Test.YtfjdhdmbbfeigaaAmT
namespace Go.Proofs.Ytfjdhdmbbfeigaa.Am
set_option linter.unusedVariables false
set_option linter.unusedSimpArgs false
/-- If so, go on; else nothing is told. -/
def ask {α : Type} (c : Prop) [Decidable c] (x : Option α) : Option α := if c then x else none
theorem ask_some {α : Type} {c : Prop} [Decidable c] {x : Option α} {r : α} : ask c x = some r ↔ c ∧ x = some r := by
  unfold ask
  split
  · rename_i h; exact ⟨fun q => ⟨h, q⟩, fun q => q.2⟩
  · rename_i h; exact ⟨(fun q => by cases q), fun q => absurd q.1 h⟩
theorem ask_of {α : Type} {c : Prop} [Decidable c] {x : Option α} (h : c) : ask c x = x := by unfold ask; rw [if_pos h]
/-- A loop of at most so many rounds. -/
def iter {α β : Type} (F : (α → Option β) → α → Option β) : Nat → α → Option β
  | 0, _ => none
  | n + 1, d => F (iter F n) d
def colAs : List TA → List AV → Col → Col
  | T :: r, x :: q, s => colAs r q (colA T x s)
  | _, _, s => s
def blOf (bl : Nat → Option Blk) (b : Nat) : Option (Nat × Blk) := match bl b with | some B => some (b, B) | none => none
/-- New names for what a call hands back. -/
def moOf : List (Nat × TB) → Nat → List (Nat × Nat) → List (Nat × Nat)
  | [], _, mo => mo
  | p :: r, nm, mo => match lk mo p.1 with | some _ => moOf r nm mo | none => moOf r (nm + 1) ((p.1, nm) :: mo)
def handOk (mp mo : List (Nat × Nat)) (bs : List (Nat × TB)) (ks : List Nat) : Bool :=
  ks.all fun b => match lk mp b with | some c => memN c (keyN bs) && (match lk mo c with | some x => Nat.beq x b | none => false) | none => false
section
variable {P : Program}
def preC (C : Ctr P) (us : List AV) (bl : Nat → Option Blk) : Option (Col × List (Nat × Blk) × C.s.I) :=
  match mapO (fun p : Nat × TB => match lk (inv (colB bl C.s.bs (colAs C.s.ar us ⟨[], [], []⟩)).mp) p.1 with | some b => blOf bl b | none => none) C.s.bs with
  | some cbl => match getBs (colB bl C.s.bs (colAs C.s.ar us ⟨[], [], []⟩)).mp [] (lk cbl) C.s.bs () with
    | some d' => match getAs (colB bl C.s.bs (colAs C.s.ar us ⟨[], [], []⟩)).mp [] C.s.ar (us.map (vwAV bl (colB bl C.s.bs (colAs C.s.ar us ⟨[], [], []⟩)).vw)) d' with
      | some d => some (colB bl C.s.bs (colAs C.s.ar us ⟨[], [], []⟩), cbl, d)
      | none => none
    | none => none
  | none => none
def finC (C : Ctr P) (c : Col) (cbl : List (Nat × Blk)) (nm : Nat) (r : C.s.O) : Option An :=
  match mpN c.mp, mpN (moOf C.s.ob nm (inv c.mp)), handOk c.mp (moOf C.s.ob nm (inv c.mp)) C.s.bs (keyN cbl), reAV (moOf C.s.ob nm (inv c.mp)) (C.s.res r), reBs (moOf C.s.ob nm (inv c.mp)) (C.s.bl' r) with
  | true, true, true, some res, some cbl2 => some (.co c.vw (keyN cbl) res cbl2)
  | _, _, _, _, _ => none
def tryC {R : Type} (f : Key) (us : List AV) (nm : Nat) (bl : Nat → Option Blk) (k : An → Option R) : List (Ctr P) → Option R
  | [] => none
  | C :: r => match Key.beq C.f f with
    | true => match preC C us bl with
      | some (c, cbl, d) => (C.run d).bind fun x => match finC C c cbl nm x with | some an => k an | none => none
      | none => tryC f us nm bl k r
    | false => tryC f us nm bl k r
theorem mapO_blOf {bl : Nat → Option Blk} : ∀ {cbl : List (Nat × Blk)}, (∀ p ∈ cbl, bl p.1 = some p.2) → mapO (blOf bl) (keyN cbl) = some cbl
  | [], _ => rfl
  | (b, B) :: r, h => by
    have h1 : bl b = some B := h (b, B) List.mem_cons_self
    have ih := mapO_blOf (cbl := r) fun p hp => h p (List.mem_cons_of_mem _ hp)
    show mapO (blOf bl) (b :: keyN r) = _
    simp only [mapO, blOf, h1, ih]
theorem tryC_ok {R : Type} {f : Key} {us : List AV} {nm : Nat} {bl : Nat → Option Blk} {k : An → Option R} {r : R} : ∀ {Γ : List (Ctr P)}, tryC f us nm bl k Γ = some r → ∃ vw hs res cbl2, k (.co vw hs res cbl2) = some r ∧ ∀ cbl, mapO (blOf bl) hs = some cbl → Spec P f (us.map (vwAV bl vw)) cbl res cbl2
  | [], h => by cases h
  | C :: Γ, h => by
    simp only [tryC] at h
    split at h
    · rename_i hf
      have hf := Key.of_beq hf
      subst hf
      split at h
      · rename_i c cbl d hp
        rw [Option.bind_eq_some_iff] at h
        obtain ⟨x, hr, h⟩ := h
        split at h <;> (try cases h)
        rename_i an han
        unfold finC at han
        split at han <;> cases han
        rename_i res cbl2 h1 h2 h3 h4 h5
        refine ⟨_, _, _, _, h, fun cbl' hc => ?_⟩
        unfold preC at hp
        split at hp <;> (try cases hp)
        rename_i cbl0 hm
        split at hp <;> (try cases hp)
        rename_i d' hd'
        split at hp <;> cases hp
        rename_i hd
        have hm' : ∀ p ∈ cbl, bl p.1 = some p.2 := fun p hp => by
          obtain ⟨q, hq, e⟩ := mapO_mem hm p hp
          split at e
          · unfold blOf at e
            split at e <;> cases e
            assumption
          · cases e
        rw [mapO_blOf hm'] at hc
        cases hc
        exact C.conv h1 h2 hd' hd h3 hr h4 h5
      · exact tryC_ok h
    · exact tryC_ok h
end
def tyE (P : Program) (t : TypeId) : Option Ty := match P.underlying t with | some (.slice e) => tyO P 20 e | _ => none
def isGuard (ops : List Oper) (i : Nat) : Bool := ops.any fun o => match o.guard with | some (j, _) => Nat.beq j i | none => false
/-- The overlay, with own slices told as slices that are read. -/
def frzO (vw : List Nat) (ov base : St) : St := ⟨ov.env.map fun p => (p.1, vwAV (ov.ap base).b vw p.2), ov.blk.map fun p => (p.1, frzB (ov.ap base).b vw p.1 p.2)⟩
theorem vwSV_ns {bl : Nat → Option Blk} {vw : List Nat} {x : SV} {b : Nat} (h : b ∈ (vwSV bl vw x).ns) : b ∈ x.ns := by
  unfold vwSV at h
  repeat' split at h
  all_goals first | exact h | (simp only [SV.ns, List.not_mem_nil] at h)
theorem vwAV_ns {bl : Nat → Option Blk} {vw : List Nat} {x : AV} {b : Nat} (h : b ∈ (vwAV bl vw x).ns) : b ∈ x.ns := by
  have cv : ∀ x : CV, b ∈ (vwCV bl vw x).ns → b ∈ x.ns := fun x h => by
    obtain ⟨y, hy, hb⟩ := List.mem_flatMap.1 h
    obtain ⟨z, hz, rfl⟩ := List.mem_map.1 hy
    exact List.mem_flatMap.2 ⟨z, hz, vwSV_ns hb⟩
  cases x with
  | c x => exact cv x h
  | t xs =>
    obtain ⟨y, hy, hb⟩ := List.mem_flatMap.1 h
    obtain ⟨z, hz, rfl⟩ := List.mem_map.1 hy
    exact List.mem_flatMap.2 ⟨z, hz, cv z hb⟩
theorem vwBlk_ns {bl : Nat → Option Blk} {vw : List Nat} {B : Blk} {b : Nat} (h : b ∈ (vwBlk bl vw B).ns) : b ∈ B.ns := by
  cases B <;> simp only [vwBlk] at h <;> (try exact h)
  · obtain ⟨y, hy, hb⟩ := List.mem_flatMap.1 h
    obtain ⟨z, hz, rfl⟩ := List.mem_map.1 hy
    exact List.mem_flatMap.2 ⟨z, hz, vwSV_ns hb⟩
  · obtain ⟨y, hy, hb⟩ := List.mem_flatMap.1 h
    obtain ⟨z, hz, rfl⟩ := List.mem_map.1 hy
    refine List.mem_flatMap.2 ⟨z, hz, ?_⟩
    rcases List.mem_append.1 hb with hb | hb
    · exact List.mem_append_left _ (vwSV_ns hb)
    · exact List.mem_append_right _ (by
        have := vwAV_ns (bl := bl) (vw := vw) (x := .c z.2) hb
        exact this)
  · obtain ⟨y, hy, hb⟩ := List.mem_flatMap.1 h
    obtain ⟨z, hz, rfl⟩ := List.mem_map.1 hy
    exact List.mem_flatMap.2 ⟨z, hz, vwAV_ns hb⟩
theorem frzO_look {vw : List Nat} {ov base : St} (hd : disN (keyN base.blk) vw = true) : (∀ t v, ((frzO vw ov base).ap base).e t = some v → ∃ u, (ov.ap base).e t = some u ∧ (v = vwAV (ov.ap base).b vw u ∨ v = u)) ∧ ∀ b B, ((frzO vw ov base).ap base).b b = some B → ∃ C, (ov.ap base).b b = some C ∧ (B = vwBlk (ov.ap base).b vw C ∨ B = C) ∧ b ∉ vw := by
  refine ⟨fun t v h => ?_, fun b B h => ?_⟩
  · unfold St.e St.ap at h ⊢
    simp only [lk_app] at h ⊢
    rw [show (frzO vw ov base).env = ov.env.map fun p => (p.1, vwAV (ov.ap base).b vw p.2) from rfl, lk_map (fun _ x => vwAV (ov.ap base).b vw x)] at h
    cases hl : lk ov.env t with
    | none => rw [hl] at h; exact ⟨v, h, .inr rfl⟩
    | some u => rw [hl] at h; exact ⟨u, rfl, .inl (Option.some.inj h).symm⟩
  · have hL : ((frzO vw ov base).ap base).b b = (match lk (ov.blk.map fun p : Nat × Option Blk => (p.1, frzB (ov.ap base).b vw p.1 p.2)) b with | some x => some x | none => lk base.blk b).join := by
      show (lk ((ov.blk.map fun p : Nat × Option Blk => (p.1, frzB (ov.ap base).b vw p.1 p.2)) ++ base.blk) b).join = _
      rw [lk_app]
      cases lk (ov.blk.map fun p : Nat × Option Blk => (p.1, frzB (ov.ap base).b vw p.1 p.2)) b <;> rfl
    have hR : (ov.ap base).b b = (match lk ov.blk b with | some x => some x | none => lk base.blk b).join := by
      show (lk (ov.blk ++ base.blk) b).join = _
      rw [lk_app]
      cases lk ov.blk b <;> rfl
    rw [hL, lk_map (frzB (ov.ap base).b vw)] at h
    cases hl : lk ov.blk b with
    | none =>
      rw [hl] at h hR
      simp only [Option.map_none] at h
      refine ⟨B, by rw [hR]; exact h, .inr rfl, ?_⟩
      cases hb : lk base.blk b with
      | none => rw [hb] at h; cases h
      | some x => exact disN_of hd (lk_key hb)
    | some x =>
      rw [hl] at h hR
      simp only [Option.map_some, frzB] at h
      split at h
      · cases h
      · rename_i hm
        cases x with
        | none => cases h
        | some C =>
          refine ⟨C, by rw [hR]; rfl, .inl (Option.some.inj h).symm, fun hbv => ?_⟩
          rw [memN_iff.2 hbv] at hm
          cases hm
theorem frzO_sub {vw : List Nat} {ov base : St} (hd : disN (keyN base.blk) vw = true) : Sub (ov.ap base) ((frzO vw ov base).ap base) := by
  intro E m a w ok
  obtain ⟨he, hbl⟩ := frzO_look (ov := ov) hd
  have hb : ∀ b B, (ov.ap base).b b = some B → B.R w m b := ok.blk
  have g := goes_vw w m (ov.ap base).b vw
  refine ⟨m.vw (ov.ap base).b vw, ok.defers.go rfl fun r p => ⟨p.is, p.own, fun hs => by
      rcases hs with hs | ⟨c, hc, ⟨D, hD⟩, hnc, e⟩
      · exact p.noS hs
      · exact p.no c D hD hnc e, fun b B hB hn => by
      obtain ⟨C, hC, -, -⟩ := hbl b B hB
      exact p.no b C hC hn⟩, ok.tmps, fun t v hv => ?_, fun b B hB => ?_, fun b B hB hn => ?_, fun b c B C hB hC hn hn' e => ?_, fun k hk => ?_, ok.le, ok.frame, fun k hk => .inl (ok.sup k hk), fun k hk => ?_, ok.fix, ok.io⟩
  · obtain ⟨u, hu, rfl | rfl⟩ := he t v hv
    · exact vwAV_R hb (ok.env t u hu)
    · exact AV.R_goes g (fun _ _ => trivial) (ok.env t v hu)
  · obtain ⟨C, hC, rfl | rfl, -⟩ := hbl b B hB
    · exact vwBlk_R hb (ok.blk b C hC)
    · exact Blk.R_goes g trivial (fun _ => rfl) (fun _ _ => trivial) (ok.blk b B hC)
  · obtain ⟨C, hC, -, hno⟩ := hbl b B hB
    obtain ⟨q1, q2⟩ := ok.own b C hC hn
    refine ⟨fun hs => ?_, q2⟩
    rcases hs with hs | ⟨c, hc, ⟨D, hD⟩, hnc, e⟩
    · exact q1 hs
    · exact hno (by rw [← ok.inj c b D C hD hC hnc hn e]; exact hc)
  · obtain ⟨B', hB', -, -⟩ := hbl b B hB
    obtain ⟨C', hC', -, -⟩ := hbl c C hC
    exact ok.inj b c B' C' hB' hC' hn hn' e
  · rcases hk with hk | ⟨c, hc, ⟨D, hD⟩, hnc, e⟩
    · exact ok.lt k hk
    · rw [← e]; exact Blk.R_lt (ok.blk c D hD) hnc
  · rcases hk with hk | ⟨c, hc, ⟨D, hD⟩, hnc, e⟩
    · exact ok.new k hk
    · rw [← e]; exact .inr ((ok.own c D hD hnc).2)
theorem frzO_has {vw : List Nat} {ov base : St} (hd : disN (keyN base.blk) vw = true) {b : Nat} (h : ((frzO vw ov base).ap base).has b) : (ov.ap base).has b := by
  obtain ⟨he, hbl⟩ := frzO_look (ov := ov) hd
  rcases h with ⟨t, v, hv, hb⟩ | ⟨B, hB⟩ | ⟨c, B, hB, hb⟩
  · obtain ⟨u, hu, rfl | rfl⟩ := he t v hv
    · exact .inl ⟨t, u, hu, vwAV_ns hb⟩
    · exact .inl ⟨t, v, hu, hb⟩
  · obtain ⟨C, hC, -, -⟩ := hbl b B hB
    exact .inr (.inl ⟨C, hC⟩)
  · obtain ⟨C, hC, rfl | rfl, -⟩ := hbl c B hB
    · exact .inr (.inr ⟨c, C, hC, vwBlk_ns hb⟩)
    · exact .inr (.inr ⟨c, B, hC, hb⟩)
/-- Own slices that an operation puts into data. -/
def ownsOf : Option AV → List Nat
  | some (.c x) => x.l.filterMap fun | .own b _ => some b | .sub b _ _ _ => some b | _ => none
  | _ => []
def flatT : Ty → Bool
  | .sl _ => false | .pr a b => flatT a && flatT b | _ => true
def needF (P : Program) (o : Oper) (e : Operand → Option AV) : List Nat :=
  match o.op with
  | .buildSlice t _ ps => match tyE P t with
    | some ty => (match flatT ty with | true => [] | false => ps.toList.flatMap fun p => ownsOf (e p.2))
    | none => []
  | .store _ x y => match sv (e x) with | some (.ep _ _ _ _) => ownsOf (e y) | _ => []
  | .insert _ _ _ y => ownsOf (e y)
  | .mapUpdate _ _ _ y => ownsOf (e y)
  | _ => []
/-- What was done by an operation. -/
structure TrX where
  an : An
  out : Out
def partX {R : Type} (g : Bool) (out : Out) (k : Out → Option R) : Option R :=
  match g, out.v with
  | true, some (.c ⟨false, [.bool x]⟩) => cond x (k ⟨out.c, some (V (.bool true)), out.ub⟩) (k ⟨out.c, some (V (.bool false)), out.ub⟩)
  | _, _ => k out
theorem partX_ok {R : Type} {g : Bool} {out : Out} {k : Out → Option R} {r : R} (h : partX g out k = some r) : k out = some r := by
  unfold partX at h
  split at h
  · rename_i x hx
    obtain ⟨c, v, ub⟩ := out
    simp only at hx
    subst hx
    cases x <;> exact h
  · exact h
noncomputable def doX {R : Type} (P : Program) (ops : Array Oper) (an : An) (i nm : Nat) (o : Oper) (e : Nat → Option AV) (b : Nat → Option Blk) (k : TrX → Option R) (els : Option R) : Option R :=
  match step1 P ops an nm o e b with
  | some out => match triv an o || !(wantedIs ops o e) with
    | true => partX (isGuard ops.toList i) out fun out => k ⟨an, out⟩
    | false => ask out.c (partX (isGuard ops.toList i) out fun out => k ⟨an, out⟩)
  | none => els
def isCall (o : Oper) : Option (Operand × List Operand) := match o.op with | .call ⟨.value fo, xs, _⟩ => some (fo, xs.toList) | _ => none
def elemT (P : Program) (o : Oper) : Option Ty := match o.op with | .makeSlice t _ _ => tyE P t | .buildSlice t _ _ => tyE P t | .call ⟨.builtin .append, _, ts⟩ => (match ts.toList with | [t, t'] => (match Nat.beq t t' with | true => none | false => tyE P t) | _ => none) | _ => none
def isLook (o : Oper) (e : Nat → Option AV) (b : Nat → Option Blk) : Option (Int × List (SV × CV)) :=
  match o.op with
  | .lookup _ x i _ => match sv (evO e x), sv (evO e i) with
    | some (.map m), some (.int _ n) => match b m with | some (.tab l) => some (n, l) | _ => none
    | _, _ => none
  | _ => none
/-- A look-up, entry by entry. -/
def lookX {R : Type} (n : Int) (f : Nat → Option R) : List (SV × CV) → Nat → Option R
  | [], j => f j
  | (.int _ m, _) :: r, j => cond (decide (n = m)) (f j) (lookX n f r (j + 1))
  | _ :: _, _ => none
theorem lookX_ok {R : Type} {n : Int} {f : Nat → Option R} {r : R} : ∀ {l : List (SV × CV)} {j0 : Nat}, lookX n f l j0 = some r → ∃ j, f (j0 + j) = some r ∧ (∀ kk c y, tabAt kk n l j = some (c, y) → c.p) ∧ (Nat.blt j l.length = false → ∀ kk c, tabMiss kk n l = some c → c.p)
  | [], j0, h => ⟨0, h, fun kk c y h => (by simp [tabAt] at h), fun _ kk c h => by cases h; trivial⟩
  | p :: l, j0, h => by
    obtain ⟨x, v⟩ := p
    cases x <;> simp only [lookX] at h <;> (try cases h)
    rename_i k m
    by_cases hm : n = m
    · rw [decide_eq_true hm] at h
      refine ⟨0, h, fun kk c y h => ?_, fun h => by rw [List.length_cons] at h; exact Bool.noConfusion (h.symm.trans (by rw [Nat.blt_eq]; omega))⟩
      simp only [tabAt] at h
      split at h <;> cases h
      exact hm
    · rw [decide_eq_false hm] at h
      obtain ⟨j, h1, h2, h3⟩ := lookX_ok h
      refine ⟨j + 1, by rw [← h1]; congr 1; omega, fun kk c y h => ?_, fun hb kk c h => ?_⟩
      · simp only [tabAt] at h
        split at h <;> cases h
        rename_i c' _ q
        exact ⟨hm, h2 _ _ _ q⟩
      · simp only [tabMiss] at h
        split at h <;> cases h
        rename_i c' _ q
        refine ⟨hm, h3 ?_ _ _ q⟩
        cases hb' : Nat.blt j l.length with
        | false => rfl
        | true =>
          have : Nat.blt (j + 1) (l.length + 1) = true := by rw [Nat.blt_eq] at hb' ⊢; omega
          rw [List.length_cons, this] at hb
          cases hb
/-- Is a slice cut of what was appended just now? -/
def isCut (ops : Array Oper) (o : Oper) : Bool := match o.op with
  | .slice _ (.tmp d) none (some _) none => ops.toList.any fun p => match p.op, p.dst with | .call ⟨.builtin .append, _, _⟩, some d' => Nat.beq d d' | _, _ => false
  | _ => false
/-- Is what is appended put into a struct, in the same region? -/
def isBorn (ops : Array Oper) (o : Oper) : Bool := match o.op, o.dst with
  | .call ⟨.builtin .append, _, _⟩, some d => ops.toList.any fun p => match p.op with
    | .build _ xs => xs.toList.any fun x => match x.2 with | .tmp t => Nat.beq t d | _ => false
    | _ => false
  | _, _ => false
noncomputable def dX {R : Type} (P : Program) (ops : Array Oper) (i nm : Nat) (o : Oper) (e : Nat → Option AV) (b : Nat → Option Blk) (k : TrX → Option R) : Option R :=
  match isCut ops o with
  | true => doX P ops (.hit 0) i nm o e b k none
  | false => match isBorn ops o with
    | true => doX P ops .fz i nm o e b k none
    | false => doX P ops .d i nm o e b k none
def eqL {α : Type} (f : α → α → Bool) : List α → List α → Bool
  | [], [] => true
  | a :: r, b :: q => f a b && eqL f r q
  | _, _ => false
theorem eqL_ok {α : Type} {f : α → α → Bool} (hf : ∀ a b, f a b = true → a = b) : ∀ {l k : List α}, eqL f l k = true → l = k
  | [], [], _ => rfl
  | a :: r, b :: q, h => by
    simp only [eqL, Bool.and_eq_true] at h
    rw [hf a b h.1, eqL_ok hf h.2]
  | [], _ :: _, h => by simp [eqL] at h
  | _ :: _, [], h => by simp [eqL] at h
theorem eqL_self {α : Type} {f : α → α → Bool} (hf : ∀ a, f a a = true) : ∀ l : List α, eqL f l l = true
  | [] => rfl
  | a :: r => by simp only [eqL, hf a, eqL_self hf r, Bool.and_self]
/-- Are two data alike? -/
def eqT : (t : Ty) → t.D → t.D → Bool
  | .int _, a, b => decide ((a : Int) = b)
  | .bool, a, b => (a : Bool) == b
  | .pr s t, x, y => eqT s x.1 y.1 && eqT t x.2 y.2
  | .sl t, a, b => eqL (eqT t) a b
  | .str, _, _ => false
theorem eqT_ok : ∀ (t : Ty) {x y : t.D}, eqT t x y = true → x = y
  | .int _, x, y, h => of_decide_eq_true h
  | .bool, x, y, h => by
    have h : ((x : Bool) == y) = true := h
    exact eq_of_beq h
  | .pr s t, x, y, h => by
    simp only [eqT, Bool.and_eq_true] at h
    exact Prod.ext (eqT_ok s h.1) (eqT_ok t h.2)
  | .sl t, x, y, h => eqL_ok (fun a b h => eqT_ok t h) h
  | .str, _, _, h => by simp [eqT] at h
/-- Maps alike. -/
def eqM (kt vt : Ty) (l k : List (kt.D × vt.D)) : Bool := eqL (fun p q => eqT kt p.1 q.1 && eqT vt p.2 q.2) l k
theorem eqM_ok {kt vt : Ty} {l k : List (kt.D × vt.D)} (h : eqM kt vt l k = true) : l = k := eqL_ok (fun a b h => by
  simp only [Bool.and_eq_true] at h
  exact Prod.ext (eqT_ok kt h.1) (eqT_ok vt h.2)) h
/-- Maps that were handed over, and come back. -/
def mapsOf (b : Nat → Option Blk) : List (Nat × Blk) → List Nat
  | [] => []
  | p :: r => match b p.1, p.2 with
    | some (.map ..), .map .. => p.1 :: mapsOf b r
    | _, _ => mapsOf b r
/-- If they come back as they were, go on. -/
def quC {R : Type} (b : Nat → Option Blk) (qs : List Nat) : List (Nat × Blk) → Option R → Option R
  | [], x => x
  | p :: r, x => match memN p.1 qs with
    | false => quC b qs r x
    | true => match b p.1, p.2 with
      | some (.map ka kt va vt l), .map ka' kt' va' vt' l' => (match eqB ka' ka && eqB va' va, Ty.eq kt' kt, Ty.eq vt' vt with
        | true, some ⟨h⟩, some ⟨h'⟩ => ask (eqM kt vt (Ty.cast2 h h' l') l = true) (quC b qs r x)
        | _, _, _ => none)
      | _, _ => none
theorem quC_ok {R : Type} {b : Nat → Option Blk} {qs : List Nat} : ∀ {l : List (Nat × Blk)} {x : Option R} {r : R}, quC b qs l x = some r → x = some r ∧ repl b qs l = l
  | [], x, r, h => ⟨h, rfl⟩
  | p :: l, x, r, h => by
    have cons : repl b qs (p :: l) = (match memN p.1 qs, b p.1 with | true, some B => (p.1, B) | _, _ => p) :: repl b qs l := rfl
    simp only [quC] at h
    cases hm : memN p.1 qs with
    | false =>
      rw [hm] at h
      obtain ⟨h1, h2⟩ := quC_ok h
      exact ⟨h1, by rw [cons, h2, hm]⟩
    | true =>
      rw [hm] at h
      simp only at h
      split at h <;> (try cases h)
      rename_i ka kt va vt l1 ka' kt' va' vt' l1' hb hp
      split at h <;> (try cases h)
      rename_i hh hh' e1 e2 e3
      obtain ⟨q1, q2⟩ := ask_some.1 h
      obtain ⟨h1, h2⟩ := quC_ok q2
      refine ⟨h1, ?_⟩
      rw [cons, h2, hm, hb]
      simp only
      subst hh
      subst hh'
      simp only [Bool.and_eq_true] at e1
      have ea := eqB_of e1.1
      have eb := eqB_of e1.2
      subst ea
      subst eb
      have := eqM_ok q1
      have : l1' = l1 := this
      subst this
      congr 1
      rw [← hp]
noncomputable def stepX {R : Type} (P : Program) (Γ : List (Ctr P)) (qt : Bool) (ops : Array Oper) (i nm : Nat) (o : Oper) (e : Nat → Option AV) (b : Nat → Option Blk) (k : TrX → Option R) : Option R :=
  match wantedIs ops o e, isCall o with
  | true, some (fo, xs) => match sv (evO e fo), mapO (evO e) xs with
    | some x, some us => match calOf b x us with
      | some (κ, us') => match qt with
        | false => tryC κ us' nm b (fun an => match step1 P ops an nm o e b with | some out => partX (isGuard ops.toList i) out fun out => k ⟨an, out⟩ | none => none) Γ
        | true => tryC κ us' nm b (fun an => match an with
          | .co vw hs res cbl2 => quC b (mapsOf b cbl2) cbl2 (match step1 P ops (.cq vw hs (mapsOf b cbl2) res cbl2) nm o e b with | some out => partX (isGuard ops.toList i) out fun out => k ⟨.cq vw hs (mapsOf b cbl2) res cbl2, out⟩ | none => none)
          | _ => none) Γ
      | none => none
    | _, _ => none
  | true, none => match isLook o e b with
    | some (n, l) => lookX n (fun j => match step1 P ops (.hit j) nm o e b with | some out => partX (isGuard ops.toList i) out fun out => k ⟨.hit j, out⟩ | none => none) l 0
    | none => match elemT P o with
      | some ty => doX P ops (.ty ty) i nm o e b k (doX P ops .d i nm o e b k none)
      | none => dX P ops i nm o e b k
  | _, _ => match elemT P o with
    | some ty => doX P ops (.ty ty) i nm o e b k (doX P ops .d i nm o e b k none)
    | none => dX P ops i nm o e b k
theorem doX_ok {R : Type} {P : Program} {ops : Array Oper} {an : An} {i nm : Nat} {o : Oper} {e : Nat → Option AV} {b : Nat → Option Blk} {k : TrX → Option R} {els : Option R} {r : R} (h : doX P ops an i nm o e b k els = some r) : (∃ out, step1 P ops an nm o e b = some out ∧ out.c ∧ k ⟨an, out⟩ = some r) ∨ els = some r := by
  unfold doX at h
  split at h
  · rename_i out hs
    split at h
    · rename_i ht
      exact .inl ⟨out, hs, step1_c hs ht, partX_ok h⟩
    · rw [ask_some] at h
      exact .inl ⟨out, hs, h.1, partX_ok h.2⟩
  · exact .inr h
theorem dX_ok {R : Type} {P : Program} {ops : Array Oper} {i nm : Nat} {o : Oper} {e : Nat → Option AV} {b : Nat → Option Blk} {k : TrX → Option R} {r : R} (h : dX P ops i nm o e b k = some r) : ∃ an out, step1 P ops an nm o e b = some out ∧ out.c ∧ k ⟨an, out⟩ = some r := by
  unfold dX at h
  split at h
  · rcases doX_ok h with ⟨out, h⟩ | h
    · exact ⟨_, out, h⟩
    · cases h
  · split at h
    all_goals
      rcases doX_ok h with ⟨out, h⟩ | h
      · exact ⟨_, out, h⟩
      · cases h
theorem isCall_of {o : Oper} {fo : Operand} {xs : List Operand} (h : isCall o = some (fo, xs)) : ∃ ar ts, o.op = .call ⟨.value fo, ar, ts⟩ ∧ ar.toList = xs := by
  unfold isCall at h
  split at h <;> cases h
  exact ⟨_, _, by assumption, rfl⟩
theorem stp_co {P : Program} {vw hs : List Nat} {res : AV} {cbl2 : List (Nat × Blk)} {nm : Nat} {o : Oper} {ev : Operand → Option AV} {bl : Nat → Option Blk} {out : Out} {fo : Operand} {ar : Array Operand} {ts : Array TypeId} (ho : o.op = .call ⟨.value fo, ar, ts⟩) (h : stp P (.co vw hs res cbl2) nm o ev bl = some out) : ∃ x us κ us' cbl, sv (ev fo) = some x ∧ mapO ev ar.toList = some us ∧ calOf bl x us = some (κ, us') ∧ mapO (blOf bl) hs = some cbl ∧ out.c = Spec P κ (us'.map (vwAV bl vw)) cbl res cbl2 := by
  unfold stp at h
  split at h
  · rename_i b cap xs hy
    split at h <;> (try cases h)
    rename_i us k tm j _ hus hb
    split at h <;> (try cases h)
    rename_i cbl hcb
    split at h <;> cases h
    try cases ‹An.co vw hs res cbl2 = _›
    unfold yldOf at hy
    rw [ho] at hy
    simp only at hy
    split at hy <;> cases hy
    rename_i hf
    exact ⟨.yld b cap, us, .yl k, _, cbl, hf, hus, by simp only [calOf, hb], hcb, rfl⟩
  · simp only [quX, frzU] at h
    unfold stp0 at h
    rw [ho] at h
    simp only at h
    split at h <;> (try cases h)
    · rename_i vw' hs' res' cbl' f cap us h1 h2 h3
      split at h <;> (try cases h)
      rename_i fn cbl h3 h4
      split at h <;> cases h
      cases ‹An.co vw hs res cbl2 = _›
      exact ⟨.fn f cap, us, .fn f, _, cbl, by assumption, by assumption, rfl, h4, rfl⟩
    · rename_i vw' hs' res' cbl' f b off us h1 h2 h3
      split at h <;> (try cases h)
      rename_i fn cbl h3 h4
      split at h <;> cases h
      cases ‹An.co vw hs res cbl2 = _›
      exact ⟨.bm f b off, us, .fn f, _, cbl, by assumption, by assumption, rfl, h4, rfl⟩
theorem step1_co {P : Program} {ops : Array Oper} {vw hs : List Nat} {res : AV} {cbl2 : List (Nat × Blk)} {nm : Nat} {o : Oper} {e : Nat → Option AV} {bl : Nat → Option Blk} {out : Out} {fo : Operand} {ar : Array Operand} {ts : Array TypeId} (ho : o.op = .call ⟨.value fo, ar, ts⟩) (h : step1 P ops (.co vw hs res cbl2) nm o e bl = some out)
    (hs' : ∀ x us κ us' cbl, sv (evO e fo) = some x → mapO (evO e) ar.toList = some us → calOf bl x us = some (κ, us') → mapO (blOf bl) hs = some cbl → Spec P κ (us'.map (vwAV bl vw)) cbl res cbl2) : out.c := by
  have run : stp P (.co vw hs res cbl2) nm o (evO e) bl = some out → out.c := fun h => by
    obtain ⟨x, us, κ, us', cbl, h1, h2, h3, h4, h5⟩ := stp_co ho h
    rw [h5]
    exact hs' x us κ us' cbl h1 h2 h3 h4
  unfold step1 at h
  split at h
  · exact run h
  · rename_i j want hg
    split at h <;> (try cases h)
    split at h <;> (try cases h)
    split at h
    · rename_i b hb
      cases b <;> cases want <;> simp only at h
      · exact run h
      · cases h; trivial
      · cases h; trivial
      · exact run h
    · cases h; trivial
    · cases h
theorem step1_cq {P : Program} {ops : Array Oper} {vw hs qs : List Nat} {res : AV} {cbl2 : List (Nat × Blk)} {nm : Nat} {o : Oper} {e : Nat → Option AV} {bl : Nat → Option Blk} {out : Out} {fo : Operand} {ar : Array Operand} {ts : Array TypeId} (ho : o.op = .call ⟨.value fo, ar, ts⟩) (h : step1 P ops (.cq vw hs qs res cbl2) nm o e bl = some out) (hr : repl bl qs cbl2 = cbl2)
    (hs' : ∀ x us κ us' cbl, sv (evO e fo) = some x → mapO (evO e) ar.toList = some us → calOf bl x us = some (κ, us') → mapO (blOf bl) hs = some cbl → Spec P κ (us'.map (vwAV bl vw)) cbl res cbl2) : out.c := by
  have run : stp P (.cq vw hs qs res cbl2) nm o (evO e) bl = some out → out.c := fun h => by
    have hy : yldOf o (evO e) = none := by
      cases hyy : yldOf o (evO e) with
      | none => rfl
      | some z =>
        obtain ⟨b, cap, xs⟩ := z
        unfold stp at h
        rw [hyy] at h
        simp only at h
        cases h
    have h2 : stp P (.co vw hs res cbl2) nm o (evO e) bl = stp0 P (.co vw hs res cbl2) nm o (evO e) bl := by
      unfold stp
      rw [hy]
      rfl
    unfold stp at h
    rw [hy] at h
    simp only [quX] at h
    split at h <;> (try cases h)
    split at h <;> cases h
    rename_i y hst
    rw [hr] at hst
    obtain ⟨x, us, κ, us', cbl, q1, q2, q3, q4, q5⟩ := stp_co ho (h2.trans hst)
    show y.c
    rw [q5]
    exact hs' x us κ us' cbl q1 q2 q3 q4
  unfold step1 at h
  split at h
  · exact run h
  · rename_i j want hg
    split at h <;> (try cases h)
    split at h <;> (try cases h)
    split at h
    · rename_i b hb
      cases b <;> cases want <;> simp only at h
      · exact run h
      · cases h; trivial
      · cases h; trivial
      · exact run h
    · cases h; trivial
    · cases h
theorem isLook_of {o : Oper} {e : Nat → Option AV} {b : Nat → Option Blk} {n : Int} {l : List (SV × CV)} (h : isLook o e b = some (n, l)) : ∃ t x i ok m kk, o.op = .lookup t x i ok ∧ sv (evO e x) = some (.map m) ∧ sv (evO e i) = some (.int kk n) ∧ b m = some (.tab l) := by
  unfold isLook at h
  split at h <;> (try cases h)
  split at h <;> (try cases h)
  split at h <;> cases h
  exact ⟨_, _, _, _, _, _, by assumption, by assumption, by assumption, by assumption⟩
theorem step1_hit {P : Program} {ops : Array Oper} {nm : Nat} {o : Oper} {e : Nat → Option AV} {bl : Nat → Option Blk} {out : Out} {n : Int} {l : List (SV × CV)} {j : Nat} (hl : isLook o e bl = some (n, l)) (h : step1 P ops (.hit j) nm o e bl = some out) (h1 : ∀ kk c y, tabAt kk n l j = some (c, y) → c.p) (h2 : Nat.blt j l.length = false → ∀ kk c, tabMiss kk n l = some c → c.p) : out.c := by
  obtain ⟨t, x, i, ok, m, kk, ho, hx, hi, hb⟩ := isLook_of hl
  have run : stp P (.hit j) nm o (evO e) bl = some out → out.c := fun h => by
    have hy : yldOf o (evO e) = none := by unfold yldOf; rw [ho]
    unfold stp at h
    rw [hy] at h
    simp only [quX, frzU] at h
    unfold stp0 at h
    rw [ho] at h
    simp only [hx, hi] at h
    split at h <;> cases h
    rename_i c v hf
    unfold fLook at hf
    split at hf <;> (try cases hf)
    rename_i kt et b' kk' n' hu q1 q2
    cases q1; cases q2
    rw [hb] at hf
    split at hf <;> (try cases hf)
    rename_i kk2 l' hk q
    cases q
    split at hf <;> (try cases hf)
    · split at hf <;> cases hf
      rename_i y ht
      exact h1 _ _ _ ht
    · rename_i hd hj
      split at hf <;> (try cases hf)
      split at hf <;> (try cases hf)
      split at hf <;> cases hf
      rename_i hm
      exact h2 hj _ _ hm
  unfold step1 at h
  split at h
  · exact run h
  · rename_i j' want hg
    split at h <;> (try cases h)
    split at h <;> (try cases h)
    split at h
    · rename_i b hb'
      cases b <;> cases want <;> simp only at h
      · exact run h
      · cases h; trivial
      · cases h; trivial
      · exact run h
    · cases h; trivial
    · cases h
theorem stepX_ok {R : Type} {P : Program} {Γ : List (Ctr P)} {ops : Array Oper} {i nm : Nat} {o : Oper} {e : Nat → Option AV} {b : Nat → Option Blk} {k : TrX → Option R} {r : R} {qt : Bool} (h : stepX P Γ qt ops i nm o e b k = some r) : ∃ x : TrX, step1 P ops x.an nm o e b = some x.out ∧ x.out.c ∧ k x = some r := by
  unfold stepX at h
  split at h
  · rename_i fo xs hw hc
    obtain ⟨ar, ts, ho, rfl⟩ := isCall_of hc
    split at h <;> (try cases h)
    rename_i x us h1 h2
    split at h <;> (try cases h)
    rename_i κ us' h3
    cases qt with
    | false =>
      obtain ⟨vw, hs, res, cbl2, hk, hsp⟩ := tryC_ok h
      split at hk <;> (try cases hk)
      rename_i out hst
      refine ⟨⟨_, out⟩, hst, step1_co ho hst fun x' us1 κ' us1' cbl q1 q2 q3 q4 => ?_, partX_ok hk⟩
      rw [h1] at q1
      rw [h2] at q2
      cases q1
      cases q2
      rw [h3] at q3
      cases q3
      exact hsp cbl q4
    | true =>
      obtain ⟨vw, hs, res, cbl2, hk, hsp⟩ := tryC_ok h
      simp only at hk
      obtain ⟨hk, hrp⟩ := quC_ok hk
      split at hk <;> (try cases hk)
      rename_i out hst
      refine ⟨⟨_, out⟩, hst, step1_cq ho hst hrp fun x' us1 κ' us1' cbl q1 q2 q3 q4 => ?_, partX_ok hk⟩
      rw [h1] at q1
      rw [h2] at q2
      cases q1
      cases q2
      rw [h3] at q3
      cases q3
      exact hsp cbl q4
  · split at h
    · rename_i n l hl
      obtain ⟨j, hj, h1, h2⟩ := lookX_ok h
      rw [Nat.zero_add] at hj
      split at hj <;> (try cases hj)
      rename_i out hst
      exact ⟨⟨_, out⟩, hst, step1_hit hl hst h1 h2, partX_ok hj⟩
    · split at h
      · rcases doX_ok h with ⟨out, h1, h2, h3⟩ | h
        · exact ⟨⟨_, out⟩, h1, h2, h3⟩
        · rcases doX_ok h with ⟨out, h1, h2, h3⟩ | h
          · exact ⟨⟨_, out⟩, h1, h2, h3⟩
          · cases h
      · obtain ⟨an, out, h1, h2, h3⟩ := dX_ok h
        exact ⟨⟨_, out⟩, h1, h2, h3⟩
  · split at h
    · rcases doX_ok h with ⟨out, h1, h2, h3⟩ | h
      · exact ⟨⟨_, out⟩, h1, h2, h3⟩
      · rcases doX_ok h with ⟨out, h1, h2, h3⟩ | h
        · exact ⟨⟨_, out⟩, h1, h2, h3⟩
        · cases h
    · obtain ⟨an, out, h1, h2, h3⟩ := dX_ok h
      exact ⟨⟨_, out⟩, h1, h2, h3⟩
/-- All operations, in the order of the text. -/
noncomputable def runX {R : Type} (P : Program) (N : Nat) (Γ : List (Ctr P)) (qt : Bool) (ops : Array Oper) (dr : Bool) (base : St) (bs : Nat) (k : List (TrX × List Nat) → St → Option R) : Nat → List Oper → St → List (TrX × List Nat) → Option R
  | _, [], ov, acc => k acc ov
  | i, o :: r, ov, acc =>
    match (match o.dst with | some d => Nat.blt d N && !(memN d (keyN base.env)) | none => true) with
    | true => match needF P o (evO (ov.ap base).e) with
      | [] => stepX P Γ qt ops i (bs + 64 * i) o (resT (rTs ops o) (ov.ap base).e) (resB (rBs ops (ov.ap base) o) (ov.ap base).b) fun x => match (outNs x.out).all fun b => Nat.blt b (bs + 64 * (i + 1)) with
        | true => runX P N Γ qt ops dr base bs k (i + 1) r (ov.app o.dst x.out) ((x, rBs ops (ov.ap base) o) :: acc)
        | false => none
      | vw => match disN (keyN base.blk) vw && !dr with
        | true => stepX P Γ qt ops i (bs + 64 * i) o (resT (rTs ops o) ((frzO vw ov base).ap base).e) (resB (rBs ops ((frzO vw ov base).ap base) o) ((frzO vw ov base).ap base).b) fun x => match (outNs x.out).all fun b => Nat.blt b (bs + 64 * (i + 1)) with
          | true => runX P N Γ qt ops dr base bs k (i + 1) r ((frzO vw ov base).app o.dst x.out) ((x, rBs ops ((frzO vw ov base).ap base) o) :: acc)
          | false => none
        | false => none
    | false => none
/-- The way that a region's text was gone; with states told anew on the way, or without. -/
def Good (P : Program) (N : Nat) (ops : Array Oper) (fr : Bool) (bs : Nat) : Nat → List Oper → St → List (TrX × List Nat) → St → Prop
  | _, [], st, tr, st' => tr = [] ∧ st' = st
  | i, o :: r, st0, x :: tr, st' => ∃ st, (st = st0 ∨ (fr = true ∧ Sub st0 st ∧ ∀ b, st.has b → st0.has b)) ∧ (∀ d, o.dst = some d → d < N) ∧ step1 P ops x.1.an (bs + 64 * i) o (resT (rTs ops o) st.e) (resB x.2 st.b) = some x.1.out ∧ x.1.out.c ∧ (∀ b ∈ outNs x.1.out, b < bs + 64 * (i + 1)) ∧ Good P N ops fr bs (i + 1) r (st.app o.dst x.1.out) tr st'
  | _, _ :: _, _, [], _ => False
theorem setbs_ap (base : St) : ∀ (ub : List (Nat × Option Blk)) (ov : St), (ov.setbs ub).ap base = (ov.ap base).setbs ub
  | [], ov => rfl
  | p :: r, ov => setbs_ap base r (ov.setb p.1 p.2)
theorem filter_no {α : Type} {d : Nat} : ∀ {l : List (Nat × α)}, d ∉ keyN l → (l.filter fun p => !(Nat.beq p.1 d)) = l
  | [], _ => rfl
  | (n, x) :: r, h => by
    have hn : n ≠ d := fun e => h (by rw [← e]; exact List.mem_cons_self)
    rw [List.filter_cons_of_pos (by rw [beq_f hn]; rfl), filter_no fun hr => h (List.mem_cons_of_mem _ hr)]
theorem app_ap {ov base : St} {d : Option Nat} {o : Out} (h : ∀ k, d = some k → k ∉ keyN base.env) : (ov.app d o).ap base = (ov.ap base).app d o := by
  unfold St.app
  rw [← setbs_ap]
  generalize ov.setbs o.ub = s
  unfold St.put St.ap
  cases d with
  | none => rfl
  | some d =>
    cases o.v with
    | some v => rfl
    | none => simp only [List.filter_append, filter_no (h d rfl)]
theorem runX_ok {R : Type} {P : Program} {N : Nat} {Γ : List (Ctr P)} {ops : Array Oper} {dr : Bool} {base : St} {bs : Nat} {k : List (TrX × List Nat) → St → Option R} {r : R} {qt : Bool} : ∀ {l : List Oper} {i : Nat} {ov : St} {acc : List (TrX × List Nat)}, runX P N Γ qt ops dr base bs k i l ov acc = some r → ∃ tr ov', k (tr.reverse ++ acc) ov' = some r ∧ Good P N ops (!dr) bs i l (ov.ap base) tr (ov'.ap base)
  | [], i, ov, acc, h => ⟨[], ov, h, rfl, rfl⟩
  | o :: l, i, ov, acc, h => by
    simp only [runX] at h
    split at h <;> (try cases h)
    rename_i hd
    have hd1 : ∀ d, o.dst = some d → d < N ∧ d ∉ keyN base.env := fun d e => by
      rw [e] at hd
      simp only [Bool.and_eq_true, Bool.not_eq_true'] at hd
      exact ⟨blt_of hd.1, fun q => by rw [memN_iff.2 q] at hd; cases hd.2⟩
    split at h
    · obtain ⟨x, h1, h2, h3⟩ := stepX_ok h
      split at h3 <;> (try cases h3)
      rename_i hn
      obtain ⟨tr, ov', h4, h5⟩ := runX_ok h3
      refine ⟨(x, rBs ops (ov.ap base) o) :: tr, ov', by simpa using h4, ov.ap base, .inl rfl, fun d e => (hd1 d e).1, h1, h2, fun b hb => blt_of (List.all_eq_true.1 hn b hb), ?_⟩
      rw [← app_ap fun d e => (hd1 d e).2]
      exact h5
    · split at h <;> (try cases h)
      rename_i vw _ hc
      simp only [Bool.and_eq_true] at hc
      obtain ⟨x, h1, h2, h3⟩ := stepX_ok h
      split at h3 <;> (try cases h3)
      rename_i hn
      obtain ⟨tr, ov', h4, h5⟩ := runX_ok h3
      refine ⟨(x, rBs ops ((frzO (needF P o (evO (ov.ap base).e)) ov base).ap base) o) :: tr, ov', by simpa using h4, (frzO _ ov base).ap base, .inr ⟨hc.2, frzO_sub hc.1, fun b hb => frzO_has hc.1 hb⟩, fun d e => (hd1 d e).1, h1, h2, fun b hb => blt_of (List.all_eq_true.1 hn b hb), ?_⟩
      rw [← app_ap fun d e => (hd1 d e).2]
      exact h5
theorem Good.wp {ρ : Option Nat} {P : Program} {N : Nat} {ops : Array Oper} {fr : Bool} {bs : Nat} (h100 : 100 ≤ bs) {E : Ent} (hN : N ≤ E.n) {Q : Exit → Act → World → Prop} : ∀ {l : List Oper} {i : Nat} {st st' : St} {tr : List (TrX × List Nat)} {m : Mp} {a : Act} {w : World}, Good P N ops fr bs i l st tr st' → OK E st m a w → (∀ b, st.has b → b < bs + 64 * i) → (∀ a' w' m', OK E st' m' a' w' → Q .normal a' w') → wpListIn (Fz ρ) 0 P ops Q l a w
  | [], i, st, st', tr, m, a, w, h, ok, hlt, hQ => by
    obtain ⟨-, rfl⟩ := h
    exact hQ _ _ m ok
  | o :: r, i, st, st', [], m, a, w, h, ok, hlt, hQ => h.elim
  | o :: r, i, st0, st', x :: tr, m0, a, w, h, ok0, hlt0, hQ => by
    obtain ⟨st, hs0, hd, hs, hoc, hns, h⟩ := h
    have : ∃ m, OK E st m a w ∧ ∀ b, st.has b → b < bs + 64 * i := by
      rcases hs0 with rfl | ⟨-, hsub, hhas⟩
      · exact ⟨m0, ok0, hlt0⟩
      · obtain ⟨m, ok⟩ := hsub E m0 a w ok0
        exact ⟨m, ok, fun b hb => hlt0 b (hhas b hb)⟩
    obtain ⟨m, ok, hlt⟩ := this
    have key : ∀ a' w' m', OK E (st.app o.dst x.1.out) m' a' w' → wpListIn (Fz ρ) 0 P ops Q r a' w' := fun a' w' m' ok' => Good.wp h100 hN h ok' (fun b hb => by
      rcases app_has hb with h1 | h1
      · have := hlt b h1; omega
      · exact hns b h1) hQ
    have := step1_wp (ρ := ρ) hs ok (fun t v ht => by unfold resT at ht; split at ht <;> first | exact ht | cases ht) (fun b B hb => by unfold resB at hb; split at hb <;> first | exact hb | cases hb) (fun n hn => by
      rw [mem_nws] at hn
      refine ⟨fun hh => ?_, by omega⟩
      have := hlt n hh
      omega) (fun d e => Nat.lt_of_lt_of_le (hd d e) hN) hoc (wpListIn (Fz ρ) 0 P ops Q r) Q key
    unfold wpListIn
    split at this <;> rename_i hw
    · rw [if_pos hw]; exact this
    · rw [if_neg hw]; exact this
/-- A name that all names of a state are below of. -/
def topN (l : List Nat) (k : Nat) : Nat := l.foldl (fun k b => match Nat.blt b k with | true => k | false => b + 1) k
theorem topN_le : ∀ (l : List Nat) (k : Nat), k ≤ topN l k
  | [], k => Nat.le_refl k
  | b :: r, k => by
    show k ≤ topN r (match Nat.blt b k with | true => k | false => b + 1)
    cases h : Nat.blt b k with
    | true => exact topN_le r k
    | false =>
      have : ¬ b < k := fun q => by rw [← Nat.blt_eq] at q; rw [h] at q; cases q
      exact Nat.le_trans (by omega) (topN_le r (b + 1))
theorem topN_lt : ∀ (l : List Nat) (k : Nat), ∀ b ∈ l, b < topN l k
  | c :: r, k, b, hb => by
    show b < topN r (match Nat.blt c k with | true => k | false => c + 1)
    rcases List.mem_cons.1 hb with rfl | hb
    · cases h : Nat.blt b k with
      | true => exact Nat.lt_of_lt_of_le (blt_of h) (topN_le r k)
      | false => exact Nat.lt_of_lt_of_le (Nat.lt_succ_self b) (topN_le r (b + 1))
    · exact topN_lt r _ b hb
  | [], _, b, hb => by cases hb
def newN (st : St) : Nat := topN (allNs st) 100
theorem newN_of (st : St) : 100 ≤ newN st ∧ ∀ b, st.has b → b < newN st := ⟨topN_le _ _, fun b hb => topN_lt _ _ b (has_allNs hb)⟩
theorem AW.good {ρ : Option Nat} {P : Program} {N : Nat} {ops : Array Oper} {fr : Bool} {id : Nat} {st st' : St} {tr : List (TrX × List Nat)} {Q : Exit → St → Prop} (h : Good P N ops fr (newN st) 0 ops.toList st tr st') (hq : Q .normal st') : AW ρ P N (.region id ops false) st Q := by
  intro E m a w hN ok
  exact wpIn_region_list (h.wp (newN_of st).1 hN ok (fun b hh => by have := (newN_of st).2 b hh; omega) fun a' w' m' ok' => ⟨st', m', hq, ok'⟩)
end Go.Proofs.Ytfjdhdmbbfeigaa.Am
