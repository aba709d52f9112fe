/- A law's arguments, laid open as data; a contract told as a law's row wants it. -/
import Derived.Test.YtfjdhdmbbfeigaaAm2
import Derived.Deep.Slices
import Derived.OpenShut
import Derived.WideShapes
import Derived.Carry
namespace Go.Proofs.Ytfjdhdmbbfeigaa.Am
open Go.RowKit Go.WideShapes Go.ChangeShapes
set_option linter.unusedVariables false
set_option linter.unusedSimpArgs false
/-- Bounds of data. -/
def Ty.B : (t : Ty) → t.D → Prop
  | .int k, (n : Int) => (Lit.int k n).wf = true
  | .bool, _ => True
  | .str, (s : ByteArray) => s.size ≤ maxLen
  | .sl e, (l : List e.D) => l.length ≤ maxLen ∧ ∀ a ∈ l, Ty.B e a
  | .pr a b, x => Ty.B a x.1 ∧ Ty.B b x.2
def Old (w : World) (k : Nat) : Prop := k < w.heap.size
/-- What reads as data of a type is data of a kind. -/
def Opens (P : Program) (T : TypeId) (t : Ty) : Prop :=
  ∀ (H : Type) (enc : TypeId × Value → H) (w : World) (base : Nat) (spare : Nat → Bool) (held : Bool) (fuel : Nat) (cs : List Value) (x : DataW H × List MemPlace),
    DataW.trod enc P w base spare held fuel T cs = some x → ∃ a : t.D, t.K w (Old w) a cs ∧ t.B a
theorem cells_get {w : World} {base : Nat} {a : Addr} {n : Nat} {cs : List Value} (h : w.cells? base a n = some cs) : cs.length = n ∧ ∀ i u, cs[i]? = some u → w.cell? (a.add i) = some u := by
  unfold World.cells? at h
  split at h
  · have hl := mapM_some_length h
    rw [List.length_range] at hl
    refine ⟨hl, fun i u hu => ?_⟩
    have hi : i < cs.length := (List.getElem?_eq_some_iff.1 hu).1
    have hr : (List.range n)[i]? = some i := by
      rw [List.getElem?_range]
      omega
    have := mapM_some_get h i i hr
    rw [this]
    exact hu
  · cases h
theorem list_of {α : Type} {p : Nat → α → Prop} : ∀ n, (∀ i, i < n → ∃ a, p i a) → ∃ xs : List α, xs.length = n ∧ ∀ i a, xs[i]? = some a → p i a
  | 0, _ => ⟨[], rfl, fun i a h => by simp at h⟩
  | n + 1, h => by
    obtain ⟨xs, hl, hx⟩ := list_of n (fun i hi => h i (by omega))
    obtain ⟨a, ha⟩ := h n (by omega)
    refine ⟨xs ++ [a], by simp [hl], fun i b hb => ?_⟩
    by_cases hi : i < xs.length
    · rw [List.getElem?_append_left hi] at hb
      exact hx i b hb
    · rw [List.getElem?_append_right (by omega)] at hb
      have h1 : i - xs.length = 0 := by
        have := (List.getElem?_eq_some_iff.1 hb).1
        simp at this
        omega
      rw [h1] at hb
      simp at hb
      have : i = n := by omega
      rw [this, ← hb]
      exact ha
theorem cell_lt {w : World} {a : Addr} {u : Value} (h : w.cell? a = some u) : a.block < w.heap.size := by
  unfold World.cell? at h
  rcases Nat.lt_or_ge a.block w.heap.size with q | q
  · exact q
  · rw [Array.getElem?_eq_none q] at h
    simp at h
section
variable {P : Program} {T e : TypeId}
theorem opens_int {k : IntKind} (hu : P.underlying T = some (.int k)) : Opens P T (.int k) := by
  intro H enc w base spare held fuel cs x h
  obtain ⟨n, rfl, rfl, hw⟩ := DataW.trod_int hu h
  exact ⟨n, rfl, hw⟩
theorem opens_bool (hu : P.underlying T = some .bool) : Opens P T .bool := by
  intro H enc w base spare held fuel cs x h
  obtain ⟨n, rfl, rfl⟩ := DataW.trod_bool hu h
  exact ⟨n, rfl, trivial⟩
theorem opens_string (hu : P.underlying T = some .string) : Opens P T .str := by
  intro H enc w base spare held fuel cs x h
  obtain ⟨n, rfl, rfl, hs⟩ := DataW.trod_string hu h
  exact ⟨n, rfl, hs⟩
theorem opens_slice {t : Ty} (hu : P.underlying T = some (.slice e)) (hs : P.cellsOf e = t.sz) (ho : Opens P e t) : Opens P T (.sl t) := by
  intro H enc w base spare held fuel cs x h
  rcases Deep.open_slice hu h with ⟨rfl, rfl⟩ | ⟨a, len, cap, m, n, D, Pl, rfl, hb, hl, hm, hmm, rfl, hel⟩
  · exact ⟨[], ⟨none, 0, rfl, Nat.le_refl _, Nat.zero_le _, fun h => absurd h (Nat.lt_irrefl _)⟩, Nat.zero_le _, fun a ha => by cases ha⟩
  · have hlm : len ≤ m := by rw [hmm]; split <;> omega
    obtain ⟨xs, hxl, hxs⟩ := list_of (p := fun i (z : t.D) => ∃ cs', w.cells? base (a.add (i * t.sz)) t.sz = some cs' ∧ t.K w (Old w) z cs' ∧ t.B z) len (fun i hi => by
      obtain ⟨cs', hc, ht⟩ := hel i (by omega)
      rw [hs] at hc
      obtain ⟨z, hz, hB⟩ := ho H enc w base spare held n cs' _ ht
      exact ⟨z, cs', hc, hz, hB⟩)
    subst hxl
    have hm' : maxLen ≤ 9223372036854775807 := by decide
    refine ⟨xs, ⟨some a, cap, rfl, hl, by omega, fun h0 => ⟨a, rfl, ?_, fun j p hj => ?_⟩⟩, by omega, fun z hz => ?_⟩
    · obtain ⟨cs', hc, -, -⟩ := hxs 0 _ (List.getElem?_eq_getElem h0)
      obtain ⟨hcl, hg⟩ := cells_get hc
      have hp := t.sz_pos
      have := cell_lt (hg 0 _ (List.getElem?_eq_getElem (by omega)))
      simp only [add_block] at this
      exact this
    · obtain ⟨cs', hc, hK, _⟩ := hxs j p hj
      refine ⟨cs', hK, fun i u hu2 => ?_⟩
      rw [← add_add]
      exact (cells_get hc).2 i u hu2
    · obtain ⟨j, hj, rfl⟩ := List.mem_iff_getElem.1 hz
      obtain ⟨_, _, _, hB⟩ := hxs j _ (List.getElem?_eq_getElem hj)
      exact hB
end
/-- The kind of a type's data, its layout looked at. -/
def tyFs (P : Program) (f : TypeId → Option Ty) : Nat → List Field → Option Ty
  | _, [] => none
  | off, [g] => match f g.type with
    | some t => match Nat.beq g.offset off, Nat.beq (P.cellsOf g.type) t.sz with | true, true => some t | _, _ => none
    | none => none
  | off, g :: g' :: r => match f g.type with
    | some t => match Nat.beq g.offset off, Nat.beq (P.cellsOf g.type) t.sz, tyFs P f (off + t.sz) (g' :: r) with | true, true, some u => some (.pr t u) | _, _, _ => none
    | none => none
/-- So many of a kind, side by side. -/
def repT (t : Ty) : Nat → Option Ty
  | 0 => none
  | 1 => some t
  | n + 2 => match repT t (n + 1) with | some u => some (.pr t u) | none => none
def tyB (P : Program) : Nat → TypeId → Option Ty
  | 0, _ => none
  | n + 1, T => match P.underlying T with
    | some (.int k) => some (.int k)
    | some .bool => some .bool
    | some .string => some .str
    | some (.slice e) => match tyB P n e with | some t => (match Nat.beq (P.cellsOf e) t.sz with | true => some (.sl t) | false => none) | none => none
    | some (.array k e) => match tyB P n e with
      | some t => (match Nat.beq (P.cellsOf e) t.sz, repT t k with
        | true, some u => (match Nat.beq (P.cellsOf T) u.sz with | true => some u | false => none)
        | _, _ => none)
      | none => none
    | some (.struct fs) => match tyFs P (tyB P n) 0 fs.toList with | some t => (match Nat.beq (P.cellsOf T) t.sz with | true => some t | false => none) | none => none
    | _ => none
theorem tyFs_opens {P : Program} {f : TypeId → Option Ty} (hf : ∀ T t, f T = some t → Opens P T t) {H : Type} {enc : TypeId × Value → H} {w : World} {base : Nat} {spare : Nat → Bool} {held : Bool} {fuel : Nat} {cs : List Value} :
    ∀ {fs : List Field} {off : Nat} {t : Ty}, tyFs P f off fs = some t → (∀ g ∈ fs, ∃ y, DataW.trod enc P w base spare held fuel g.type ((cs.drop g.offset).take (P.cellsOf g.type)) = some y) → ∃ a : t.D, t.K w (Old w) a ((cs.drop off).take t.sz) ∧ t.B a
  | [], _, _, h, _ => by cases h
  | [g], off, t, h, hy => by
    simp only [tyFs] at h
    split at h <;> (try cases h)
    rename_i t' ht
    split at h <;> cases h
    rename_i h1 h2
    obtain ⟨y, hy⟩ := hy g List.mem_cons_self
    have := hf _ _ ht _ _ _ _ _ _ _ _ _ hy
    rw [Nat.eq_of_beq_eq_true h1, Nat.eq_of_beq_eq_true h2] at this
    exact this
  | g :: g' :: r, off, t, h, hy => by
    simp only [tyFs] at h
    split at h <;> (try cases h)
    rename_i t' ht
    split at h <;> cases h
    rename_i u h1 h2 hu
    obtain ⟨y, hy0⟩ := hy g List.mem_cons_self
    have := hf _ _ ht _ _ _ _ _ _ _ _ _ hy0
    rw [Nat.eq_of_beq_eq_true h1, Nat.eq_of_beq_eq_true h2] at this
    obtain ⟨a, ha, hb⟩ := this
    obtain ⟨b, ha', hb'⟩ := tyFs_opens hf hu fun q hq => hy q (List.mem_cons_of_mem _ hq)
    refine ⟨(a, b), ⟨_, _, ?_, ha, ha'⟩, hb, hb'⟩
    show List.take (t'.sz + u.sz) _ = _
    rw [List.take_add, List.drop_drop]
theorem repT_opens {P : Program} {e : TypeId} {t : Ty} (hf : Opens P e t) {H : Type} {enc : TypeId × Value → H} {w : World} {base : Nat} {spare : Nat → Bool} {held : Bool} {fuel : Nat} {cs : List Value} :
    ∀ {n : Nat} {u : Ty}, repT t n = some u → ∀ off : Nat, (∀ i, i < n → ∃ y, DataW.trod enc P w base spare held fuel e ((cs.drop (off + i * t.sz)).take t.sz) = some y) → ∃ a : u.D, u.K w (Old w) a ((cs.drop off).take u.sz) ∧ u.B a
  | 0, _, h, _, _ => by cases h
  | 1, u, h, off, hy => by
    cases h
    obtain ⟨y, hy⟩ := hy 0 (by omega)
    rw [Nat.zero_mul, Nat.add_zero] at hy
    exact hf _ _ _ _ _ _ _ _ _ hy
  | n + 2, u, h, off, hy => by
    simp only [repT] at h
    split at h <;> cases h
    rename_i u' hu
    obtain ⟨y, hy0⟩ := hy 0 (by omega)
    rw [Nat.zero_mul, Nat.add_zero] at hy0
    obtain ⟨a, ha, hb⟩ := hf _ _ _ _ _ _ _ _ _ hy0
    obtain ⟨b, ha', hb'⟩ := repT_opens hf hu (off + t.sz) fun i hi => by
      have := hy (i + 1) (by omega)
      rwa [Nat.add_mul, Nat.one_mul, show off + (i * t.sz + t.sz) = off + t.sz + i * t.sz by omega] at this
    refine ⟨(a, b), ⟨_, _, ?_, ha, ha'⟩, hb, hb'⟩
    show List.take (t.sz + u'.sz) _ = _
    rw [List.take_add, List.drop_drop]
theorem tyB_opens {P : Program} : ∀ {n : Nat} {T : TypeId} {t : Ty}, tyB P n T = some t → Opens P T t
  | 0, _, _, h => by cases h
  | n + 1, T, t, h => by
    simp only [tyB] at h
    split at h <;> (try cases h)
    · exact opens_int (by assumption)
    · exact opens_bool (by assumption)
    · exact opens_string (by assumption)
    · split at h <;> (try cases h)
      split at h <;> cases h
      rename_i hu _ _ ht _ hs
      exact opens_slice hu (Nat.eq_of_beq_eq_true hs) (tyB_opens ht)
    · rename_i k e hu
      split at h <;> (try cases h)
      rename_i t' ht
      split at h <;> (try cases h)
      rename_i u hs hr
      split at h <;> cases h
      rename_i hs2
      intro H enc w base spare held fuel cs x h
      obtain ⟨xs, m, rfl, rfl, hl, hxl, hf⟩ := DataW.trod_array hu h
      have := repT_opens (tyB_opens ht) hr (H := H) (enc := enc) (w := w) (base := base) (spare := spare) (held := held) (fuel := m) (cs := cs) 0 fun i hi => by
        have h1 := hf i hi
        rw [Nat.eq_of_beq_eq_true hs] at h1
        exact ⟨xs[i]'(by omega), by rw [Nat.zero_add, h1]; exact List.getElem?_eq_getElem (by omega)⟩
      rw [List.drop_zero, List.take_of_length_le (by rw [hl, Nat.eq_of_beq_eq_true hs2]; exact Nat.le_refl _)] at this
      exact this
    · rename_i fs hu
      split at h <;> (try cases h)
      rename_i t' ht
      split at h <;> cases h
      rename_i hs
      intro H enc w base spare held fuel cs x h
      obtain ⟨xs, m, rfl, rfl, hl, hxl, hf⟩ := DataW.trod_struct hu h
      have := tyFs_opens (fun T t h => tyB_opens h) ht (H := H) (enc := enc) (w := w) (base := base) (spare := spare) (held := held) (fuel := m) (cs := cs) fun g hg => by
        obtain ⟨i, hi, e⟩ := List.getElem_of_mem hg
        have hi' : i < fs.size := by simpa using hi
        have hx : i < xs.length := by omega
        have h1 := hf i g (by rw [Array.getElem?_eq_getElem hi']; simpa using e)
        exact ⟨xs[i], by rw [h1]; exact List.getElem?_eq_getElem hx⟩
      rw [List.drop_zero, List.take_of_length_le (by rw [hl, Nat.eq_of_beq_eq_true hs]; exact Nat.le_refl _)] at this
      exact this
/-- A kind's cells. -/
def tsOf : Ty → List TS → List TS
  | .int k, r => .int k :: r
  | .bool, r => .bool :: r
  | .str, r => .str :: r
  | .sl e, r => .row e :: r
  | .pr a b, r => tsOf a (tsOf b r)
def put : (t : Ty) → (r : List TS) → {X : Type} → t.D → TL r X → TL (tsOf t r) X
  | .int _, _, _, x, d => (x, d)
  | .bool, _, _, x, d => (x, d)
  | .str, _, _, x, d => (x, d)
  | .sl _, _, _, x, d => (x, d)
  | .pr a b, r, _, x, d => put a (tsOf b r) x.1 (put b r x.2 d)
theorem put_mk : ∀ (t : Ty) (r : List TS) {X : Type} (x : t.D) (d : TL r X), mkL (tsOf t r) (put t r x d) = (enc t x ++ (mkL r d).1, (mkL r d).2)
  | .int _, _, _, _, _ | .bool, _, _, _, _ | .str, _, _, _, _ | .sl _, _, _, _, _ => rfl
  | .pr a b, r, X, x, d => by
    show mkL (tsOf a (tsOf b r)) (put a (tsOf b r) x.1 (put b r x.2 d)) = _
    rw [put_mk a, put_mk b]
    simp [enc]
/-- Bounds of a template's data. -/
def BS : (T : TS) → {X : Type} → T.D X → (X → Prop) → Prop
  | .int k, _, d, K => (Lit.int k d.1).wf = true ∧ K d.2
  | .bool, _, d, K => K d.2
  | .str, _, d, K => d.1.size ≤ maxLen ∧ K d.2
  | .row t, _, d, K => (d.1.length ≤ maxLen ∧ ∀ a ∈ d.1, t.B a) ∧ K d.2
  | .con _, _, d, K => K d
  | .rp _ _, _, _, _ => False
  | .ep _ _ _, _, _, _ => False
def BL : (l : List TS) → {X : Type} → TL l X → (X → Prop) → Prop
  | [], _, d, K => K d
  | T :: r, _, d, K => BS T d fun d => BL r d K
def BAs : (l : List TA) → {X : Type} → TAs l X → (X → Prop) → Prop
  | [], _, d, K => K d
  | .c _ l :: r, _, d, K => BL l d fun d => BAs r d K
  | .t _ :: _, _, _, _ => False
theorem put_B : ∀ (t : Ty) (r : List TS) {X : Type} (x : t.D) (d : TL r X) (K : X → Prop), t.B x → BL r d K → BL (tsOf t r) (put t r x d) K
  | .int _, _, _, _, _, _, h, h' => ⟨h, h'⟩
  | .bool, _, _, _, _, _, _, h' => h'
  | .str, _, _, _, _, _, h, h' => ⟨h, h'⟩
  | .sl _, _, _, _, _, _, h, h' => ⟨h, h'⟩
  | .pr a b, r, _, x, d, K, h, h' => put_B a (tsOf b r) x.1 _ K h.1 (put_B b r x.2 d K h.2 h')
def aggT (P : Program) (T : TypeId) : Bool := match P.underlying T with | some (.struct _) => true | _ => false
def notArr (P : Program) (T : TypeId) : Bool := match P.underlying T with | some (.array _ _) => false | _ => true
def tyAs (P : Program) : List TypeId → Option (List TA)
  | [] => some []
  | T :: r => match notArr P T, tyB P 20 T, tyAs P r with
    | true, some t, some l => some (.c (aggT P T) (tsOf t []) :: l)
    | _, _, _ => none
def rowsOk (P : Program) : List TypeId → Bool
  | [] => true
  | T :: r => P.readableRec T && (decide (T < P.types.size) && rowsOk P r)
/-- Nothing of the names: what was there ahead stays. -/
def mp0 (w : World) : Mp := ⟨fun _ => 0, fun _ => 0, fun _ => 0, fun _ => false, Old w⟩
/-- An argument. -/
theorem arg_R {H : Type} {enc : TypeId × Value → H} {P : Program} {w : World} {r : Reach} {b0 base : Nat} {spare : Nat → Bool} {held : Bool} {T : TypeId} {t : Ty} {v : Value} {y : DataW H} {p : List MemPlace} {n : Nat} (hna : notArr P T = true) (ht : tyB P (n + 1) T = some t) (hv : Value.okWide P w r b0 T v) (h : DataW.Trod enc P w base spare held T v y p) :
    ∃ a : t.D, t.B a ∧ CV.R w (mp0 w) ⟨aggT P T, Am.enc t a⟩ v := by
  obtain ⟨fuel, hf⟩ := h
  obtain ⟨a, hK, hB⟩ := tyB_opens ht _ _ _ _ _ _ _ _ _ hf
  have hR := enc_R (m := mp0 w) t hK
  refine ⟨a, hB, ?_⟩
  have one : ∀ {u : Value} {c : Value}, v = u → u.cells = #[c] → c = u → aggT P T = false → CV.R w (mp0 w) ⟨aggT P T, Am.enc t a⟩ v := fun {u c} e e1 e2 hg => by
    subst e
    rw [e1] at hR
    rw [hg]
    simp only at hR
    match he : Am.enc t a, hR with
    | [x], hR => subst e2; exact CV.R_one hR.1
    | [], hR => exact hR.elim
    | _ :: _ :: _, hR => exact hR.2.elim
  simp only [tyB] at ht
  split at ht <;> (try cases ht)
  · rename_i hu
    obtain ⟨n, rfl⟩ := okWide_int hu hv
    exact one rfl rfl rfl (by simp [aggT, hu])
  · rename_i hu
    obtain ⟨n, rfl⟩ := okWide_bool hu hv
    exact one rfl rfl rfl (by simp [aggT, hu])
  · rename_i hu
    obtain ⟨n, rfl⟩ := okWide_string hu hv
    exact one rfl rfl rfl (by simp [aggT, hu])
  · rename_i hu
    obtain ⟨_, _, _, rfl⟩ := okWide_slice hu hv
    exact one rfl rfl rfl (by simp [aggT, hu])
  · rename_i hu
    simp [notArr, hu] at hna
  · rename_i fs hu
    obtain ⟨cs, rfl, hsz⟩ := okWide_struct hu hv
    have : aggT P T = true := by simp [aggT, hu]
    rw [this]
    exact CV.R_agg hR
theorem below_of {w w' : World} (hio : Io w w') (hsz : w.heap.size ≤ w'.heap.size) (hfr : ∀ k, k < w.heap.size → w'.heap[k]? = w.heap[k]?) : Below w.heap.size w w' := ⟨hio.1, hio.2.1, hio.2.2, hsz, hfr⟩
/-- All arguments. -/
theorem args_R {H : Type} {enc : TypeId × Value → H} {P : Program} {w : World} {r : Reach} {b0 : Nat} : ∀ {Ts : List TypeId} {vs : List Value} {ds : List (DataW H)} {p : List MemPlace} {As : List TA}, tyAs P Ts = some As → (∀ (j : Nat) t v, Ts[j]? = some t → vs[j]? = some v → Value.okWide P w r b0 t v) → DataW.TrodAll enc P w 0 (fun _ => true) true Ts vs ds p →
    ∃ d : TAs As Unit, BAs As d (fun _ => True) ∧ F2 (AV.R w (mp0 w)) (mkAs As d).1 vs
  | [], vs, ds, p, As, h, hv, hT => by
    cases h
    obtain ⟨rfl, rfl, rfl⟩ := trodAll_nil hT
    exact ⟨(), trivial, trivial⟩
  | T :: Ts, vs, ds, p, As, h, hv, hT => by
    simp only [tyAs] at h
    split at h <;> cases h
    rename_i t l h0a h1 h2
    obtain ⟨v, vs', d, ds', p0, q0, rfl, rfl, rfl, h0, r0⟩ := trodAll_cons hT
    obtain ⟨x, hB, hR⟩ := arg_R h0a h1 (hv 0 T v rfl rfl) h0
    obtain ⟨d', hB', hR'⟩ := args_R h2 (fun j t v h1 h2 => hv (j + 1) t v h1 h2) r0
    refine ⟨put t [] x (X := TAs l Unit) d', put_B t [] x (X := TAs l Unit) d' _ hB hB', ?_⟩
    have e := put_mk t [] (X := TAs l Unit) x d'
    simp only [mkL, List.append_nil] at e
    show F2 _ ((mkAs (.c (aggT P T) (tsOf t []) :: l) (put t [] x (X := TAs l Unit) d')).1) _
    simp only [mkAs, TA.mk, e]
    exact ⟨hR, hR'⟩
theorem args_T {H : Type} {enc : TypeId × Value → H} {P : Program} {w w' : World} (hl : laidOutB P = true) (bel : Below w.heap.size w w') : ∀ {Ts : List TypeId} {vs : List Value} {ds : List (DataW H)} {p : List MemPlace}, rowsOk P Ts = true → DataW.TrodAll enc P w 0 (fun _ => true) true Ts vs ds p → DataW.TrodAll enc P w' 0 (fun b => decide (b < w.heap.size)) true Ts vs ds p
  | [], vs, ds, p, h, hT => by
    obtain ⟨rfl, rfl, rfl⟩ := trodAll_nil hT
    exact trodAll_mk0
  | T :: Ts, vs, ds, p, h, hT => by
    simp only [rowsOk, Bool.and_eq_true, decide_eq_true_eq] at h
    obtain ⟨v, vs', d, ds', p0, q0, rfl, rfl, rfl, h0, r0⟩ := trodAll_cons hT
    have lt : ∀ x ∈ p0, x.block < w.heap.size := by
      obtain ⟨m, hm⟩ := h0
      exact DataW.trod_lt m _ _ _ hm
    exact trodAll_cons_mk (Below.trod hl h.1 h.2.1 h0 bel lt) (args_T hl bel h.2.2 r0)
/-- A contract of plain arguments, with a bool for its result, as a law's row wants it. -/
theorem Ctr.law {P : Program} (C : Ctr P) (hbs : C.s.bs = []) (ho : C.s.o = .c false [.bool]) {f : FuncId} (hf : C.f = .fn f) {W : World} {d : C.s.I} {r : C.s.O} (hr : C.run d = some r) (hb : ∀ v w' m', (C.s.res r).R w' m' v → v = .bool true) {args : Array Value} (hargs : F2 (AV.R W (mp0 W)) (C.s.args d) args.toList) :
    Calls P f args W fun e W' => e = .returned (.bool true) ∧ Below W.heap.size W W' := by
  have hbl : C.s.bl d = [] := by
    have : ∀ (l : List (Nat × TB)), l = [] → ∀ (X : Type) (d : TBs l X), (mkB l d).1 = [] := fun l e X d => by subst e; rfl
    exact this _ hbs _ _
  have h := C.ok d r hr W (mp0 W) args.toList hargs (by rw [hbl]; exact fun p hp => by cases hp) (by rw [hbl]; exact fun p hp => by cases hp) (by rw [hbl]; exact fun p hp => by cases hp) (fun k hk => hk)
  rw [hf] at h
  have h : Calls P f args.toList.toArray W _ := h
  rw [Array.toArray_toList] at h
  refine h.mono ?_
  rintro e W' ⟨v, m', rfl, hres, -, -, -, -, hsz, hfr, -, -, -, hio⟩
  refine ⟨by rw [hb v W' m' hres], below_of hio hsz fun k hk => hfr k hk ?_⟩
  rw [hbl]
  rintro ⟨p, hp, -⟩
  cases hp
end Go.Proofs.Ytfjdhdmbbfeigaa.Am
