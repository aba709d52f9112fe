/- What operations make of a state: places of elements, slices of slices, lengths, values. -/
import Derived.Test.YtfjdhdmbbfeigaaAmD
namespace Go.Proofs.Ytfjdhdmbbfeigaa.Am
set_option linter.unusedVariables false
set_option linter.unusedSimpArgs false
/-- What a slice that is read holds: (the kind, the elements). -/
def rowOf (bl : Nat → Option Blk) : SV → Option ((t : Ty) × List t.D)
  | .row t l => some ⟨t, l⟩
  | .own b sz => match bl b with | some (.row _ t l) => (match Nat.beq sz t.sz with | true => some ⟨t, l⟩ | false => none) | _ => none
  | .sub b sz off len => match bl b with | some (.row _ t l) => (match Nat.beq sz t.sz with | true => some ⟨t, (l.drop off).take len⟩ | false => none) | _ => none
  | _ => none
/-- How long a slice is. -/
def lenOf (bl : Nat → Option Blk) : SV → Option Nat
  | .row t l => some l.length
  | .own b sz => match bl b with | some (.row _ t l) => some l.length | _ => none
  | .sub b sz off len => some len
  | .nilsl => some 0
  | _ => none
theorem lenOf_R {bl : Nat → Option Blk} {x : SV} {n : Nat} (h : lenOf bl x = some n) {w : World} {m : Mp} {v : Value} (hx : x.R w m v) (hb : ∀ b B, bl b = some B → B.R w m b) : ∃ A c, v = .slice A n c := by
  cases x <;> simp only [lenOf] at h <;> (try cases h)
  case row t l => obtain ⟨A, c, e, _⟩ := hx; exact ⟨A, c, e⟩
  case nilsl => exact ⟨none, 0, hx⟩
  case own b sz =>
    split at h <;> cases h
    rename_i ty t l hB
    obtain ⟨h0, h1⟩ := hb b _ hB
    simp only [SV.R] at hx
    split at hx <;> rename_i hn <;> rw [hn] at h1
    · subst h1; exact ⟨none, 0, hx⟩
    · obtain ⟨cap, e, _⟩ := hx; exact ⟨_, _, by rw [e, h0]⟩
  case sub b sz off =>
    simp only [SV.R] at hx
    split at hx
    · obtain ⟨e, rfl⟩ := hx; exact ⟨none, 0, e⟩
    · obtain ⟨o, cap, e, _⟩ := hx; exact ⟨_, _, e⟩
/-- The place of an element. -/
def fIndex (P : Program) (bl : Nat → Option Blk) (t : TypeId) (x : SV) (i : SV) : Option (Cd × SV) :=
  match i with
  | .int _ i => match P.underlying t with
    | some (.slice e) => match szOf P e with
      | some n => match x with
        | .row t' l => (match Nat.beq n t'.sz with | true => some (⟨0 ≤ i ∧ i < l.length⟩, .rp t' l i 0) | false => none)
        | .own b sz => match bl b with
          | some (.row _ t' l) => (match Nat.beq n t'.sz, Nat.beq sz t'.sz with | true, true => some (⟨0 ≤ i ∧ i < l.length⟩, .ep b sz i 0) | _, _ => none)
          | _ => none
        | .sub b sz off len => match bl b with
          | some (.row _ t' l) => (match Nat.beq n t'.sz, Nat.beq sz t'.sz with | true, true => some (⟨(0 ≤ i ∧ i < len) ∧ off + len ≤ l.length⟩, .ep b sz (i + off) 0) | _, _ => none)
          | some (.var _ cs) => (match Nat.beq n sz, i with | true, .ofNat k => some (⟨k < len⟩, .ptr b (off * sz + k * sz)) | _, _ => none)
          | _ => none
        | _ => none
      | none => none
    | some (.array len e) => match szOf P e with
      | some n => match x, i with
        | .ptr b off, .ofNat k => some (⟨k < len⟩, .ptr b (off + k * n))
        | .ep b sz j fo, .ofNat k => some (⟨k < len⟩, .ep b sz j (fo + k * n))
        | .rp t' l j fo, .ofNat k => some (⟨k < len⟩, .rp t' l j (fo + k * n))
        | _, _ => none
      | none => none
    | _ => none
  | _ => none
theorem run_indexAt_s {P : Program} {t e : TypeId} {a : Addr} {len cap n : Nat} {k : IntKind} {i : Int} (h : P.underlying t = some (.slice e)) (hn : szOf P e = some n) (h0 : 0 ≤ i) (h1 : i < len) (w : World) : (Instr.indexAt t (.slice (some a) len cap) (.int k i)).run P w = .ok (.pointer (some (a.add (i.toNat * n)))) w := by
  simp [Instr.indexAt, run_underlying h, asIntOf, run_szOf hn, h0, h1]
theorem run_indexAt_a {P : Program} {t e : TypeId} {a : Addr} {len n k' : Nat} {k : IntKind} (h : P.underlying t = some (.array len e)) (hn : szOf P e = some n) (h1 : k' < len) (w : World) : (Instr.indexAt t (.pointer (some a)) (.int k (.ofNat k'))).run P w = .ok (.pointer (some (a.add (k' * n)))) w := by
  simp [Instr.indexAt, run_underlying h, asIntOf, run_szOf hn, Instr.sureAddr, h1]
theorem fIndex_run {P : Program} {bl : Nat → Option Blk} {t : TypeId} {x i y : SV} {c : Cd} (h : fIndex P bl t x i = some (c, y)) (hc : c.p) {w : World} {m : Mp} {v u : Value} (hx : x.R w m v) (hi : i.R w m u) (hb : ∀ b B, bl b = some B → B.R w m b) : ∃ val, (Instr.indexAt t v u).run P w = .ok val w ∧ y.R w m val := by
  unfold fIndex at h
  split at h <;> (try cases h)
  rename_i k i
  rw [show u = _ from hi]
  clear hi
  split at h <;> (try cases h)
  · rename_i e hu
    split at h <;> (try cases h)
    rename_i n hn
    split at h <;> (try cases h)
    · rename_i t' l
      split at h <;> (try cases h)
      rename_i hsz
      have hsz := Nat.eq_of_beq_eq_true hsz
      obtain ⟨h0, h1⟩ := hc
      obtain ⟨A, cap, rfl, hr⟩ := hx
      obtain ⟨q1, q2, q3⟩ := hr
      obtain ⟨ad, rfl, hs, hcell⟩ := q3 (by omega)
      refine ⟨_, run_indexAt_s hu hn h0 h1 w, h0, h1, ad, cap, by rw [hsz, Nat.add_zero], q1, q2, q3⟩
    · rename_i b sz
      split at h <;> (try cases h)
      rename_i ty t' l hB
      split at h <;> (try cases h)
      rename_i hs1 hs2
      have hs1 := Nat.eq_of_beq_eq_true hs1
      have hs2 := Nat.eq_of_beq_eq_true hs2
      obtain ⟨h0, h1⟩ := hc
      obtain ⟨q0, q1⟩ := hb b _ hB
      simp only [SV.R] at hx
      split at hx <;> rename_i hnl <;> rw [hnl] at q1
      · subst q1; simp at h1; omega
      · obtain ⟨cap, rfl, hle, hk⟩ := hx
        refine ⟨_, run_indexAt_s hu hn h0 (by omega) w, h0, by omega, ?_⟩
        rw [add_plain, hs1, hs2, Nat.zero_add, Nat.add_zero]
    · rename_i b sz off len
      split at h <;> (try cases h)
      · rename_i ty t' l hB
        split at h <;> (try cases h)
        rename_i hs1 hs2
        have hs1 := Nat.eq_of_beq_eq_true hs1
        have hs2 := Nat.eq_of_beq_eq_true hs2
        obtain ⟨⟨h0, h1⟩, h2⟩ := hc
        obtain ⟨q0, q1⟩ := hb b _ hB
        simp only [SV.R] at hx
        split at hx <;> rename_i hnl <;> rw [hnl] at q1
        · subst q1; simp at h2; omega
        · obtain ⟨o, cap, rfl, ⟨hle, hmx, hol⟩, hk⟩ := hx
          obtain ⟨rfl, hk⟩ := hk (by omega)
          refine ⟨_, run_indexAt_s hu hn h0 (by omega) w, by omega, by omega, ?_⟩
          rw [add_plain, hs1, hs2, Nat.add_zero, show (i + (off : Int)).toNat = off + i.toNat by omega, Nat.add_mul]
      · rename_i ty cs hB
        split at h <;> (try cases h)
        rename_i k' hs1
        have hs1 := Nat.eq_of_beq_eq_true hs1
        obtain ⟨q0, -⟩ := hb b _ hB
        simp only [SV.R] at hx
        rw [q0] at hx
        obtain ⟨o, cap, rfl, ⟨hle, hmx, hol⟩, hk⟩ := hx
        obtain ⟨rfl, hk⟩ := hk (by omega)
        refine ⟨_, run_indexAt_s hu hn (by simp) (by simpa using hc) w, ?_⟩
        rw [add_plain, hs1]
        rfl
  · rename_i len e hu
    split at h <;> (try cases h)
    rename_i n hn
    split at h <;> (try cases h)
    · rw [show v = _ from hx]
      refine ⟨_, run_indexAt_a hu hn hc w, ?_⟩
      rw [add_plain]
      rfl
    · obtain ⟨i0, i1, rfl⟩ := hx
      exact ⟨_, run_indexAt_a hu hn hc w, i0, i1, by rw [add_plain, Nat.add_assoc]⟩
    · obtain ⟨i0, i1, A, c, rfl, hr⟩ := hx
      exact ⟨_, run_indexAt_a hu hn hc w, i0, i1, A, c, by rw [add_add, Nat.add_assoc], hr⟩
/-- A slice's part: from lo up to hi. -/
def partRow (t : Ty) (l : List t.D) : Option SV → Option SV → Option (Cd × SV)
  | none, none => some (⟨True⟩, .row t l)
  | some (.int _ i), none => some (⟨0 ≤ i ∧ i ≤ l.length⟩, .row t (l.drop i.toNat))
  | none, some (.int _ j) => some (⟨0 ≤ j ∧ j ≤ l.length⟩, .row t (l.take j.toNat))
  | some (.int _ i), some (.int _ j) => some (⟨0 ≤ i ∧ i ≤ j ∧ j ≤ l.length⟩, .row t ((l.take j.toNat).drop i.toNat))
  | _, _ => none
def partOwn (b sz n : Nat) : Option SV → Option SV → Option (Cd × SV)
  | none, none => some (⟨True⟩, .own b sz)
  | some (.int _ i), none => some (⟨0 ≤ i ∧ i ≤ n⟩, .sub b sz i.toNat (n - i.toNat))
  | none, some (.int _ j) => some (⟨0 ≤ j ∧ j ≤ n⟩, .sub b sz 0 j.toNat)
  | some (.int _ i), some (.int _ j) => some (⟨0 ≤ i ∧ i ≤ j ∧ j ≤ n⟩, .sub b sz i.toNat (j.toNat - i.toNat))
  | _, _ => none
def partNil : Option SV → Option SV → Option (Cd × SV)
  | none, none => some (⟨True⟩, .nilsl)
  | some (.int _ i), none => some (⟨i = 0⟩, .nilsl)
  | none, some (.int _ j) => some (⟨j = 0⟩, .nilsl)
  | some (.int _ i), some (.int _ j) => some (⟨i = 0 ∧ j = 0⟩, .nilsl)
  | _, _ => none
def fSlice (P : Program) (bl : Nat → Option Blk) (t : TypeId) (x : SV) (lo hi : Option SV) : Option (Cd × SV) :=
  match P.underlying t with
  | some (.slice e) => match szOf P e with
    | some n => match x with
      | .row t' l => match Nat.beq n t'.sz with | true => partRow t' l lo hi | false => none
      | .own b sz => match bl b with
        | some (.row _ t' l) => match Nat.beq n t'.sz, Nat.beq sz t'.sz with | true, true => partOwn b sz l.length lo hi | _, _ => none
        | _ => none
      | .nilsl => partNil lo hi
      | _ => none
    | none => none
  | _ => none
/-- An end of a part: a number, or none. -/
def EndIs (v : Option Value) (d i : Nat) : Prop := (v = none ∧ i = d) ∨ ∃ k, v = some (.int k i)
def EndR (w : World) (m : Mp) (x : Option SV) (v : Option Value) : Prop := (x = none ∧ v = none) ∨ ∃ a b, x = some a ∧ v = some b ∧ a.R w m b
theorem run_slice_s {P : Program} {t e : TypeId} {A : Option Addr} {len cap n : Nat} (hu : P.underlying t = some (.slice e)) (hn : szOf P e = some n) (lo hi : Option Value) (i j : Nat) (hl : EndIs lo 0 i) (hh : EndIs hi len j) (h1 : i ≤ j) (h2 : j ≤ cap) (w : World) :
    (Instr.sliceAt t (.slice A len cap) lo hi none).run P w = .ok (.slice (if cap = i then A else A.map (·.add (i * n))) (j - i) (cap - i)) w := by
  rcases hl with ⟨rfl, rfl⟩ | ⟨k, rfl⟩ <;> rcases hh with ⟨rfl, rfl⟩ | ⟨k', rfl⟩
  · simp [Instr.sliceAt, run_underlying hu, Instr.slice, Instr.sliceBounds, run_szOf hn]
  · simp [Instr.sliceAt, run_underlying hu, Instr.slice, Instr.sliceBounds, Instr.sliceBound, asIntOf, run_szOf hn, h2]
    try (intro h; exact absurd h (by omega))
  · simp [Instr.sliceAt, run_underlying hu, Instr.slice, Instr.sliceBounds, Instr.sliceBound, asIntOf, run_szOf hn, h1]
    try (intro h; exact absurd h (by omega))
  · simp [Instr.sliceAt, run_underlying hu, Instr.slice, Instr.sliceBounds, Instr.sliceBound, asIntOf, run_szOf hn, h1, h2]
    try (intro h; exact absurd h (by omega))
theorem row_sliced {t : Ty} {w : World} {m : Mp} {A : Option Addr} {c : Nat} {l : List t.D} (h : Row t.sz (t.K w m.S) w m.S A c l) (i j : Nat) (h1 : i ≤ j) (h2 : j ≤ l.length) : SV.R w m (.row t ((l.take j).drop i)) (.slice (if c = i then A else A.map (·.add (i * t.sz))) (j - i) (c - i)) := by
  have hl : ((l.take j).drop i).length = j - i := by simp; omega
  have hlt : (l.take j).length = j := by simp; omega
  refine ⟨_, c - i, by rw [hl], ?_⟩
  have hd := (h.take j).drop i (by omega)
  split
  · rename_i e
    have := h.1
    have hz : ((l.take j).drop i).length = 0 := by omega
    exact ⟨hd.1, hd.2.1, fun h0 => by omega⟩
  · exact hd
theorem own_sliced {b sz : Nat} {w : World} {m : Mp} {cap : Nat} (hn : m.nl b = false) (h1 : m.le b ≤ cap) (h2 : cap * sz = m.ka b) (h3 : cap ≤ maxLen) (i j : Nat) (hij : i ≤ j) (hj : j ≤ m.le b) : SV.R w m (.sub b sz i (j - i)) (.slice (if cap = i then some ⟨m.mu b, 0, none⟩ else (some (⟨m.mu b, 0, none⟩ : Addr)).map (·.add (i * sz))) (j - i) (cap - i)) := by
  simp only [SV.R, hn]
  split
  · exact ⟨0, _, rfl, ⟨by omega, by omega, by omega⟩, fun h => by omega⟩
  · refine ⟨i * sz, cap - i, ?_, ⟨by omega, by omega, by omega⟩, fun h => ⟨rfl, ?_⟩⟩
    · simp only [Option.map_some, add_plain, Nat.zero_add]
    · rw [show i + (cap - i) = cap by omega]
      omega
theorem EndR.int {w : World} {m : Mp} {k : IntKind} {i : Int} {v : Option Value} (h : EndR w m (some (.int k i)) v) (h0 : 0 ≤ i) (d : Nat) : EndIs v d i.toNat := by
  rcases h with ⟨h, _⟩ | ⟨a, b, h, rfl, hr⟩
  · cases h
  · cases h
    exact .inr ⟨k, by rw [show b = _ from hr, show ((i.toNat : Nat) : Int) = i by omega]⟩
theorem EndR.non {w : World} {m : Mp} {v : Option Value} (h : EndR w m none v) (d : Nat) : EndIs v d d := by
  rcases h with ⟨_, rfl⟩ | ⟨a, b, h, _⟩
  · exact .inl ⟨rfl, rfl⟩
  · cases h
/-- The ends of a part, as numbers. -/
theorem partRow_ends {t : Ty} {l : List t.D} {lo hi : Option SV} {c : Cd} {y : SV} (h : partRow t l lo hi = some (c, y)) (hc : c.p) {w : World} {m : Mp} {vl vh : Option Value} (hl : EndR w m lo vl) (hh : EndR w m hi vh) : ∃ i j, EndIs vl 0 i ∧ EndIs vh l.length j ∧ i ≤ j ∧ j ≤ l.length ∧ y = .row t ((l.take j).drop i) := by
  unfold partRow at h
  split at h <;> cases h <;> (try dsimp only at hc)
  · exact ⟨0, l.length, hl.non 0, hh.non _, Nat.zero_le _, Nat.le_refl _, by simp⟩
  · rename_i k i
    exact ⟨i.toNat, l.length, hl.int hc.1 0, hh.non _, by omega, Nat.le_refl _, by simp⟩
  · rename_i k j
    exact ⟨0, j.toNat, hl.non 0, hh.int hc.1 _, Nat.zero_le _, by omega, by simp⟩
  · rename_i k i k' j
    exact ⟨i.toNat, j.toNat, hl.int hc.1 0, hh.int (by omega) _, by omega, by omega, rfl⟩
theorem partOwn_ends {b sz n : Nat} {lo hi : Option SV} {c : Cd} {y : SV} (h : partOwn b sz n lo hi = some (c, y)) (hc : c.p) {w : World} {m : Mp} {vl vh : Option Value} (hl : EndR w m lo vl) (hh : EndR w m hi vh) : ∃ i j, EndIs vl 0 i ∧ EndIs vh n j ∧ i ≤ j ∧ j ≤ n ∧ (y = .sub b sz i (j - i) ∨ y = .own b sz ∧ i = 0 ∧ j = n) := by
  unfold partOwn at h
  split at h <;> cases h <;> (try dsimp only at hc)
  · exact ⟨0, n, hl.non 0, hh.non _, Nat.zero_le _, Nat.le_refl _, .inr ⟨rfl, rfl, rfl⟩⟩
  · rename_i k i
    exact ⟨i.toNat, n, hl.int hc.1 0, hh.non _, by omega, Nat.le_refl _, .inl rfl⟩
  · rename_i k j
    exact ⟨0, j.toNat, hl.non 0, hh.int hc.1 _, Nat.zero_le _, by omega, .inl (by simp)⟩
  · rename_i k i k' j
    exact ⟨i.toNat, j.toNat, hl.int hc.1 0, hh.int (by omega) _, by omega, by omega, .inl rfl⟩
theorem partNil_ends {lo hi : Option SV} {c : Cd} {y : SV} (h : partNil lo hi = some (c, y)) (hc : c.p) {w : World} {m : Mp} {vl vh : Option Value} (hl : EndR w m lo vl) (hh : EndR w m hi vh) : EndIs vl 0 0 ∧ EndIs vh 0 0 ∧ y = .nilsl := by
  unfold partNil at h
  split at h <;> cases h <;> (try dsimp only at hc)
  · exact ⟨hl.non 0, hh.non _, rfl⟩
  · rename_i k i
    have := hl.int (k := k) (i := i) (by omega) 0
    rw [show i.toNat = 0 by omega] at this
    exact ⟨this, hh.non _, rfl⟩
  · rename_i k i
    have := hh.int (k := k) (i := i) (by omega) 0
    rw [show i.toNat = 0 by omega] at this
    exact ⟨hl.non 0, this, rfl⟩
  · rename_i k i k' j
    have h1 := hl.int (k := k) (i := i) (by omega) 0
    have h2 := hh.int (k := k') (i := j) (by omega) 0
    rw [show i.toNat = 0 by omega] at h1
    rw [show j.toNat = 0 by omega] at h2
    exact ⟨h1, h2, rfl⟩
theorem fSlice_run {P : Program} {bl : Nat → Option Blk} {t : TypeId} {x y : SV} {lo hi : Option SV} {c : Cd} (h : fSlice P bl t x lo hi = some (c, y)) (hc : c.p) {w : World} {m : Mp} {v : Value} {vl vh : Option Value} (hx : x.R w m v) (hlo : EndR w m lo vl) (hhi : EndR w m hi vh) (hb : ∀ b B, bl b = some B → B.R w m b) : ∃ val, (Instr.sliceAt t v vl vh none).run P w = .ok val w ∧ y.R w m val := by
  unfold fSlice at h
  split at h <;> (try cases h)
  rename_i e hu
  split at h <;> (try cases h)
  rename_i n hn
  split at h
  · rename_i t' l
    split at h <;> (try cases h)
    rename_i hsz
    have hsz := Nat.eq_of_beq_eq_true hsz
    subst hsz
    obtain ⟨A, cap, rfl, hr⟩ := hx
    obtain ⟨i, j, e1, e2, h1, h2, rfl⟩ := partRow_ends h hc hlo hhi
    exact ⟨_, run_slice_s hu hn vl vh i j e1 e2 h1 (Nat.le_trans h2 hr.1) w, row_sliced hr i j h1 h2⟩
  · rename_i b sz
    split at h <;> (try cases h)
    rename_i ty t' l hB
    split at h <;> (try cases h)
    rename_i hs1 hs2
    have hs1 := Nat.eq_of_beq_eq_true hs1
    have hs2 := Nat.eq_of_beq_eq_true hs2
    subst hs1; subst hs2
    obtain ⟨i, j, e1, e2, h1, h2, hy⟩ := partOwn_ends h hc hlo hhi
    obtain ⟨q0, q1⟩ := hb b _ hB
    simp only [SV.R] at hx
    split at hx <;> rename_i hnl <;> rw [hnl] at q1
    · subst hx; subst q1
      have hj : j = 0 := by simpa using h2
      subst hj
      have hi : i = 0 := by omega
      subst hi
      refine ⟨_, run_slice_s (A := none) (len := 0) (cap := 0) hu hn vl vh 0 0 e1 e2 (Nat.le_refl _) (Nat.le_refl _) w, ?_⟩
      rcases hy with rfl | ⟨rfl, -⟩ <;> simp only [SV.R, hnl] <;> simp
    · obtain ⟨cap, rfl, hle, hk, hmx⟩ := hx
      rw [q0] at e2 h2
      refine ⟨_, run_slice_s hu hn vl vh i j e1 e2 h1 (by omega) w, ?_⟩
      rcases hy with rfl | ⟨rfl, rfl, rfl⟩
      · exact own_sliced hnl hle hk hmx i j h1 h2
      · simp only [SV.R, hnl]
        refine ⟨cap, ?_, hle, hk, hmx⟩
        rw [q0]
        simp [Addr.add]
  · obtain ⟨e1, e2, rfl⟩ := partNil_ends h hc hlo hhi
    rw [show v = _ from hx]
    refine ⟨_, run_slice_s (A := none) (len := 0) (cap := 0) hu hn vl vh 0 0 e1 e2 (Nat.le_refl _) (Nat.le_refl _) w, ?_⟩
    simp [SV.R]
  · cases h
end Go.Proofs.Ytfjdhdmbbfeigaa.Am
