/- What operations make of a state: new blocks, and stores. -/
import Derived.Test.YtfjdhdmbbfeigaaAmE
namespace Go.Proofs.Ytfjdhdmbbfeigaa.Am
set_option linter.unusedVariables false
set_option linter.unusedSimpArgs false
theorem CV.R_cells {w : World} {m : Mp} {x : CV} {v : Value} (h : x.R w m v) : F2 (SV.R w m) x.l v.cells.toList := by
  unfold CV.R at h
  split at h
  · obtain ⟨vs, rfl, hf⟩ := h
    exact hf
  · obtain ⟨y, e, hy⟩ := h
    rw [e]
    have h1 := SV.R_one hy
    cases v <;> first | exact ⟨hy, trivial⟩ | (simp [Value.oneCell'] at h1)
theorem F2.one {w : World} {m : Mp} {l : List SV} {vs : List Value} (h : F2 (SV.R w m) l vs) : ∀ u ∈ vs, u.oneCell' = true := by
  intro u hu
  obtain ⟨i, hi, he⟩ := List.mem_iff_getElem.1 hu
  obtain ⟨a, _, ha⟩ := h.get' i (b := u) (by rw [List.getElem?_eq_getElem hi, he])
  exact SV.R_one ha
/-- An operation that makes one block. -/
theorem Does.new {P : Program} {o : Oper} {ev : Operand → Option AV} {bl : Nat → Option Blk} {nw : List Nat} {c : Prop} [Decidable c] {v : AV} {nb : Nat} {B : Blk} (hnb : nb ∈ nw)
    (h : c → ∀ (w : World) (m : Mp) (a : Act), (∀ o ka le x u, ev x = some u → u.R (w.alloc o) (m.set nb w.heap.size ka le false) (a.eval x)) → (∀ o ka le b B, bl b = some B → B.R (w.alloc o) (m.set nb w.heap.size ka le false) b) → ∃ o' ka le val, (execOp a.eval o).run P w = .ok (.value val) (w.alloc o') ∧ B.R (w.alloc o') (m.set nb w.heap.size ka le false) nb ∧ v.R (w.alloc o') (m.set nb w.heap.size ka le false) val) : Does P o ev bl nw ⟨c, some v, [(nb, some B)]⟩ := by
  intro E st m a w ok hev hbl hnw hns hd hc K Q hK
  have hf := hnw nb hnb
  have g : ∀ o ka le, Goes w (w.alloc o) m (m.set nb w.heap.size ka le false) st.has := fun o ka le => .alloc ok.lt fun b hb e => hf.1 (e ▸ hb)
  obtain ⟨o', ka, le, val, hr, hB, hv⟩ := h hc w m a (fun o ka le x u hx => AV.R_goes (g o ka le) (hns x u hx) (hev x u hx)) (fun o ka le b B hB => by
    have hs := hbl b B hB
    exact Blk.R_goes (g o ka le) (.inr (.inl ⟨B, hs⟩)) (fun hn => by have := Blk.R_lt (ok.blk b B hs) hn; rw [heap_alloc, if_neg (by omega)]) (fun c hc => .inr (.inr ⟨b, B, hs, hc⟩)) (ok.blk b B hs))
  unfold Oper.wp
  rw [hr, Oper.upon_value]
  exact hK _ _ _ ((ok.alloc ka le hf hB).put o.dst (some v) val hd fun x hx => by cases hx; exact hv)
theorem mu_set (m : Mp) (nb k ka le : Nat) (nl : Bool) : (m.set nb k ka le nl).mu nb = k := if_pos rfl
theorem ka_set (m : Mp) (nb k ka le : Nat) (nl : Bool) : (m.set nb k ka le nl).ka nb = ka := if_pos rfl
theorem le_set (m : Mp) (nb k ka le : Nat) (nl : Bool) : (m.set nb k ka le nl).le nb = le := if_pos rfl
theorem nl_set (m : Mp) (nb k ka le : Nat) (nl : Bool) : (m.set nb k ka le nl).nl nb = nl := if_pos rfl
theorem alloc_new (w : World) (o : Obj) : (w.alloc o).heap[w.heap.size]? = some o := by rw [heap_alloc, if_pos rfl]
theorem run_newRow (P : Program) (w : World) (t : TypeId) (cells : Array Value) : (newRow t cells).run P w = .ok ⟨w.heap.size, 0, none⟩ (w.alloc (.cells cells t)) := rfl
/-- A variable's block. -/
theorem var_new {w : World} {m : Mp} {nb le : Nat} {t : TypeId} {cells : Array Value} {l : List SV} (h : F2 (SV.R (w.alloc (.cells cells t)) (m.set nb w.heap.size cells.size le false)) l cells.toList) : Blk.R (w.alloc (.cells cells t)) (m.set nb w.heap.size cells.size le false) nb (.var t l) :=
  ⟨nl_set .., cells, by rw [mu_set, alloc_new], (ka_set ..).symm, h⟩
theorem does_box {P : Program} {o : Oper} {ev : Operand → Option AV} {bl : Nat → Option Blk} {nw : List Nat} {t : TypeId} {x : Operand} {y : CV} {nb : Nat} (ho : o.op = .box t x) (hx : ev x = some (.c y)) (hnb : nb ∈ nw) : Does P o ev bl nw ⟨True, some (V (.ptr nb 0)), [(nb, some (.var t y.l))]⟩ := by
  refine .new hnb fun _ w m a hev _ => ?_
  refine ⟨.cells (a.eval x).cells t, (a.eval x).cells.size, 0, .pointer (some ⟨w.heap.size, 0, none⟩), ?_, ?_, CV.R_one ?_⟩
  · simp [execOp, ho, Instr.box, newVar, run_newRow]
  · exact var_new (CV.R_cells (hev _ _ _ x _ hx))
  · simp only [SV.R, mu_set]
theorem does_alloc {P : Program} {o : Oper} {ev : Operand → Option AV} {bl : Nat → Option Blk} {nw : List Nat} {t : TypeId} {i : TypeInfo} {z : Value} {y : CV} {nb : Nat} (ho : o.op = .alloc t) (hi : P.info? t = some i) (hz : i.zero = some z) (hx : dcCV z = some y) (hnb : nb ∈ nw) : Does P o ev bl nw ⟨True, some (V (.ptr nb 0)), [(nb, some (.var t y.l))]⟩ := by
  refine .new hnb fun _ w m a hev _ => ?_
  refine ⟨.cells z.cells t, z.cells.size, 0, .pointer (some ⟨w.heap.size, 0, none⟩), ?_, ?_, CV.R_one ?_⟩
  · simp [execOp, ho, Instr.alloc, zeroValue, typeInfo, hi, hz, newVar, run_newRow]
  · exact var_new (CV.R_cells (dcCV_R hx _ _))
  · simp only [SV.R, mu_set]
/-- Parts put into cells. -/
def fillL {α : Type} (place : Nat → Option (Nat × Nat)) : List α → List (Nat × List α) → Option (List α)
  | l, [] => some l
  | l, (i, x) :: r => match place i with
    | some (off, size) => match decide (x.length = size ∧ off + x.length ≤ l.length) with
      | true => fillL place (l.take off ++ x ++ l.drop (off + x.length)) r
      | false => none
    | none => none
theorem foldl_set (off : Nat) : ∀ (xs : List Value) (k : Nat) (cells : Array Value), off + k + xs.length ≤ cells.size → ((xs.zipIdx k).foldl (fun cs (p : Value × Nat) => cs.setIfInBounds (off + p.2) p.1) cells).toList = cells.toList.take (off + k) ++ xs ++ cells.toList.drop (off + k + xs.length)
  | [], k, cells, _ => by simp
  | x :: xs, k, cells, h => by
    simp only [List.zipIdx_cons, List.foldl_cons, List.length_cons] at h ⊢
    rw [foldl_set off xs (k + 1) _ (by rw [Array.size_setIfInBounds]; omega)]
    rw [Array.toList_setIfInBounds]
    have e := list_seg_step cells.toList (off + k) x xs (by simp; omega)
    simpa [Nat.add_assoc, Nat.add_comm, Nat.add_left_comm] using e
theorem fill_run {α : Type} {R : α → Value → Prop} (place : Nat → Option (Nat × Nat)) : ∀ {ps : List (Nat × List α)} {l l' : List α} {cells : Array Value} {qs : List (Nat × Value)}, F2 R l cells.toList → F2 (fun (p : Nat × List α) (q : Nat × Value) => p.1 = q.1 ∧ F2 R p.2 q.2.cells.toList) ps qs → fillL place l ps = some l' → ∃ cells', Instr.fill place cells qs = some cells' ∧ F2 R l' cells'.toList
  | [], l, l', cells, [], hf, _, h => by cases h; exact ⟨cells, rfl, hf⟩
  | [], _, _, _, _ :: _, _, hq, _ => hq.elim
  | _ :: _, _, _, _, [], _, hq, _ => hq.elim
  | (i, x) :: ps, l, l', cells, (i', v) :: qs, hf, hq, h => by
    obtain ⟨⟨e, hx⟩, hq⟩ := hq
    simp only at e hx
    subst e
    simp only [fillL] at h
    split at h
    · rename_i off size hp
      split at h
      · rename_i hd
        have hd := of_decide_eq_true hd
        have hl := hf.len
        have hxl := hx.len
        have e1 := foldl_set off v.cells.toList 0 cells (by simp at hl hxl ⊢; omega)
        have hf' : F2 R (l.take off ++ x ++ l.drop (off + x.length)) (v.cells.toList.zipIdx.foldl (fun cs (p : Value × Nat) => cs.setIfInBounds (off + p.2) p.1) cells).toList := by
          rw [e1, Nat.add_zero, ← hxl]
          exact ((hf.take off).app hx).app (hf.drop _)
        obtain ⟨cells', h1, h2⟩ := fill_run place hf' hq h
        refine ⟨cells', ?_, h2⟩
        simp only [Instr.fill, hp]
        rw [if_neg (by simp at hl hxl ⊢; omega)]
        rw [← h1]
        congr 1
        rw [show v.cells.toList.zipIdx = v.cells.zipIdx.toList by simp, Array.foldl_toList]
      · cases h
    · cases h
/-- Parts of a composite value: their places, and what they are. -/
def partsOf (ev : Operand → Option AV) : List (Nat × Operand) → Option (List (Nat × List SV))
  | [] => some []
  | (i, x) :: r => match ev x, partsOf ev r with
    | some (.c y), some l => some ((i, y.l) :: l)
    | _, _ => none
theorem partsOf_R {ev : Operand → Option AV} {w : World} {m : Mp} {a : Act} (hev : ∀ x u, ev x = some u → u.R w m (a.eval x)) : ∀ {ps : List (Nat × Operand)} {l : List (Nat × List SV)}, partsOf ev ps = some l → F2 (fun (p : Nat × List SV) (q : Nat × Value) => p.1 = q.1 ∧ F2 (SV.R w m) p.2 q.2.cells.toList) l (ps.map fun p => (p.1, a.eval p.2))
  | [], l, h => by cases h; trivial
  | (i, x) :: ps, l, h => by
    simp only [partsOf] at h
    split at h
    · rename_i y l' h1 h2
      cases h
      exact ⟨⟨rfl, CV.R_cells (hev x _ h1)⟩, partsOf_R hev h2⟩
    · cases h
def placesOf (P : Program) : List Field → Option (List (Nat × Nat))
  | [] => some []
  | f :: r => match szOf P f.type, placesOf P r with | some n, some l => some ((f.offset, n) :: l) | _, _ => none
theorem run_placesOf {P : Program} {w : World} : ∀ {fs : List Field} {l : List (Nat × Nat)}, placesOf P fs = some l → (fs.mapM (m := Sem) fun f => do pure (f.offset, ← sizeOf f.type)).run P w = .ok l w
  | [], l, h => by cases h; simp
  | f :: r, l, h => by
    simp only [placesOf] at h
    split at h
    · rename_i n l' h1 h2
      cases h
      have ih := run_placesOf (w := w) h2
      simp only [List.mapM_cons, Sem.run_bind, run_szOf h1, Result.andThen_ok, Sem.run_pure, ih]
    · cases h
/-- A composite value of a struct's or an array's type. -/
def fBuild (P : Program) (ev : Operand → Option AV) (t : TypeId) (ps : List (Nat × Operand)) : Option AV :=
  match P.info? t with
  | some i => match i.zero with
    | some z => match dcCV z, partsOf ev ps with
      | some y, some l => match P.underlying t with
        | some (.struct fs) => match placesOf P fs.toList with
          | some pl => match fillL (fun k => pl[k]?) y.l l with | some r => some (G r) | none => none
          | none => none
        | some (.array _ e) => match szOf P e with
          | some n => match fillL (fun k => some (k * n, n)) y.l l with | some r => some (G r) | none => none
          | none => none
        | _ => none
      | _, _ => none
    | none => none
  | none => none
theorem fBuild_run {P : Program} {ev : Operand → Option AV} {t : TypeId} {ps : Array (Nat × Operand)} {y : AV} (h : fBuild P ev t ps.toList = some y) {w : World} {m : Mp} {a : Act} (hev : ∀ x u, ev x = some u → u.R w m (a.eval x)) : ∃ val, (Instr.build t (ps.map fun p => (p.1, a.eval p.2))).run P w = .ok val w ∧ y.R w m val := by
  unfold fBuild at h
  split at h <;> (try cases h)
  rename_i i hi
  split at h <;> (try cases h)
  rename_i z hz
  split at h <;> (try cases h)
  rename_i cv l hcv hl
  have hq := partsOf_R hev hl
  have hf := CV.R_cells (dcCV_R hcv w m)
  have hzv : (zeroValue t).run P w = .ok z w := by simp [zeroValue, typeInfo, hi, hz]
  split at h <;> (try cases h)
  · rename_i fs hu
    split at h <;> (try cases h)
    rename_i pl hpl
    split at h <;> cases h
    rename_i r hr
    obtain ⟨cells', h1, h2⟩ := fill_run _ hf hq hr
    refine ⟨.agg cells', ?_, CV.R_agg h2⟩
    have hp := run_placesOf (w := w) hpl
    have hm : (fs.mapM (m := Sem) fun f => do pure (f.offset, ← sizeOf f.type)).run P w = .ok pl.toArray w := by
      rw [← Array.toArray_toList (xs := fs), List.mapM_toArray]
      simp only [Sem.run_map, hp, Result.andThen_ok]
    simp only [Instr.build, Sem.run_bind, hzv, Result.andThen_ok, run_underlying hu, hm]
    simp [h1]
  · rename_i len e hu
    split at h <;> (try cases h)
    rename_i n hn
    split at h <;> cases h
    rename_i r hr
    obtain ⟨cells', h1, h2⟩ := fill_run _ hf hq hr
    refine ⟨.agg cells', ?_, CV.R_agg h2⟩
    simp only [Instr.build, Sem.run_bind, hzv, Result.andThen_ok, run_underlying hu, run_szOf hn]
    simp [h1]
end Go.Proofs.Ytfjdhdmbbfeigaa.Am
