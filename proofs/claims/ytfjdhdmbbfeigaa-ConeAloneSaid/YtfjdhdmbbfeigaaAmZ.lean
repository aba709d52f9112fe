/- Ranges over functions: the statement, and a round. -/
import Derived.Test.YtfjdhdmbbfeigaaAmX
import Derived.RangeFuncLeaves
import Derived.RangeFuncRecord
namespace Go.Proofs.Ytfjdhdmbbfeigaa.Am
set_option linter.unusedVariables false
set_option linter.unusedSimpArgs false
/-- A block for the rounds' deferred calls is laid, and marked. -/
theorem OK.mark {E : Ent} {st : St} {m : Mp} {a : Act} {w : World} (h : OK E st m a w) : OK E st m { a with defers := [{ target := .collected w.heap.size, args := #[] }] ++ a.defers } (w.alloc (.deferred (some []))) := by
  have oth : ∀ k, k < w.heap.size → (w.alloc (.deferred (some []))).heap[k]? = w.heap[k]? := fun k hk => by rw [heap_alloc, if_neg (Nat.ne_of_lt hk)]
  have g : Goes w (w.alloc (.deferred (some []))) m m (fun _ => True) := ⟨fun k hk => oth k (h.lt k hk), fun _ h => h, fun _ _ => rfl, fun _ _ => rfl, fun _ _ => rfl, fun _ _ => rfl⟩
  have sz := size_alloc w (.deferred (some []))
  obtain ⟨l, e, nd, hl⟩ := h.defers
  refine ⟨⟨w.heap.size :: l, by rw [List.map_cons, ← e]; rfl, List.nodup_cons.2 ⟨fun hm => Nat.lt_irrefl _ (hl _ hm).lt, nd⟩, fun r hr => ?_⟩, h.tmps, fun t v hv => AV.R_goes g (fun _ _ => trivial) (h.env t v hv), fun b B hB => Blk.R_goes g trivial (fun hn => oth _ (Blk.R_lt (h.blk b B hB) hn)) (fun _ _ => trivial) (h.blk b B hB), h.own, h.inj, fun k hk => by have := h.lt k hk; omega, by have := h.le; omega, fun k hk hO => by rw [oth k (by have := h.le; omega)]; exact h.frame k hk hO, h.sup, h.new, h.fix, h.io⟩
  rcases List.mem_cons.1 hr with rfl | hr
  · exact ⟨by rw [heap_alloc, if_pos rfl], h.le, fun hs => Nat.lt_irrefl _ (h.lt _ hs), fun b B hB hn e => by have := Blk.R_lt (h.blk b B hB) hn; omega⟩
  · have p := hl r hr
    exact ⟨by rw [oth r p.lt]; exact p.is, p.own, p.noS, p.no⟩
/-- A block of the function's own is spoken of no more: it may hold anything. -/
theorem OK.gone {E : Ent} {st : St} {m : Mp} {a : Act} {w : World} (h : OK E st m a w) {b : Nat} {B : Blk} (hb : st.b b = some B) (hn : m.nl b = false) (o : Obj) : OK E (st.setb b none) m a (w.putObj (m.mu b) o) := by
  have ob := h.own b B hb hn
  have oth : ∀ k, k ≠ m.mu b → (w.putObj (m.mu b) o).heap[k]? = w.heap[k]? := fun k hk => World.putObj_heap_other hk
  have g : Goes w (w.putObj (m.mu b) o) m m (fun _ => True) := ⟨fun k hk => oth k fun e => ob.1 (e ▸ hk), fun _ h => h, fun _ _ => rfl, fun _ _ => rfl, fun _ _ => rfl, fun _ _ => rfl⟩
  have key : ∀ c C, (st.setb b none).b c = some C → c ≠ b ∧ st.b c = some C := fun c C hC => by
    rw [St.setb_b] at hC
    split at hC
    · cases hC
    · rename_i e; exact ⟨Ne.symm e, hC⟩
  refine ⟨h.defers.go rfl fun r p => ⟨by rw [oth r fun e => p.no b B hb hn e.symm]; exact p.is, p.own, p.noS, fun c C hC => p.no c C (key c C hC).2⟩, h.tmps, fun t v hv => AV.R_goes g (fun _ _ => trivial) (h.env t v hv), fun c C hC => ?_, fun c C hC => h.own c C (key c C hC).2, fun c d C D hC hD => h.inj c d C D (key c C hC).2 (key d D hD).2, by rw [World.putObj_size]; exact h.lt, by rw [World.putObj_size]; exact h.le, fun k hk hO => ?_, h.sup, h.new, h.fix, h.io⟩
  · obtain ⟨hne, hC⟩ := key c C hC
    exact Blk.R_goes g trivial (fun hn' => oth _ fun e => hne (h.inj c b C B hC hb hn' hn e)) (fun _ _ => trivial) (h.blk c C hC)
  · rw [oth k fun e => ?_]
    · exact h.frame k hk hO
    · subst e
      rcases ob.2 with h1 | h1
      · omega
      · exact hO h1
theorem lopS_busy {j : Int} (h : 0 ≤ j) : lopS j ≠ .busy := by
  unfold lopS
  split
  · intro e; cases e
  · rw [if_neg (by omega)]; intro e; cases e
/-- The statement. -/
theorem AW.range {P : Program} {N : Nat} {st : St} {g : Operand} {ps : Array Tmp} {x y : Code} {Q : Exit → St → Prop} {f : FuncId} {fn : Func} {cap : List (Nat × Nat)} {k k' : Nat} {cs : List Nat} {tm tm' : List (Nat × AV)} {nb : Nat} {nw vw : List Nat} {cbl cbl' : List (Nat × Blk)} {res : AV} {j : Int}
    (hg : sv (evO st.e g) = some (.fn f cap)) (htm : ∀ p ∈ tm, st.e p.1 = some p.2) (hk : lt k = ⟨ps.toList, x, y, N⟩) (hnb : ¬ st.has nb ∧ 100 ≤ nb)
    (hfn : P.funcs[f]? = some fn) (hnm : (fn.name == "runtime.NumGoroutine") = false) (hbd : fn.body.isSome = true)
    (hnw : ∀ n ∈ nw, ¬ (st.setb nb (some (.lop k tm 0))).has n ∧ 100 ≤ n) (hbl : ∀ p ∈ cbl, (st.setb nb (some (.lop k tm 0))).b p.1 = some p.2) (hok : callOk vw cbl cbl' res nw = true)
    (hc : Spec P (.fn f) ((V (.yld nb cs) :: caps cap).map (vwAV (st.setb nb (some (.lop k tm 0))).b vw)) cbl res cbl')
    (hj : ((st.setb nb (some (.lop k tm 0))).setbs (callUb cbl cbl')).b nb = some (.lop k' tm' j)) (h0 : 0 ≤ j)
    (q0 : j = 0 → Q .normal (((st.setb nb (some (.lop k tm 0))).setbs (callUb cbl cbl')).setb nb none))
    (q1 : j = 1 → Q .ret (((st.setb nb (some (.lop k tm 0))).setbs (callUb cbl cbl')).setb nb none))
    (q2 : ∀ id : Nat, j = 2 + id → Q (.exit id) (((st.setb nb (some (.lop k tm 0))).setbs (callUb cbl cbl')).setb nb none)) : AW none P N (.rangeFunc g ps x y) st Q := by
  intro E m a w hN ok
  refine wpIn_rangeFunc fun fn0 hfn0 => ?_
  let w1 := w.alloc (.deferred (some []))
  let rec_ : Loop := { state := .ready, pending := none, fn := fn0, tmps := a.tmps, params := ps, assign := x, body := y, defers := w.heap.size }
  let w2 := w1.alloc (.loop rec_)
  let a1 : Act := { a with defers := [{ target := .collected w.heap.size, args := #[] }] ++ a.defers }
  let m1 := m.set nb w1.heap.size 0 0 false
  have sz1 : w1.heap.size = w.heap.size + 1 := size_alloc w _
  have okm : OK E st m a1 w1 := ok.mark
  have gm : Goes w1 w2 m m1 st.has := .alloc okm.lt fun b hb e => hnb.1 (e ▸ hb)
  have ok1 : OK E (st.setb nb (some (.lop k tm 0))) m1 a1 w2 := okm.alloc 0 0 hnb ⟨if_pos rfl, fn0, a.tmps, w.heap.size, by
    have e1 : m1.mu nb = w1.heap.size := if_pos rfl
    have e2 : (Loop.mk (lopS 0) (lopP 0) fn0 a.tmps (lt k).ps.toArray (lt k).as_ (lt k).bd w.heap.size) = rec_ := by rw [hk]; rfl
    rw [e2]
    show w2.heap[m1.mu nb]? = _
    rw [e1, heap_alloc, if_pos rfl], by rw [hk]; have := ok.tmps; show N ≤ _; omega, fun p hp => AV.R_goes gm (fun b hb => .inl ⟨_, _, htm p hp, hb⟩) (okm.env _ _ (htm p hp))⟩
  have hgv : a.eval g = .func (.func f) #[] (cap.map fun p => Value.pointer (some ⟨m.mu p.1, p.2, none⟩)).toArray := sv_R hg (fun u hu => evO_R ok.env g u hu)
  have hcapm : (cap.map fun p => Value.pointer (some ⟨m.mu p.1, p.2, none⟩)) = cap.map fun p => Value.pointer (some ⟨m1.mu p.1, p.2, none⟩) := List.map_congr_left fun p hp => by
    have hh : st.has p.1 := by
      unfold sv at hg
      split at hg <;> (try cases hg)
      rename_i z hz
      exact evO_ns (fun _ _ h => h) g _ hz p.1 (by simp [AV.ns, CV.ns, SV.ns]; exact ⟨_, hp⟩)
    rw [gm.mu p.1 hh]
  have hmu : m1.mu nb = w.heap.size + 1 := (if_pos rfl).trans sz1
  let vs : List Value := Value.func (.yield (w.heap.size + 1)) #[] #[] :: cap.map fun p => Value.pointer (some ⟨m1.mu p.1, p.2, none⟩)
  have hcall := call_ok (us := V (.yld nb cs) :: caps cap) (vs := vs) ok1 (fun _ _ h => h) hnw hbl hok ⟨CV.R_one (by show _ = _; rw [hmu]), caps_R w2 m1 cap⟩ hc
  refine ⟨w.heap.size + 1, [{ target := .collected w.heap.size, args := #[] }], w2, { target := .fn (.func f) (cap.map fun p => Value.pointer (some ⟨m1.mu p.1, p.2, none⟩)).toArray, args := #[.func (.yield (w.heap.size + 1)) #[] #[]] }, w2, f, vs.toArray, w2, run_enterLoop_outer _ _ _ _ _, ?_, fun f' _ => Fz_fn none f', ?_, fun h => (by cases h), ?_⟩
  · rw [hcapm] at hgv
    simp only [resolve, hgv]
    simp [go_sem]
  · have hb' : fn.body.isNone = false := by cases h : fn.body <;> simp_all
    have e3 : #[Value.func (.yield (w.heap.size + 1)) #[] #[]] ++ (cap.map fun p => Value.pointer (some ⟨m1.mu p.1, p.2, none⟩)).toArray = vs.toArray := by
      apply Array.ext'
      simp [vs]
    simp only [invoke, Array.empty_append, e3, callFunc, Sem.run_bind, run_program, Result.andThen_ok, hfn, hnm, hb', Bool.false_eq_true, if_false, Sem.run_pure]
  · refine callsIn_Fz (Calls.mono hcall fun e w' ⟨v, m2, he, ok2, hres2, hm2⟩ => ?_)
    subst he
    have hnbh : (st.setb nb (some (.lop k tm 0))).has nb := .inr (.inl ⟨_, by rw [St.setb_b, if_pos rfl]⟩)
    obtain ⟨e1, e2⟩ := hm2 nb hnbh
    have hb := ok2.blk nb _ hj
    obtain ⟨hn, fn1, tmps1, df1, hl, -, -⟩ := hb
    rw [e1, hmu] at hl
    have okg := ok2.gone hj hn (.loop { state := .exhausted, pending := lopP j, fn := fn1, tmps := tmps1, params := (lt k').ps.toArray, assign := (lt k').as_, body := (lt k').bd, defers := df1 })
    rw [e1, hmu] at okg
    have run := run_endLoop (P := P) hl (lopS_busy h0)
    by_cases j1 : j = 1
    · refine ⟨some .ret, _, run.trans ?_, wpIn_ret ⟨_, m2, q1 j1, okg⟩⟩
      rw [show lopP j = some .ret from if_pos j1]
    · by_cases j2 : 2 ≤ j
      · refine ⟨some (.exit (j - 2).toNat), _, run.trans ?_, wpIn_exit ⟨_, m2, q2 (j - 2).toNat (by omega), okg⟩⟩
        rw [show lopP j = some (.exit (j - 2).toNat) from (if_neg j1).trans (if_pos j2)]
      · refine ⟨none, _, run.trans ?_, ⟨_, m2, q0 (by omega), okg⟩⟩
        rw [show lopP j = none from (if_neg j1).trans (if_neg j2)]
end Go.Proofs.Ytfjdhdmbbfeigaa.Am
