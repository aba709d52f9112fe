/- A function, executed: its contract. -/
import Derived.Test.YtfjdhdmbbfeigaaAmV
import Derived.KernelRfl
namespace Go.Proofs.Ytfjdhdmbbfeigaa.Am
set_option linter.unusedVariables false
set_option linter.unusedSimpArgs false
def isEnd : Exit → Bool
  | .normal | .ret => true
  | _ => false
def Sig.ot (s : Sig) : TSt := ⟨[(0, s.o)], s.ob⟩
/-- What a function is of its arguments' data. -/
noncomputable def exF (P : Program) (fn : Func) (n : Nat) (Γ : List (Ctr P)) (an : Ann) (s : Sig) (d : s.I) : Option s.O :=
  match fn.body, (keyN s.bs).all (fun b => Nat.blt b 100) && nodupN (keyN s.ob) with
  | some c, true => ex P fn.ntmps n Γ true c an ⟨num 0 (s.args d), somes (s.bl d)⟩ ⟨[], []⟩ fun e ov => match isEnd e with
    | true => (match resOf P (ov.ap ⟨[], []⟩) fn.results.toList with
      | some v => tell (X := Unit) s.ot ⟨[(0, v)], (ov.ap ⟨[], []⟩).blk⟩ ⟨[], []⟩ ()
      | none => none)
    | false => none
  | _, _ => none
theorem mkB_keys : ∀ (l : List (Nat × TB)) {X : Type} (d : TBs l X), (mkB l d).1.map (·.1) = l.map (·.1)
  | [], _, _ => rfl
  | p :: r, X, d => by
    simp only [mkB, List.map_cons, mkB_keys r]
theorem lk_somes_of {l : List (Nat × Blk)} (hn : nodupN (keyN l) = true) {p : Nat × Blk} (h : p ∈ l) : (lk (somes l) p.1).join = some p.2 := by
  have : lk (somes l) p.1 = some (some p.2) := lk_of_mem (by
    have : (somes l).map (·.1) = keyN l := by simp [somes, keyN]
    rw [this]; exact hn) (List.mem_map.2 ⟨p, h, rfl⟩)
  rw [this]; rfl
/-- What a contract asks for, of what is told at the end. -/
def PostC (s : Sig) (d : s.I) (r : s.O) (w : World) (m : Mp) (e : Ending) (w' : World) : Prop :=
  ∃ v m'', e = .returned v ∧ (s.res r).R w' m'' v ∧ (∀ p ∈ s.bl' r, p.2.R w' m'' p.1) ∧ (∀ p ∈ s.bl' r, m''.nl p.1 = false → ¬ m''.S (m''.mu p.1) ∧ (w.heap.size ≤ m''.mu p.1 ∨ InO m (s.bl d) (m''.mu p.1))) ∧ (∀ p ∈ s.bl' r, ∀ q ∈ s.bl' r, m''.nl p.1 = false → m''.nl q.1 = false → m''.mu p.1 = m''.mu q.1 → p.1 = q.1) ∧
      (∀ k, m''.S k → k < w'.heap.size) ∧ w.heap.size ≤ w'.heap.size ∧ (∀ k, k < w.heap.size → ¬ InO m (s.bl d) k → w'.heap[k]? = w.heap[k]?) ∧ (∀ k, m.S k → m''.S k) ∧ (∀ k, m''.S k → m.S k ∨ w.heap.size ≤ k ∨ InO m (s.bl d) k) ∧ (∀ p ∈ s.bl d, m''.at_ p.1 = m.at_ p.1) ∧ Io w w'
theorem fin_of {s : Sig} {d : s.I} {r : s.O} {w w' : World} {m m1 : Mp} {E : Ent} {N : Nat} (hE : E = ⟨w, InO m (s.bl d), m.S, N, m⟩) {st : St} {a : Act} (o : OK E st m1 a w') {v : AV} {val : Value} (hvr : v.R w' m1 val) (ht : tell (X := Unit) s.ot ⟨[(0, v)], st.blk⟩ ⟨[], []⟩ () = some r)
    (hbl : ∀ p ∈ s.bl d, p.1 < 100) (kbl' : keyN (s.bl' r) = keyN s.ob) (hk2 : nodupN (keyN s.ob) = true) : PostC s d r w m (.returned val) w' := by
  subst hE
  let E1 : Ent := { (⟨w, InO m (s.bl d), m.S, N, m⟩ : Ent) with n := 1 }
  let a1 : Act := { tmps := #[val], defers := [] }
  have o1 : OK E1 ((⟨[(0, v)], st.blk⟩ : St).ap ⟨[], []⟩) m1 a1 w' := by
    have eb : ∀ b, ((⟨[(0, v)], st.blk⟩ : St).ap ⟨[], []⟩).b b = st.b b := fun b => by unfold St.ap St.b; simp
    refine ⟨⟨[], rfl, List.nodup_nil, fun r hr => by cases hr⟩, rfl, fun t u hu => ?_, fun b B hB => o.blk b B (by rw [← eb]; exact hB), fun b B hB => o.own b B (by rw [← eb]; exact hB), fun b c B C hB hC => o.inj b c B C (by rw [← eb]; exact hB) (by rw [← eb]; exact hC), o.lt, o.le, o.frame, o.sup, o.new, o.fix, o.io⟩
    have hu : lk [(0, v)] t = some u := hu
    rw [lk_cons] at hu
    split at hu
    · rename_i e0
      subst e0
      cases hu
      exact hvr
    · cases hu
  obtain ⟨m', o2⟩ := tell_sub ht E1 m1 a1 w' o1
  have hres : (s.res r).R w' m' val := o2.env 0 (s.res r) rfl
  have blks : ∀ p ∈ s.bl' r, ((s.ot.mk' (X := Unit) r).ap ⟨[], []⟩).b p.1 = some p.2 := fun p hp => by
    rw [ap_b]
    have : lk (s.ot.mk' (X := Unit) r).blk p.1 = some (some p.2) := lk_of_mem (by
      have : ((s.ot.mk' (X := Unit) r).blk).map (·.1) = keyN (s.bl' r) := by
        show (somes (s.bl' r)).map (·.1) = _
        simp [somes, keyN]
      rw [this, kbl']; exact hk2) (List.mem_map.2 ⟨p, hp, rfl⟩)
    rw [this]
  exact ⟨val, m', rfl, hres, fun p hp => o2.blk _ _ (blks p hp), fun p hp hn => o2.own _ _ (blks p hp) hn, fun p hp q hq hn hn' e => o2.inj _ _ _ _ (blks p hp) (blks q hq) hn hn' e, o2.lt, o2.le, o2.frame, o2.sup, o2.new, fun p hp => o2.fix _ (hbl p hp), o2.io⟩
/-- A mark's block is shut. -/
theorem OK.taken {E : Ent} {st : St} {m : Mp} {a a' : Act} {w : World} (h : OK E st m a w) {r : Nat} (p : Prot E st m w r) (e : a'.tmps = a.tmps) (hd : Dfr E st m a' (w.putObj r (.deferred none))) : OK E st m a' (w.putObj r (.deferred none)) := by
  have oth : ∀ k, k ≠ r → (w.putObj r (.deferred none)).heap[k]? = w.heap[k]? := fun k hk => World.putObj_heap_other hk
  have g : Goes w (w.putObj r (.deferred none)) m m (fun _ => True) := ⟨fun k hk => oth k fun e => p.noS (e ▸ hk), fun _ h => h, fun _ _ => rfl, fun _ _ => rfl, fun _ _ => rfl, fun _ _ => rfl⟩
  refine ⟨hd, by rw [e]; exact h.tmps, fun t v hv => by rw [e]; exact AV.R_goes g (fun _ _ => trivial) (h.env t v hv), fun b B hB => Blk.R_goes g trivial (fun hn => oth _ (p.no b B hB hn)) (fun _ _ => trivial) (h.blk b B hB), h.own, h.inj, by rw [World.putObj_size]; exact h.lt, by rw [World.putObj_size]; exact h.le, fun k hk hO => ?_, h.sup, h.new, h.fix, h.io⟩
  rw [oth k fun e => by have := p.own; omega]
  exact h.frame k hk hO
theorem leaves_marks {P : Program} {fn : Func} {R : Ending → World → Prop} {E : Ent} {st : St} {m : Mp} {a : Act} {w : World} (h : OK E st m a w) (fin : ∀ w', OK E st m { tmps := a.tmps, defers := [] } w' → ∃ v, (results fn a.tmps).run P w' = .ok v w' ∧ R (.returned v) w') : LeavesInM Fence.wide 0 P fn a.tmps R a.defers .returning w := by
  obtain ⟨l, e, nd, hl⟩ := h.defers
  rw [e]
  clear e
  induction l generalizing w a with
  | nil => exact fin w ⟨⟨[], rfl, List.nodup_nil, fun r hr => by cases hr⟩, h.tmps, h.env, h.blk, h.own, h.inj, h.lt, h.le, h.frame, h.sup, h.new, h.fix, h.io⟩
  | cons r l ih =>
    have p := hl r List.mem_cons_self
    obtain ⟨n1, n2⟩ := List.nodup_cons.1 nd
    have hl' : ∀ q ∈ l, Prot E st m (w.putObj r (.deferred none)) q := fun q hq => by
      have k := hl q (List.mem_cons_of_mem _ hq)
      exact ⟨by rw [World.putObj_heap_other fun e => n1 (by rw [← e]; exact hq)]; exact k.is, k.own, k.noS, k.no⟩
    have h' : OK E st m { tmps := a.tmps, defers := l.map fun r => ({ target := .collected r, args := #[] } : Deferred) } (w.putObj r (.deferred none)) := h.taken p rfl ⟨l, rfl, n2, hl'⟩
    exact ⟨(by intro e; cases e), .inl ⟨r, _, rfl, run_takeDeferred p.is, ih (a := { tmps := a.tmps, defers := l.map fun r => ({ target := .collected r, args := #[] } : Deferred) }) h' fin n2 hl'⟩⟩
/-- The labels of a function's ranges. -/
noncomputable def labsF (fn : Func) (an : Ann) : List (LI × LI) := match fn.body with | some c => labs fn.ntmps c an | none => []
/-- How a body is to end. -/
def QX (P : Program) (fn : Func) (s : Sig) (r : s.O) (e : Exit) (st : St) : Prop := isEnd e = true ∧ ∃ v, resOf P st fn.results.toList = some v ∧ tell (X := Unit) s.ot ⟨[(0, v)], st.blk⟩ ⟨[], []⟩ () = some r
theorem Spec.ofAW {P : Program} {f : FuncId} {fn : Func} {c : Code} {s : Sig} {d : s.I} {r : s.O} (hf : P.funcs[f]? = some fn) (hb : fn.body = some c) (hk1 : (keyN s.bs).all (fun b => Nat.blt b 100) = true) (hk2 : nodupN (keyN s.ob) = true) (hw : AW none P fn.ntmps c ((⟨num 0 (s.args d), somes (s.bl d)⟩ : St).ap ⟨[], []⟩) (QX P fn s r)) : Spec P (.fn f) (s.args d) (s.bl d) (s.res r) (s.bl' r) := by
  have kbl : keyN (s.bl d) = keyN s.bs := mkB_keys _ _
  have kbl' : keyN (s.bl' r) = keyN s.ob := mkB_keys _ _
  have hbl : ∀ p ∈ s.bl d, p.1 < 100 := fun p hp => blt_of (List.all_eq_true.1 hk1 p.1 (by rw [← kbl]; exact List.mem_map.2 ⟨p, hp, rfl⟩))
  intro w m vs hargs hblk hS hinj hlt
  let N := vs.length + (fn.ntmps - vs.length)
  let E : Ent := ⟨w, InO m (s.bl d), m.S, N, m⟩
  refine callsIn_wide (n := 0).1 (callsIn_of_wp_marks hf hb trivial ?_)
  have ok : OK E ((⟨num 0 (s.args d), somes (s.bl d)⟩ : St).ap ⟨[], []⟩) m { tmps := vs.toArray ++ Array.replicate (fn.ntmps - vs.toArray.size) undef, defers := [] } w := by
    have e0 : ((⟨num 0 (s.args d), somes (s.bl d)⟩ : St).ap ⟨[], []⟩) = st0 (s.args d) (s.bl d) := by unfold St.ap st0; simp
    rw [e0]
    have mem : ∀ b B, (st0 (s.args d) (s.bl d)).b b = some B → (b, B) ∈ s.bl d := fun b B h => lk_somes h
    refine ⟨⟨[], rfl, List.nodup_nil, fun r hr => by cases hr⟩, by simp [E, N], fun t v hv => ?_, fun b B hB => hblk _ (mem b B hB), fun b B hB hn => ⟨hS _ (mem b B hB) hn, .inr ⟨_, mem b B hB, hn, rfl⟩⟩, fun b c B C hB hC hn hn' e => hinj _ (mem b B hB) _ (mem c C hC) hn hn' e, hlt, Nat.le_refl _, fun _ _ _ => rfl, fun _ h => h, fun _ h => .inl h, fun _ _ => rfl, Io.refl _⟩
    obtain ⟨-, hv⟩ := lk_num (show lk (num 0 (s.args d)) t = some v from hv)
    obtain ⟨u, hu, hr⟩ := hargs.get _ hv
    have htl := F2_lt hargs hv
    simp only [Nat.sub_zero] at hu htl
    have : (vs.toArray ++ Array.replicate (fn.ntmps - vs.toArray.size) undef).getD t undef = u := by
      rw [Array.getD_eq_getD_getElem?, Array.getElem?_append_left (by simpa using htl)]
      simp [hu]
    rw [this]
    exact hr
  refine wpIn_mono (hw E m _ w (by simp only [E, N]; omega) ok) fun e a' w' ⟨st, m1, ⟨he, v, hv, ht⟩, o⟩ => ?_
  suffices hlv : LeavesInM Fence.wide 0 P fn a'.tmps (PostC s d r w m) a'.defers .returning w' by
    cases e <;> simp only [isEnd, Bool.false_eq_true] at he <;> exact hlv
  refine leaves_marks o fun w' o => ?_
  obtain ⟨val, hr, hvr⟩ := resOf_run o hv
  have fin := fin_of rfl o hvr ht (fun p hp => hbl p hp) kbl' hk2
  exact ⟨val, hr, fin⟩
theorem Spec.ofX {P : Program} {f : FuncId} {fn : Func} {n : Nat} {Γ : List (Ctr P)} {an : Ann} {s : Sig} {d : s.I} {r : s.O} (hf : P.funcs[f]? = some fn) (hl : (labsF fn an).map (·.1) = (labsF fn an).map (·.2)) (h : exF P fn n Γ an s d = some r) : Spec P (.fn f) (s.args d) (s.bl d) (s.res r) (s.bl' r) := by
  unfold exF at h
  split at h <;> (try cases h)
  rename_i c hb hk
  simp only [Bool.and_eq_true] at hk
  obtain ⟨hk1, hk2⟩ := hk
  refine Spec.ofAW hf hb hk1 hk2 (ex_ok (fun _ => rfl) (Labs.of (by unfold labsF at hl; rw [hb] at hl; exact hl)) h fun e ov he => ?_)
  split at he <;> (try cases he)
  rename_i hend
  split at he <;> (try cases he)
  rename_i v hv
  exact ⟨hend, v, hv, he⟩
/-- A function's contract. -/
@[reducible] def Ctr.of {P : Program} {f : FuncId} {fn : Func} (hf : P.funcs[f]? = some fn) (n : Nat) (Γ : List (Ctr P)) (an : Ann) (s : Sig) (run : s.I → Option s.O) (h : ∀ d, run d = exF P fn n Γ an s d) (hl : (labsF fn an).map (·.1) = (labsF fn an).map (·.2) := by kernel_rfl) : Ctr P :=
  ⟨.fn f, s, run, fun d r hr => Spec.ofX hf hl (by rw [← h]; exact hr)⟩
end Go.Proofs.Ytfjdhdmbbfeigaa.Am
