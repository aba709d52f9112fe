/- A row copied into an array that stands in a variable. -/
import Derived.Test.YtieocmcjecpgpaaAm2
namespace Go.Proofs.Ytieocmcjecpgpaa.Am
set_option linter.unusedVariables false
set_option linter.unusedSimpArgs false
theorem F2_of {α β : Type} {R : α → β → Prop} : ∀ {l : List α} {k : List β}, l.length = k.length → (∀ (j : Nat) a b, l[j]? = some a → k[j]? = some b → R a b) → F2 R l k
  | [], [], _, _ => trivial
  | a :: l, b :: k, hl, h => ⟨h 0 a b rfl rfl, F2_of (by simpa using hl) fun j x y hx hy => h (j + 1) x y (by simpa using hx) (by simpa using hy)⟩
  | [], _ :: _, hl, _ => by simp at hl
  | _ :: _, [], hl, _ => by simp at hl
theorem F2_len {α β : Type} {R : α → β → Prop} : ∀ {l : List α} {k : List β}, F2 R l k → l.length = k.length
  | [], [], _ => rfl
  | _ :: l, _ :: k, h => by simp [F2_len h.2]
  | [], _ :: _, h => h.elim
  | _ :: _, [], h => h.elim
/-- Ints laid over cells. -/
def ovr1 (k : IntKind) (l : List Int) (i : Nat) : SV → SV
  | .int k' v => .int k' (if i < l.length then at_ (.int k) l (i : Int) else v)
  | c => c
def ovr (k : IntKind) (l : List Int) : Nat → List SV → List SV
  | _, [] => []
  | i, c :: r => ovr1 k l i c :: ovr k l (i + 1) r
def allK (k : IntKind) : List SV → Bool
  | [] => true
  | .int k' _ :: r => decide (k' = k) && allK k r
  | _ :: _ => false
theorem allK_at {k : IntKind} : ∀ {cs : List SV} {j : Nat} {c : SV}, allK k cs = true → cs[j]? = some c → ∃ v, c = .int k v
  | [], _, _, _, h => by simp at h
  | x :: r, j, c, ha, h => by
    cases x <;> simp only [allK] at ha <;> (try cases ha)
    rename_i k' v
    simp only [Bool.and_eq_true, decide_eq_true_eq] at ha
    obtain ⟨rfl, ha⟩ := ha
    cases j with
    | zero => simp at h; exact ⟨v, h.symm⟩
    | succ j => exact allK_at ha (by simpa using h)
theorem ovr_len {k : IntKind} {l : List Int} : ∀ (cs : List SV) (i : Nat), (ovr k l i cs).length = cs.length
  | [], _ => rfl
  | c :: r, i => by simp [ovr, ovr_len r]
theorem ovr_at {k : IntKind} {l : List Int} : ∀ (cs : List SV) (i j : Nat), (ovr k l i cs)[j]? = (cs[j]?).map (ovr1 k l (i + j))
  | [], i, j => by simp [ovr]
  | c :: r, i, 0 => by simp [ovr]
  | c :: r, i, j + 1 => by
    rw [ovr, List.getElem?_cons_succ, List.getElem?_cons_succ, ovr_at r (i + 1) j]
    congr 2
    omega
/-- The three operations. -/
theorem AW.copyvar {P : Program} {N : Nat} {id x p d1 d2 d3 b n : Nat} {st : St} {o1 o2 o3 : Oper} {T dT sT e ty : TypeId} {k : IntKind} {l : List Int} {cs : List SV} {Q : Exit → St → Prop}
    (h1 : o1.op = .slice T (.tmp p) none none none) (g1 : o1.guard = none) (e1 : o1.dst = some d1) (h2 : o2.op = .move (.tmp x)) (g2 : o2.guard = none) (e2 : o2.dst = some d2) (h3 : o3.op = .call ⟨.builtin .copy, #[.tmp d1, .tmp d2], #[dT, sT]⟩) (g3 : o3.guard = none) (e3 : o3.dst = some d3)
    (n1 : d1 < N) (n2 : d2 < N) (n3 : d3 < N) (n12 : d1 ≠ d2) (n1x : d1 ≠ x)
    (hx : st.e x = some (V (.row (.int k) l))) (hp : st.e p = some (V (.ptr b 0))) (hb : st.b b = some (.var ty cs)) (hn : cs.length = n) (hk : allK k cs = true)
    (hT : P.underlying T = some (.array n e)) (hd : P.underlying dT = some (.slice e)) (hs : szOf P e = some 1)
    (q : Q .normal ((((st.put (some d1) none).put (some d2) none).setb b (some (.var ty (ovr k l 0 cs)))).put (some d3) none)) : AW none P N (.region id #[o1, o2, o3] false) st Q := by
  intro E m a w hN ok
  refine wpIn_region_list ?_
  have w1 : ∀ o : Oper, o.guard = none → ∀ y, Region.wanted o y := fun o h y => by simp [Region.wanted, h]
  have row := ok.env x _ hx
  have row2 := sv_R (w := w) (m := m) (y := .row (.int k) l) (o := some (V (.row (.int k) l))) (v := a.tmps.getD x undef) rfl (fun u hu => by cases hu; exact row)
  obtain ⟨A, c, e', hr⟩ := (show ∃ A c, a.tmps.getD x undef = .slice A l.length c ∧ Row (Ty.int k).sz ((Ty.int k).K w m.S) w m.S A c l from row2)
  have ptr := ok.env p _ hp
  have ptr2 : a.tmps.getD p undef = .pointer (some ⟨m.mu b, 0, none⟩) := sv_R (w := w) (m := m) (y := .ptr b 0) (o := some (V (.ptr b 0))) (v := a.tmps.getD p undef) rfl (fun u hu => by cases hu; exact ptr)
  obtain ⟨hnl, cells, q1, q2, q3⟩ := ok.blk b _ hb
  have hcl : cells.toList.length = n := by rw [← F2_len q3, hn]
  have csz : cells.toList.length = cells.size := Array.length_toList
  have hal : P.arrayLen T = n := by simp [Program.arrayLen, hT]
  have hel : P.elem T = e := by simp [Program.elem, hT]
  have hsz : (P.info? e).map (·.size) = some 1 := by
    unfold szOf at hs
    split at hs <;> (try cases hs)
    rename_i i hi
    simp [hi] at hs ⊢
    first | exact hs | assumption
  obtain ⟨inf, hi, hi1⟩ : ∃ inf, P.info? e = some inf ∧ inf.size = 1 := by
    cases hq : P.info? e with
    | none => rw [hq] at hsz; cases hsz
    | some inf => rw [hq] at hsz; exact ⟨inf, rfl, by simpa using hsz⟩
  -- the array as a slice
  have run1 : (execOp a.eval o1).run P w = .ok (.value (.slice (some ⟨m.mu b, 0, none⟩) n n)) w := by
    have hc : P.cellsOf e = 1 := by simp [Program.cellsOf, hi, hi1]
    have ev : a.eval (.tmp p) = .pointer (some ⟨m.mu b, 0, none⟩) := ptr2
    simp [execOp, h1, ev, Instr.sliceAt, Instr.sureAddr, run_underlying hT, Instr.sliceBounds, run_sizeOf w hi, hc, Addr.add]
  show wpListIn _ _ _ _ _ [o1, o2, o3] a w
  unfold wpListIn
  rw [if_pos (w1 o1 g1 _)]
  refine wpIn_of_wp (ρ := none) (by rw [h1]; intro c e; cases e) ?_
  unfold Oper.wp
  rw [run1, Oper.upon_value, e1]
  have ok1 := ok.put (some d1) none (.slice (some ⟨m.mu b, 0, none⟩) n n) (fun k hk => by cases hk; omega) (fun y hy => by cases hy)
  have ev1 : (a.put (some d1) (.slice (some ⟨m.mu b, 0, none⟩) n n)).tmps.getD d1 undef = .slice (some ⟨m.mu b, 0, none⟩) n n := by
    rw [put_get (by rw [ok.tmps]; omega), if_pos rfl]
  have evx : (a.put (some d1) (.slice (some ⟨m.mu b, 0, none⟩) n n)).tmps.getD x undef = .slice A l.length c := by
    rw [put_get (by rw [ok.tmps]; omega), if_neg n1x, e']
  generalize a.put (some d1) (.slice (some ⟨m.mu b, 0, none⟩) n n) = a1 at ok1 ev1 evx ⊢
  have run2 : (execOp a1.eval o2).run P w = .ok (.value (.slice A l.length c)) w := by
    have : a1.eval (.tmp x) = .slice A l.length c := evx
    simp [execOp, h2, this]
  show wpListIn _ _ _ _ _ [o2, o3] _ w
  unfold wpListIn
  rw [if_pos (w1 o2 g2 _)]
  refine wpIn_of_wp (ρ := none) (by rw [h2]; intro c e; cases e) ?_
  unfold Oper.wp
  rw [run2, Oper.upon_value, e2]
  have ok2 := ok1.put (some d2) none (.slice A l.length c) (fun k hk => by cases hk; omega) (fun y hy => by cases hy)
  have ev2 : (a1.put (some d2) (.slice A l.length c)).tmps.getD d2 undef = .slice A l.length c := by
    rw [put_get (by rw [ok1.tmps]; omega), if_pos rfl]
  have ev3 : (a1.put (some d2) (.slice A l.length c)).tmps.getD d1 undef = .slice (some ⟨m.mu b, 0, none⟩) n n := by
    rw [put_get (by rw [ok1.tmps]; omega), if_neg (Ne.symm n12), ev1]
  generalize a1.put (some d2) (.slice A l.length c) = a2 at ok2 ev2 ev3 ⊢
  have hst : ((st.put (some d1) none).put (some d2) none).b b = some (.var ty cs) := hb
  show wpListIn _ _ _ _ _ [o3] _ w
  unfold wpListIn
  rw [if_pos (w1 o3 g3 _)]
  refine wpIn_of_wp (ρ := none) (by rw [h3]; intro c e; cases e) ?_
  unfold Oper.wp
  have ea : a2.eval (.tmp d1) = .slice (some ⟨m.mu b, 0, none⟩) n n := ev3
  have eb : a2.eval (.tmp d2) = .slice A l.length c := ev2
  have fin : ∀ (w' : World) (z : Value), w'.heap.size = w.heap.size → (∀ k, k ≠ m.mu b → w'.heap[k]? = w.heap[k]?) → (∃ cells', w'.heap[m.mu b]? = some (.cells cells' ty (0, 0)) ∧ cells'.size = cells.size ∧ F2 (SV.R w' m) (ovr k l 0 cs) cells'.toList) → Io w w' → ∃ st' m', Q .normal st' ∧ OK E st' m' (a2.put (some d3) z) w' := fun w' z hsz hh ⟨cells', z1, z2, z3⟩ hio => by
    have okw := ok2.write hst hnl hsz hh (B' := .var ty (ovr k l 0 cs)) ⟨hnl, cells', z1, by rw [z2]; exact q2, z3⟩ hio
    exact ⟨_, m, q, okw.put (some d3) none z (fun k hk => by cases hk; omega) (fun y hy => by cases hy)⟩
  by_cases hn0 : min l.length n = 0
  · have same : ovr k l 0 cs = cs := by
      refine List.ext_getElem? fun j => ?_
      rw [ovr_at]
      cases hc : cs[j]? with
      | none => rfl
      | some y =>
        obtain ⟨v, rfl⟩ := allK_at hk hc
        have hj : j < cs.length := (List.getElem?_eq_some_iff.1 hc).1
        simp only [Option.map_some, ovr1, Nat.zero_add]
        rw [if_neg (by omega)]
    have hrun : (execOp a2.eval o3).run P w = .ok (.value (goInt 0)) w := by
      have hr := fun ty => run_copy_none (P := P) w dT sT ty e (some ⟨m.mu b, 0, none⟩) A n n l.length c hd hsz hn0
      simp [execOp, h3, resolve, invoke, builtin, ea, eb, hr]
    rw [hrun, Oper.upon_value, e3]
    exact fin w _ rfl (fun _ _ => rfl) ⟨cells, q1, rfl, by rw [same]; exact q3⟩ ⟨rfl, rfl, rfl⟩
  · obtain ⟨ad, hA, hS, hcell⟩ := hr.2.2 (by omega)
    subst hA
    obtain ⟨vs, v1, v2, v3⟩ := flat_cells (sz := (Ty.int k).sz) (K := (Ty.int k).K w m.S) (fun p cs h => Ty.K_len (Ty.int k) h) (l.take n) (fun k => w.cell? (ad.add k)) (fun j p hj => by
      rw [List.getElem?_take] at hj
      split at hj
      · exact hcell j p hj
      · cases hj)
    have one := rows_one v1 v3
    rw [show (Ty.int k).sz = 1 from rfl, Nat.mul_one, List.length_take, Nat.min_comm] at v1
    have hr := fun ty' => run_copy_row (P := P) w dT sT ty' e (m.mu b) 0 n n ad l.length c cells ty vs hd hsz q1 v1 v2 (by rw [v1]; show 0 + min _ _ ≤ _; omega) one
    have hrun : (execOp a2.eval o3).run P w = .ok (.value (goInt vs.length)) (w.setRow (m.mu b) (cells.toList.take 0 ++ vs ++ cells.toList.drop (0 + vs.length)).toArray) := by
      simp only [execOp, h3, resolve, ea, eb, invoke, builtin, Sem.run_bind]
      simp [execOp, h3, resolve, invoke, builtin, ea, eb, hr]
    have hv1 : vs.length = min l.length n := v1
    have g : Goes w (w.setRow (m.mu b) (cells.toList.take 0 ++ vs ++ cells.toList.drop (0 + vs.length)).toArray) m m (fun _ => True) :=
      ⟨fun k hk => setRow_other w _ k _ fun e => (ok.own b _ hb hnl).1 (e ▸ hk), fun _ h => h, fun _ _ => rfl, fun _ _ => rfl, fun _ _ => rfl, fun _ _ => rfl⟩
    rw [hrun, Oper.upon_value, e3]
    refine fin _ _ (size_setRow ..) (fun k hk => setRow_other w (m.mu b) k _ hk) ⟨_, setRow_heap w _ cells _ ty _ q1, by simp; omega, ?_⟩ ⟨rfl, rfl, rfl⟩
    refine F2_of (by rw [ovr_len]; simp; omega) fun j y u hy hu => ?_
    rw [ovr_at] at hy
    cases hc : cs[j]? with
    | none => rw [hc] at hy; cases hy
    | some z =>
      obtain ⟨v, rfl⟩ := allK_at hk hc
      have hj : j < cs.length := (List.getElem?_eq_some_iff.1 hc).1
      rw [hc] at hy
      simp only [Option.map_some, ovr1, Nat.zero_add, Option.some.injEq] at hy
      subst hy
      rw [List.toList_toArray, List.take_zero, List.nil_append, Nat.zero_add] at hu
      by_cases c : j < l.length
      · rw [if_pos c]
        rw [List.getElem?_append_left (by omega)] at hu
        obtain ⟨cs', hk', hc'⟩ := v3 j l[j] (by rw [List.getElem?_take, if_pos (by omega)]; exact List.getElem?_eq_getElem c)
        rw [show cs' = _ from hk'] at hc'
        have := hc' 0 _ rfl
        rw [show (Ty.int k).sz = 1 from rfl, Nat.mul_one, Nat.add_zero, hu] at this
        cases this
        show SV.R _ _ (.int k (at_ (.int k) l (j : Int))) _
        unfold at_
        rw [Int.toNat_natCast, List.getD_eq_getElem?_getD, List.getElem?_eq_getElem c]
        rfl
      · rw [if_neg c]
        rw [List.getElem?_append_right (by omega), List.getElem?_drop, show vs.length + (j - vs.length) = j by omega] at hu
        obtain ⟨u', hu', hr'⟩ := F2_get q3 hc
        rw [hu] at hu'
        cases hu'
        exact hr'
@[reducible] def keyS (k : IntKind) (o : TA) : Sig := ⟨[.c false [.row (.int k)]], [], o, []⟩
/-- The state behind the copy. -/
def keyT (st : St) (d1 d2 d3 b : Nat) (ty : TypeId) (k : IntKind) (l : List Int) (cs : List SV) : St := (((st.put (some d1) none).put (some d2) none).setb b (some (.var ty (ovr k l 0 cs)))).put (some d3) none
/-- A function that copies a row into an array, and hands it back. -/
theorem Spec.keyof {P : Program} {f : FuncId} {fn : Func} {i1 : Nat} {r0 r1 r3 : Code} {o1 o2 o3 : Oper} {o : TA} {k : IntKind} {s0 s1 : List Int → St} {g : List Int → (keyS k o).O} {x p d1 d2 d3 b n : Nat} {T dT sT e ty : TypeId} {cs : List SV}
    (hf : P.funcs[f]? = some fn) (hb : fn.body = some (.seq r0 (.seq r1 (.seq (.region i1 #[o1, o2, o3] false) r3)))) (hn : fn.ntmps = 8)
    (h1 : o1.op = .slice T (.tmp p) none none none) (g1 : o1.guard = none) (e1 : o1.dst = some d1) (h2 : o2.op = .move (.tmp x)) (g2 : o2.guard = none) (e2 : o2.dst = some d2) (h3 : o3.op = .call ⟨.builtin .copy, #[.tmp d1, .tmp d2], #[dT, sT]⟩) (g3 : o3.guard = none) (e3 : o3.dst = some d3)
    (n1 : d1 < 8) (n2 : d2 < 8) (n3 : d3 < 8) (n12 : d1 ≠ d2) (n1x : d1 ≠ x) (hcs : cs.length = n) (hk : allK k cs = true)
    (hT : P.underlying T = some (.array n e)) (hd : P.underlying dT = some (.slice e)) (hs : szOf P e = some 1)
    (l0 : (labs 8 r0 .d).map (·.1) = (labs 8 r0 .d).map (·.2)) (l1 : (labs 8 r1 .d).map (·.1) = (labs 8 r1 .d).map (·.2)) (l3 : (labs 8 r3 .d).map (·.1) = (labs 8 r3 .d).map (·.2))
    (k0 : ∀ l : List Int, ex P 8 0 [] true r0 .d ⟨[(0, V (.row (.int k) l))], []⟩ ⟨[], []⟩ (fun e ov => some (e, ov)) = some (.normal, s0 l))
    (k1 : ∀ l : List Int, ex P 8 0 [] true r1 .d (s0 l) ⟨[], []⟩ (fun e ov => some (e, ov)) = some (.normal, s1 l))
    (hx : ∀ l, (s1 l).e x = some (V (.row (.int k) l))) (hp : ∀ l, (s1 l).e p = some (V (.ptr b 0))) (hbl : ∀ l, (s1 l).b b = some (.var ty cs))
    (k3 : ∀ l : List Int, ex P 8 0 [] true r3 .d (keyT (s1 l) d1 d2 d3 b ty k l cs) ⟨[], []⟩ (keepK P fn (keyS k o)) = some (g l))
    {d : (keyS k o).I} {r : (keyS k o).O} (h : some (g d.1) = some r) : Spec P (.fn f) ((keyS k o).args d) ((keyS k o).bl d) ((keyS k o).res r) ((keyS k o).bl' r) := by
  obtain ⟨l, u⟩ := d
  refine Spec.ofAW hf hb rfl rfl ?_
  rw [hn]
  have e0 : ((⟨num 0 ((keyS k o).args (l, u)), somes ((keyS k o).bl (l, u))⟩ : St).ap ⟨[], []⟩) = (⟨[(0, V (.row (.int k) l))], []⟩ : St).ap ⟨[], []⟩ := rfl
  have ea : ∀ st : St, st.ap ⟨[], []⟩ = st := fun st => by unfold St.ap; simp
  rw [e0]
  refine .seq (ex_ok (fun _ => rfl) (Labs.of l0) (k0 l) fun e ov he => ?_)
  cases he
  refine .seq (ex_ok (fun _ => rfl) (Labs.of l1) (k1 l) fun e ov he => ?_)
  cases he
  refine .seq ?_
  rw [ea]
  refine AW.copyvar h1 g1 e1 h2 g2 e2 h3 g3 e3 n1 n2 n3 n12 n1x (hx l) (hp l) (hbl l) hcs hk hT hd hs ?_
  show AW none P 8 r3 (keyT (s1 l) d1 d2 d3 b ty k l cs) _
  rw [← ea (keyT (s1 l) d1 d2 d3 b ty k l cs)]
  refine ex_ok (fun _ => rfl) (Labs.of l3) ((k3 l).trans h) fun e ov he => ?_
  exact keepK_ok he
end Go.Proofs.Ytieocmcjecpgpaa.Am
