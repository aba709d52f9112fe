/- Slimmed by this session: what nothing names is struck out. -/
import Derived.Test.YtlnjefcfbncegaaXb0
import Derived.Test.YtlnjefcfbncegaaXb2
import Derived.Test.YtlnjefcfbncegaaXb4
namespace Go.Proofs.Ytlnjefcfbncegaa.Xb
open Go.RowKit Go.Proofs.YtlnjefcfbncegaaW.PrintWords Go.Proofs.YtlnjefcfbncegaaW.PrintLast Go.Proofs.YtlnjefcfbncegaaW.PrintMore
attribute [local go_sem] max2_int min2_int max_two min_two max_three min_three max_four min_four
set_option linter.unusedVariables false
set_option linter.unusedSimpArgs false
abbrev b1_5 := @blk_drewN
abbrev b2_5 := @blk_alloc
abbrev b3_5 := @blk_drew
abbrev b4_5 := @below_set
abbrev aM_5 := @Aside0.mk
abbrev b5_5 := @blk_below
abbrev b6_5 := @pw_below_drewN
abbrev b7_5 := @below_drew1
abbrev b8_5 := @below_alloc
abbrev b9_5 := @below_step
abbrev b0_5 := @below_size
abbrev c1_5 := @blk_put
abbrev c2_5 := @blk_far
theorem cells2_5 {w : World} {g : Nat} {t : TypeId} {x0 x1 : Value} (h : w.heap[g]? = some (.cells #[x0, x1] t (0, 0))) : w.cell? ⟨g, 0, none⟩ = some x0 ∧ w.cell? ⟨g, 1, none⟩ = some x1 ∧ w.frozen? ⟨g, 0, none⟩ = false ∧ w.frozen? ⟨g, 1, none⟩ = false := ⟨(blk_cell h 0).trans rfl, (blk_cell h 1).trans rfl, blk_frozen h 0, blk_frozen h 1⟩
theorem eqA53 (d : Nat) (w : World) (x0 y0 : Int) (x1 y1 : Int) :
  (Op.equalIn (d + 2) 53 (.agg #[.int .i64 x0, .int .i64 x1]) (.agg #[.int .i64 y0, .int .i64 y1])).run Try.prog w = .ok (x0 == y0 && (x1 == y1)) w := by
 obtain ⟨i, hi⟩ := Option.isSome_iff_exists.mp (show (Try.prog.info? 3).isSome = true by kernel_rfl)
 rw [run_equalIn_array w (d + 1) _ _ Try.underlying53 hi]
 have e0 : Try.prog.cellsOf 3 = 1 := by kernel_rfl
 simp only [List.range_eq_range', List.range', e0, Op.eqItems, Nat.zero_mul, Nat.one_mul, Nat.zero_add]
 go_simp
 by_cases h0 : x0 = y0 <;> by_cases h1 : x1 = y1 <;> simp [h0, h1]
attribute [local go_sem high] eqA53
open Go.Maps (Keyed) in
structure aig_Right.TM (P : Program) (w : World) (b : Nat) (kvs : List (Value × Value)) : Prop where
 ex : ∃ es clock, w.heap[b]? = some (.map es clock) ∧ es.toList.map (fun e => (e.key, e.val)) = kvs
 keys : ∀ p ∈ kvs, ∃ l, keyOf P 53 p.1 = some l
theorem aig_Right.laid : laidOutB Try.prog = true := by kernel_rfl
theorem aig_Right.cells : Try.prog.cellsOf 53 = 2 := by kernel_rfl
theorem aig_Right.row : (53 : TypeId) < Try.prog.types.size := of_decide_eq_true (by kernel_rfl)
theorem aig_Right.wide : (match Try.prog.underlying 53 with | some (.array _ _) | some (.struct _) => true | _ => false) = true := by rw [Try.underlying53]
theorem aig_Right.keyed : Go.Maps.Keyed Try.prog 53 := Go.Maps.Keyed.of_law (deep_law_laid aig_Right.laid (m := 2) (by omega) aig_Right.row (by kernel_rfl) aig_Right.wide)
theorem aig_Right.key (a b : Int) (ha : (Lit.int .i64 a).wf = true) (hb : (Lit.int .i64 b).wf = true) : keyOf Try.prog 53 (.agg #[.int .i64 a, .int .i64 b]) = some (.string (keyBytes [.int .i64 a, .int .i64 b])) := by
 have h1 : Try.prog.keyType 53 = true := by kernel_rfl
 have h2 : (Value.agg #[.int .i64 a, .int .i64 b]).formed Try.prog 53 = true := by simp [Value.formed, Try.underlying53, aig_Right.cells]
 have h3 : Try.prog.types.size = Try.prog.types.size - 1 + 1 := (Nat.succ_pred_eq_of_pos (Nat.lt_of_le_of_lt (Nat.zero_le _) aig_Right.row)).symm
 have h4 : Try.prog.cellsOf 3 = 1 := by kernel_rfl
 have h5 : ∀ (n : Nat) (x : Int), (Lit.int .i64 x).wf = true → Try.prog.keyLits (n + 1) 3 [.int .i64 x] = some [.int .i64 x] := fun n x hx => by simp [Program.keyLits, Try.underlying3, hx]
 have h6 : ∀ n : Nat, Try.prog.keyLits (n + 2) 53 [.int .i64 a, .int .i64 b] = some [.int .i64 a, .int .i64 b] := fun n => by
  have e0 := h5 n a ha
  have e1 := h5 n b hb
  unfold Program.keyLits
  rw [Try.underlying53]
  simp [aig_Right.cells, h4, List.range, List.range.loop, e0, e1]
 unfold keyOf
 rw [Try.underlying53]
 simp only [h1, h2, Bool.and_self, if_true]
 rw [h3]
 simp only [Value.cells]
 rw [show (Try.prog.types.size - 1 + 1 + 1) = Try.prog.types.size - 1 + 2 from rfl, h6]
 rfl
def aig_Right.fits (l : List S50) : Bool := decide (l.length < 4611686018427387904) && l.all fun x => (Lit.int .i64 x.f0).wf && (Lit.int .i64 x.f1).wf
def aig_Right.inn (l : List S50) (i : Int) : Bool := (l.take i.toNat).any fun y => y.f0 == (rd_T50 l i).f0 && y.f1 == (rd_T50 l i).f1
def aig_Right.pv (x : S50) : Value := .agg #[.int .i64 x.f0, .int .i64 x.f1]
def aig_Right.kvs (l : List S50) : List (Value × Value) := l.map fun x => (aig_Right.pv x, .bool true)
theorem aig_Right.same_of {a b c d : Int} (h : (!(a == c) || (!(b == d))) = false) : a = c ∧ b = d := by simpa using h
theorem aig_Right.TM.made (l : List S50) {w : World} (b : Nat) (h : w.heap[b]? = some (.map #[] 0)) : aig_Right.TM Try.prog w b (aig_Right.kvs (l.take (0 : Int).toNat)) := ⟨⟨#[], 0, h, rfl⟩, fun p hp => by cases hp⟩
theorem aig_Right.wf_at {l : List S50} {i : Int} (hf : aig_Right.fits l = true) (h0 : 0 ≤ i) (h1 : i < (l.length : Int)) : (Lit.int .i64 (rd_T50 l i).f0).wf = true ∧ (Lit.int .i64 (rd_T50 l i).f1).wf = true := by
 have hlt : i.toNat < l.length := by omega
 have e : rd_T50 l i = l[i.toNat] := by unfold rd_T50; rw [List.getD_eq_getElem?_getD, List.getElem?_eq_getElem hlt]; rfl
 rw [e]
 unfold aig_Right.fits at hf
 rw [Bool.and_eq_true] at hf
 have := List.all_eq_true.1 hf.2 _ (List.getElem_mem hlt)
 rwa [Bool.and_eq_true] at this
theorem aig_Right.pv_inj {x y : S50} (h : aig_Right.pv x = aig_Right.pv y) : x.f0 = y.f0 ∧ x.f1 = y.f1 := by
 unfold aig_Right.pv at h
 simpa using h
theorem aig_Right.ahead {l : List S50} {i : Int} : aig_Right.inn l i = true ↔ ∃ p ∈ aig_Right.kvs (l.take i.toNat), p.1 = aig_Right.pv (rd_T50 l i) := by
 unfold aig_Right.inn aig_Right.kvs
 rw [List.any_eq_true]
 constructor
 ·rintro ⟨y, hy, he⟩
  rw [Bool.and_eq_true, beq_iff_eq, beq_iff_eq] at he
  exact ⟨_, List.mem_map.2 ⟨y, hy, rfl⟩, by unfold aig_Right.pv; rw [he.1, he.2]⟩
 ·rintro ⟨p, hp, he⟩
  obtain ⟨y, hy, rfl⟩ := List.mem_map.1 hp
  obtain ⟨e0, e1⟩ := aig_Right.pv_inj he
  exact ⟨y, hy, by rw [e0, e1, beq_self_eq_true, beq_self_eq_true]; rfl⟩
theorem aig_Right.find {w : World} {b : Nat} {kvs : List (Value × Value)} (h : aig_Right.TM Try.prog w b kvs) {x : Value} {lx : Lit} (hx : keyOf Try.prog 53 x = some lx) : ∃ es clock, w.heap[b]? = some (.map es clock) ∧ es.toList.map (fun e => (e.key, e.val)) = kvs ∧
  (((Instr.findKey 53 x es.toList).run Try.prog w = .ok none w ∧ ∀ p ∈ kvs, p.1 ≠ x) ∨ ∃ j v, (Instr.findKey 53 x es.toList).run Try.prog w = .ok (some (j, v)) w ∧ (x, v) ∈ kvs) := by
 obtain ⟨es, clock, hb, rfl⟩ := h.ex
 refine ⟨es, clock, hb, rfl, ?_⟩
 have hk : ∀ e ∈ es.toList, ∃ l, keyOf Try.prog 53 e.key = some l := fun e he => h.keys (e.key, e.val) (List.mem_map.2 ⟨e, he, rfl⟩)
 rcases aig_Right.keyed.find w hx es.toList hk with ⟨hrun, hne⟩ | ⟨j, e0, hrun, hj, he⟩
 ·refine .inl ⟨hrun, fun p hp => ?_⟩
  obtain ⟨e, he, rfl⟩ := List.mem_map.1 hp
  exact hne e he
 ·subst he
  exact .inr ⟨j, e0.val, hrun, List.mem_map.2 ⟨e0, List.mem_of_getElem? hj, rfl⟩⟩
theorem aig_Right.hit {w : World} {b : Nat} {l : List S50} {i : Int} {a c : Int} (h : aig_Right.TM Try.prog w b (aig_Right.kvs (l.take i.toNat))) (hf : aig_Right.fits l = true) (h0 : 0 ≤ i) (h1 : i < (l.length : Int)) (he : a = (rd_T50 l i).f0 ∧ c = (rd_T50 l i).f1) (hi : aig_Right.inn l i = true) :
  (Instr.lookup 52 (.map (some b)) (.agg #[.int .i64 a, .int .i64 c]) false).run Try.prog w = .ok (.bool true) w := by
 obtain ⟨rfl, rfl⟩ := he
 obtain ⟨w0, w1⟩ := aig_Right.wf_at hf h0 h1
 have hx := aig_Right.key _ _ w0 w1
 obtain ⟨es, clock, hb, hm, hc⟩ := aig_Right.find h hx
 obtain ⟨p, hp, hpx⟩ := aig_Right.ahead.1 hi
 rcases hc with ⟨_, hne⟩ | ⟨j, v, hrun, hin⟩
 ·exact absurd hpx (hne p hp)
 ·have hv : v = .bool true := by
   obtain ⟨y, _, hy⟩ := List.mem_map.1 hin
   exact (Prod.mk.inj hy).2.symm
  subst hv
  simp [Instr.lookup, run_underlying Try.underlying52, Result.andThen, MapKept.run_getObj_map hb, aig_Right.keyed.check w _ hx, hrun]
theorem aig_Right.miss {w : World} {b : Nat} {l : List S50} {i : Int} {a c : Int} (h : aig_Right.TM Try.prog w b (aig_Right.kvs (l.take i.toNat))) (hf : aig_Right.fits l = true) (h0 : 0 ≤ i) (h1 : i < (l.length : Int)) (he : a = (rd_T50 l i).f0 ∧ c = (rd_T50 l i).f1) (hi : aig_Right.inn l i = false) :
  (Instr.lookup 52 (.map (some b)) (.agg #[.int .i64 a, .int .i64 c]) false).run Try.prog w = .ok (.bool false) w := by
 obtain ⟨rfl, rfl⟩ := he
 obtain ⟨w0, w1⟩ := aig_Right.wf_at hf h0 h1
 have hx := aig_Right.key _ _ w0 w1
 obtain ⟨es, clock, hb, hm, hc⟩ := aig_Right.find h hx
 have hz : (zeroValue 4).run Try.prog w = .ok (.bool false) w := by kernel_rfl
 rcases hc with ⟨hrun, _⟩ | ⟨j, v, _, hin⟩
 ·simp [Instr.lookup, run_underlying Try.underlying52, Result.andThen, MapKept.run_getObj_map hb, aig_Right.keyed.check w _ hx, hrun, hz]
 ·rw [aig_Right.ahead.2 ⟨_, hin, rfl⟩] at hi
  cases hi
theorem aig_Right.fresh {w : World} {b : Nat} {l : List S50} {i : Int} {a c : Int} (h : aig_Right.TM Try.prog w b (aig_Right.kvs (l.take i.toNat))) (hf : aig_Right.fits l = true) (h0 : 0 ≤ i) (h1 : i < (l.length : Int)) (he : a = (rd_T50 l i).f0 ∧ c = (rd_T50 l i).f1) (hi : aig_Right.inn l i = false) (v : Value) :
  ∃ w', (Instr.mapUpdate 52 (.map (some b)) (.agg #[.int .i64 a, .int .i64 c]) v).run Try.prog w = .ok () w' ∧ aig_Right.TM Try.prog w' b (aig_Right.kvs (l.take i.toNat) ++ [(.agg #[.int .i64 a, .int .i64 c], v)]) ∧ w.grownBy w' (some b) := by
 obtain ⟨rfl, rfl⟩ := he
 obtain ⟨w0, w1⟩ := aig_Right.wf_at hf h0 h1
 have hx := aig_Right.key _ _ w0 w1
 obtain ⟨es, clock, hb, hm, hc⟩ := aig_Right.find h hx
 rcases hc with ⟨hrun, _⟩ | ⟨j, v, _, hin⟩
 ·refine ⟨Go.ChangeMaps.setBlock w b (.map (es.push { key := .agg #[.int .i64 (rd_T50 l i).f0, .int .i64 (rd_T50 l i).f1], val := v, born := clock }) (clock + 1)), ?_, ⟨⟨_, _, ChangeMaps.heap_setBlock_same hb _, by simp [hm]⟩, ?_⟩, ⟨rfl, rfl, rfl, by simp [Go.ChangeMaps.setBlock], fun k _ hk => ChangeMaps.heap_setBlock_other hb _ (fun e => hk (by rw [e]))⟩⟩
  ·simp [Instr.mapUpdate, run_underlying Try.underlying52, Result.andThen, MapKept.run_getObj_map hb, aig_Right.keyed.check w _ hx, hrun, MapKept.run_setObj_map _ hb, Go.ChangeMaps.setBlock]
  ·intro p hp
   rcases List.mem_append.1 hp with hp | hp
   ·exact h.keys p hp
   ·simp at hp
    subst hp
    exact ⟨_, hx⟩
 ·rw [aig_Right.ahead.2 ⟨_, hin, rfl⟩] at hi
  cases hi
section
variable {P : Program} {ops : Array Oper} {o : Oper} {a : Act} {Q : Exit → Act → World → Prop} {rest : List Oper}
theorem aig_Right.map_event {W : World} (hgd : o.guard = none) {N : Tmp} (_hd : o.dst = some N) (hrun : (execOp a.eval o).run P W = .ok (.value (.map (some W.heap.size))) (W.alloc (.map #[] 0)))
  (h : ∀ g, g = W.heap.size → ∀ w1, w1.heap[g]? = some (.map #[] 0) → Below W.heap.size W w1 → wpList P ops Q rest (a.put o.dst (.map (some g))) w1) : wpList P ops Q (o :: rest) a W :=
 Kd.event_run hgd hrun (h _ rfl _ (MapKept.heap_alloc W _).1 (b8_5 (Below.refl _ _) _))
theorem aig_Right.store_event {W : World} (hgd : o.guard = none) {t : TypeId} {b : Nat} {key : Value} (m x v : Operand) (hop : o.op = Op.mapUpdate t m x v) (hm : a.eval m = .map (some b)) (hx : a.eval x = key) (hv : a.eval v = .bool true) {kvs : List (Value × Value)}
  (hl : ∀ v, ∃ w', (Instr.mapUpdate t (.map (some b)) key v).run P W = .ok () w' ∧ aig_Right.TM P w' b (kvs ++ [(key, v)]) ∧ W.grownBy w' (some b))
  (h : ∀ w', aig_Right.TM P w' b (kvs ++ [(key, .bool true)]) → W.grownBy w' (some b) → wpList P ops Q rest (a.put o.dst undef) w') : wpList P ops Q (o :: rest) a W := by
 refine wpList_plain hgd fun K' hK' => ?_
 obtain ⟨w', hrun, r1, r2⟩ := hl (.bool true)
 unfold Oper.wp
 simp [execOp, hop, hm, hx, hv, hrun, Result.andThen]
 exact hK' _ _ (h w' r1 r2)
end
theorem aig_Right.farc {w : World} {g : Nat} {o : Obj} (h : w.heap[g]? = some o) {p : Addr} (hp : g ≠ p.block) (u : Value) : (w.setCell p u).heap[g]? = some o := (Below.heap_setCell w p u g hp).trans h
theorem aig_Right.far {W w' : World} {g b : Nat} {o : Obj} (h : W.heap[g]? = some o) (hg : W.grownBy w' (some b)) (hne : g ≠ b) : w'.heap[g]? = some o := (hg.block g (Array.getElem?_eq_some_iff.1 h).1 (fun e => hne (Option.some.inj e))).trans h
theorem aig_Right.belowz {w0 W w' : World} {b : Nat} (h : Below w0.heap.size w0 W) (hg : W.grownBy w' (some b)) (hb : w0.heap.size ≤ b) : Below w0.heap.size w0 w' := pw_below_grown h (some b) h.size hg (fun k hk => by cases hk; exact hb)
theorem aig_Right.next {w : World} {b : Nat} {l : List S50} {i : Int} {a c : Int} (h : aig_Right.TM Try.prog w b (aig_Right.kvs (l.take i.toNat) ++ [(.agg #[.int .i64 a, .int .i64 c], .bool true)])) (hf : aig_Right.fits l = true) (h0 : 0 ≤ i) (h1 : i < (l.length : Int)) (he : a = (rd_T50 l i).f0 ∧ c = (rd_T50 l i).f1) :
  aig_Right.TM Try.prog w b (aig_Right.kvs (l.take (wrap64 (i + 1)).toNat)) := by
 obtain ⟨rfl, rfl⟩ := he
 have hlt : i.toNat < l.length := by omega
 have e : rd_T50 l i = l[i.toNat] := by unfold rd_T50; rw [List.getD_eq_getElem?_getD, List.getElem?_eq_getElem hlt]; rfl
 unfold aig_Right.fits at hf
 rw [Bool.and_eq_true, decide_eq_true_iff] at hf
 have hl := hf.1
 have ew : (wrap64 (i + 1)).toNat = i.toNat + 1 := by unfold wrap64; omega
 rw [ew, List.take_add_one, List.getElem?_eq_getElem hlt, ← e]
 unfold aig_Right.kvs at h ⊢
 rw [List.map_append]
 exact h
mutual
def aig_Right.j0 : Nat → Bool → Int → List (S50) → Option (Bool)
 | 0, _, _, _ => none
 | k + 1, x25, x103000, x103001 => if x25 = true then (some false) else (aig_Right.l0 k x103001 (x103001.length : Int) 0 x103000 x103001 0 0)
def aig_Right.l0 : Nat → List (S50) → Int → Int → Int → List (S50) → Int → Int → Option (Bool)
 | 0, _, _, _, _, _, _, _ => none
 | k + 1, x28, x29, x30, x103000, x103001, x104000, x104001 => if x30 < x29 then (if 0 ≤ x30 then (if x30 < (x28.length : Int) then ((aig_of.f ((rd_T50 x28 x30).f0) ((rd_T50 x28 x30).f1)).bind fun bt106 => ((aig_plain.f bt106.1 bt106.2).bind fun bt109 => (if bt109.2 = true then (some false) else (if (!(bt106.1 == ((rd_T50 x28 x30).f0)) || (!(bt106.2 == ((rd_T50 x28 x30).f1)))) = true then (some false) else (if bt106.1 < 2 then (some false) else (if (bt106.2 / 2) > (wrap64 (x103000 + x30)) then (some false) else (if aig_Right.inn x28 x30 = true then (some false) else (aig_Right.l0 k x28 x29 (wrap64 (x30 + 1)) x103000 x103001 ((rd_T50 x28 x30).f0) ((rd_T50 x28 x30).f1))))))))) else (none)) else (none)) else (some true)
end
def aig_Right.f (k : Nat) (a0_0 : Int) (l0_1 : List (S50)) : Option (Bool) := if aig_Right.fits l0_1 = true then (if a0_0 < 0 then (aig_Right.j0 k true a0_0 l0_1) else (if a0_0 > 1048576 then (aig_Right.j0 k true a0_0 l0_1) else (aig_Right.j0 k (decide ((l0_1.length : Int) > (wrap64 (1048576 - a0_0)))) a0_0 l0_1))) else none
theorem aig_Right.mono_l : ∀ k, (∀ y0 y1 y2, LeO (aig_Right.j0 k y0 y1 y2) (aig_Right.j0 (k + 1) y0 y1 y2)) ∧ (∀ y0 y1 y2 y3 y4 y5 y6, LeO (aig_Right.l0 k y0 y1 y2 y3 y4 y5 y6) (aig_Right.l0 (k + 1) y0 y1 y2 y3 y4 y5 y6))
 | 0 => ⟨fun _ _ _ r h => by simp [aig_Right.j0] at h, fun _ _ _ _ _ _ _ r h => by simp [aig_Right.l0] at h⟩
 | k + 1 => by
  obtain ⟨ih0, ih1⟩ := aig_Right.mono_l k
  refine ⟨?_, ?_⟩
  ·intro y0 y1 y2
   unfold aig_Right.j0
   repeat' first
   | (with_reducible exact ih0 _ _ _)
   | (with_reducible exact ih1 _ _ _ _ _ _ _)
   | (with_reducible exact LeO.refl _)
   | (with_reducible exact LeO.none _)
   | (with_reducible refine LeO.ite ?_ ?_)
   | (with_reducible refine LeO.bind ?_ (fun _ => ?_))
   | exact ih0 _ _ _
   | exact ih1 _ _ _ _ _ _ _
   | exact LeO.none _
   | refine LeO.ite ?_ ?_
   | refine LeO.bind ?_ (fun _ => ?_)
  ·intro y0 y1 y2 y3 y4 y5 y6
   unfold aig_Right.l0
   repeat' first
   | (with_reducible exact ih0 _ _ _)
   | (with_reducible exact ih1 _ _ _ _ _ _ _)
   | (with_reducible exact LeO.refl _)
   | (with_reducible exact LeO.none _)
   | (with_reducible refine LeO.ite ?_ ?_)
   | (with_reducible refine LeO.bind ?_ (fun _ => ?_))
   | exact ih0 _ _ _
   | exact ih1 _ _ _ _ _ _ _
   | exact LeO.none _
   | refine LeO.ite ?_ ?_
   | refine LeO.bind ?_ (fun _ => ?_)
theorem aig_Right.mono : ∀ a0 a1 k, LeO (aig_Right.f k a0 a1) (aig_Right.f (k + 1) a0 a1) := by
 intro a0 a1 k
 obtain ⟨ih0, ih1⟩ := aig_Right.mono_l k
 unfold aig_Right.f
 repeat' first
   | (with_reducible exact ih0 _ _ _)
   | (with_reducible exact ih1 _ _ _ _ _ _ _)
   | (with_reducible exact LeO.refl _)
   | (with_reducible exact LeO.none _)
   | (with_reducible refine LeO.ite ?_ ?_)
   | (with_reducible refine LeO.bind ?_ (fun _ => ?_))
   | exact ih0 _ _ _
   | exact ih1 _ _ _ _ _ _ _
   | exact LeO.none _
   | refine LeO.ite ?_ ?_
   | refine LeO.bind ?_ (fun _ => ?_)
set_option maxHeartbeats 8000000 in
set_option maxRecDepth 100000 in
theorem aig_Right.calls (k : Nat) (a0_0 : Int) (A0_1 : Option Addr) (c0_1 : Nat) (l0_1 : List (S50)) (r : Bool) (w : World) (hr0_1 : Kd.C k50 w A0_1 l0_1.length l0_1) (hc0_1 : l0_1.length ≤ c0_1) (h : aig_Right.f k a0_0 l0_1 = some r) :
  Calls Try.prog 12 #[.agg #[.int .i64 a0_0, .slice A0_1 l0_1.length c0_1]] w fun e w' => e = .returned (.bool r) ∧ Below w.heap.size w w' := by
 have hu24 := Try.underlying24
 have hu50 := Try.underlying50
 have hu53 := Try.underlying53
 have hix50_0 : ∀ (x0_ x1_ : Value) (W_ : World), (Instr.index 50 (.agg #[x0_, x1_]) (.int .i64 0)).run Try.prog W_ = .ok x0_ W_ := fun _ _ _ => by kernel_rfl
 have hix50_1 : ∀ (x0_ x1_ : Value) (W_ : World), (Instr.index 50 (.agg #[x0_, x1_]) (.int .i64 1)).run Try.prog W_ = .ok x1_ W_ := fun _ _ _ => by kernel_rfl
 have hix53_0 : ∀ (x0_ x1_ : Value) (W_ : World), (Instr.index 53 (.agg #[x0_, x1_]) (.int .i64 0)).run Try.prog W_ = .ok x0_ W_ := fun _ _ _ => by kernel_rfl
 have hix53_1 : ∀ (x0_ x1_ : Value) (W_ : World), (Instr.index 53 (.agg #[x0_, x1_]) (.int .i64 1)).run Try.prog W_ = .ok x1_ W_ := fun _ _ _ => by kernel_rfl
 have HR0_1 := aM_5 hr0_1
 have HC0_1 := aM_5 hc0_1
 clear hr0_1 hc0_1
 have HB := aM_5 (Below.refl w.heap.size w)
 have FI : aig_Right.fits l0_1 = true := by
  unfold aig_Right.f at h
  by_cases hfi : aig_Right.fits l0_1 = true
  ·exact hfi
  ·rw [if_neg hfi] at h; cases h
 have H : (if a0_0 < 0 then (aig_Right.j0 k true a0_0 l0_1) else (if a0_0 > 1048576 then (aig_Right.j0 k true a0_0 l0_1) else (aig_Right.j0 k (decide ((l0_1.length : Int) > (wrap64 (1048576 - a0_0)))) a0_0 l0_1))) = some r := by unfold aig_Right.f at h; rw [if_pos FI] at h; exact h
 have HFI := aM_5 FI
 clear FI h
 have HC2 := aM_5 H
 clear H
 go_enter Try.func12, Try.ntmps12
 go_upto_region 1 with (first | ((with_reducible refine gate_dst (N := 1) rfl ?_); (try (refine gate_guard (by rfl) ?_; dsimp only)); refine box_event ?hg (N := 1) ?hd (cs := #[.int .i64 a0_0, .slice A0_1 l0_1.length c0_1]) (t := 24) ?hr ?_; (case hd => rfl); (case hg => rfl); (case hr => first | (go_simp; done) | (go_simp; rfl)); intro gb102 hg w3 hbox hb; have n0_ := aM_5 (b9_5 (by repeat (first | (with_reducible first | exact HB.out | apply b8_5 | apply b6_5 | apply b7_5) | exact HB.out)) hb); have n1_ := aM_5 (hbox); have n2_ := aM_5 ((by rw [hg]; exact (b0_5 (by repeat (first | (with_reducible first | exact HB.out | apply b8_5 | apply b6_5 | apply b7_5) | exact HB.out))) : w.heap.size ≤ gb102)); have n3_ := aM_5 ((by rw [hg]; exact (b0_5 (by repeat (first | (with_reducible first | exact HB.out | apply b8_5 | apply b6_5 | apply b7_5) | exact HB.out))) : w.heap.size ≤ gb102)); clear HB; have HB := n0_; have BK102 := n1_; have GW102 := n2_; have GE102 := n3_; clear n0_ n1_ n2_ n3_; clear hb hbox hg))
 (try simp only [Act.put, List.setIfInBounds_toArray, List.set_cons_zero, List.set_cons_succ])
 go_cut [25] (fun v25 wc => ∃ (kq : Nat) (x25_1 : Bool), v25 = .bool x25_1 ∧ Aside0 (aig_Right.j0 kq x25_1 a0_0 l0_1 = some r) ∧ Aside0 (kq ≤ k) ∧ Aside0 (wc.heap[gb102]? = some (.cells #[.int .i64 a0_0, (.slice A0_1 l0_1.length c0_1)] 24 (0, 0))) ∧ Aside0 (Below w.heap.size w wc))
 case first =>
  have H := HC2.out
  clear HC2
  by_cases c4 : a0_0 < 0
  ·rw [if_pos c4] at H
   have c4b0 : decide (a0_0 < 0) = true := decide_eq_true c4
   clear c4
   (first | rw [c4b0] | (simp only [i64_w, i32_w]; rw [c4b0]) | skip)
   have H' := aM_5 H
   clear H
   obtain ⟨hcz5_0, hcz5_1, hfz5_0, hfz5_1⟩ := cells2_5 BK102.out
   go_wp2
   go_meet
   case rel => exact ⟨_, (true), (by first | rfl | (simp; done) | (simp [*]; done)), H', ⟨by first | omega | exact Nat.le_refl _⟩, ⟨by (with_reducible repeat (first | refine b1_5 ?_ _ | refine b3_5 ?_ | refine b2_5 ?_ _)); exact BK102.out⟩, ⟨by repeat (first | (with_reducible first | exact HB.out | apply b8_5 | apply b6_5 | apply b7_5 | refine b4_5 ?_ GE102.out) | exact HB.out)⟩⟩
  ·rw [if_neg c4] at H
   have c4b0 : decide (a0_0 < 0) = false := decide_eq_false c4
   clear c4
   (first | rw [c4b0] | (simp only [i64_w, i32_w]; rw [c4b0]) | skip)
   by_cases c6 : a0_0 > 1048576
   ·rw [if_pos c6] at H
    have c6b0 : decide (1048576 < a0_0) = true := decide_eq_true c6
    clear c6
    have H' := aM_5 H
    clear H
    obtain ⟨hcz7_0, hcz7_1, hfz7_0, hfz7_1⟩ := cells2_5 BK102.out
    go_wp2
    go_meet
    case rel => exact ⟨_, (true), (by first | rfl | (simp; done) | (simp [*]; done)), H', ⟨by first | omega | exact Nat.le_refl _⟩, ⟨by (with_reducible repeat (first | refine b1_5 ?_ _ | refine b3_5 ?_ | refine b2_5 ?_ _)); exact BK102.out⟩, ⟨by repeat (first | (with_reducible first | exact HB.out | apply b8_5 | apply b6_5 | apply b7_5 | refine b4_5 ?_ GE102.out) | exact HB.out)⟩⟩
   ·rw [if_neg c6] at H
    have c6b0 : decide (1048576 < a0_0) = false := decide_eq_false c6
    clear c6
    have H' := aM_5 H
    clear H
    obtain ⟨hcz8_0, hcz8_1, hfz8_0, hfz8_1⟩ := cells2_5 BK102.out
    go_wp2
    go_meet
    case rel => exact ⟨_, (decide ((l0_1.length : Int) > (wrap64 (1048576 - a0_0)))), (by first | rfl | (simp; done) | (simp [*]; done)), H', ⟨by first | omega | exact Nat.le_refl _⟩, ⟨by (with_reducible repeat (first | refine b1_5 ?_ _ | refine b3_5 ?_ | refine b2_5 ?_ _)); exact BK102.out⟩, ⟨by repeat (first | (with_reducible first | exact HB.out | apply b8_5 | apply b6_5 | apply b7_5 | refine b4_5 ?_ GE102.out) | exact HB.out)⟩⟩
 case rest =>
  clear HC2
  try clear c1
  try clear p2
  try clear c4
  try clear c4b0
  try clear c6
  try clear c6b0
  try clear p6
  try clear hcz5_0
  try clear hcz5_1
  try clear hcz7_0
  try clear hcz7_1
  try clear hcz8_0
  try clear hcz8_1
  try clear hfz5_0
  try clear hfz5_1
  try clear hfz7_0
  try clear hfz7_1
  try clear hfz8_0
  try clear hfz8_1
  obtain ⟨kq, x25_1, rfl, HA, HJ1, BK102, HB⟩ := hcut
  cases kq with
  | zero => exact absurd HA.out (by simp [aig_Right.j0])
  | succ kj1 =>
   have H := HA.out
   clear HA
   simp only [aig_Right.j0] at H
   by_cases c9 : x25_1 = true
   ·subst c9
    have H1 : (some false) = some r := by rw [if_pos rfl] at H; exact H
    clear H
    have H := H1
    clear H1
    obtain rfl := Option.some.inj H
    go_wp2
    go_ret
    exact ⟨by first | rfl | (simp [errW_none, errW_some] <;> rfl) | (simp [*, errW_none, errW_some] <;> rfl), by repeat (first | (with_reducible first | exact HB.out | apply b8_5 | apply b6_5 | apply b7_5 | refine b4_5 ?_ GE102.out) | exact HB.out)⟩
   ·replace c9 := Bool.eq_false_iff.mpr c9
    subst c9
    have H1 : (aig_Right.l0 kj1 l0_1 (l0_1.length : Int) 0 a0_0 l0_1 0 0) = some r := by rw [if_neg (show ¬ (false = true) by decide)] at H; exact H
    clear H
    have H := H1
    clear H1
    have H' := aM_5 H
    clear H
    go_wp2_with (first | ((with_reducible refine gate_dst (N := 26) rfl ?_); refine aig_Right.map_event ?hg (N := 26) ?hd ?hr ?_; (case hd => rfl); (case hg => rfl); (case hr => first | (go_simp; done) | (go_simp; rfl)); intro gb103 hg w10 hbox hb; have n0_ := aM_5 (b5_5 (by exact BK102.out) hb); have n1_ := aM_5 (b9_5 (by repeat (first | (with_reducible first | exact HB.out | apply b8_5 | apply b6_5 | apply b7_5 | refine b4_5 ?_ GE102.out) | exact HB.out)) hb); have n2_ := aM_5 (hbox); have n3_ := aM_5 ((by rw [hg]; exact (b0_5 (by repeat (first | (with_reducible first | exact HB.out | apply b8_5 | apply b6_5 | apply b7_5 | refine b4_5 ?_ GE102.out) | exact HB.out))) : w.heap.size ≤ gb103)); have n4_ := aM_5 ((by rw [hg]; exact (b0_5 (by repeat (first | (with_reducible first | exact HB.out | apply b8_5 | apply b6_5 | apply b7_5 | refine b4_5 ?_ GE102.out) | exact HB.out))) : w.heap.size ≤ gb103)); have n5_ := aM_5 ((by rw [hg]; exact Nat.ne_of_lt (blk_lt (by exact BK102.out)) : gb102 ≠ gb103)); have n6_ := aM_5 ((by rw [hg]; exact Nat.ne_of_gt (blk_lt (by exact BK102.out)) : gb103 ≠ gb102)); clear BK102 HB; have BK102 := n0_; have HB := n1_; have BK103 := n2_; have GW103 := n3_; have GE103 := n4_; have NB102_103 := n5_; have NB103_102 := n6_; clear n0_ n1_ n2_ n3_ n4_ n5_ n6_; clear hb hbox hg; have hnb11 := NB102_103.out; have hnc11 := NB103_102.out; obtain ⟨hcz12_0, hcz12_1, hfz12_0, hfz12_1⟩ := cells2_5 BK102.out))
    go_loopg [30] kj1 (fun kq v30 w' => ∃ (x30_2 : Int) (x104000_2 : Int) (x104001_2 : Int), v30 = .int .i64 x30_2 ∧ Aside0 (aig_Right.l0 kq l0_1 (l0_1.length : Int) x30_2 a0_0 l0_1 x104000_2 x104001_2 = some r) ∧ Aside0 (kq ≤ kj1) ∧ Aside0 (w'.heap[gb102]? = some (.cells #[.int .i64 a0_0, (.slice A0_1 l0_1.length c0_1)] 24 (0, 0))) ∧ Aside0 (aig_Right.TM Try.prog w' gb103 (aig_Right.kvs (l0_1.take x30_2.toNat))) ∧ Aside0 (Below w.heap.size w w'))
    case atStart => exact ⟨(0), (0), (0), (by first | rfl | (simp; done) | (simp [*]; done)), H', ⟨Nat.le_refl _⟩, ⟨by (with_reducible repeat (first | refine b1_5 ?_ _ | refine b3_5 ?_ | refine b2_5 ?_ _)); exact BK102.out⟩, ⟨aig_Right.TM.made _ _ (by exact BK103.out)⟩, ⟨by repeat (first | (with_reducible first | exact HB.out | apply b8_5 | apply b6_5 | apply b7_5 | refine b4_5 ?_ GE102.out | refine b4_5 ?_ GE103.out) | exact HB.out)⟩⟩
    case round =>
     clear H'
     try clear c1
     try clear p2
     try clear c4
     try clear c4b0
     try clear c6
     try clear c6b0
     try clear p6
     try clear c9
     try clear c11
     try clear c12
     try clear hcz12_0
     try clear hcz12_1
     try clear hcz5_0
     try clear hcz5_1
     try clear hcz7_0
     try clear hcz7_1
     try clear hcz8_0
     try clear hcz8_1
     try clear hfz12_0
     try clear hfz12_1
     try clear hfz5_0
     try clear hfz5_1
     try clear hfz7_0
     try clear hfz7_1
     try clear hfz8_0
     try clear hfz8_1
     try clear p2
     try clear p6
     obtain ⟨x30_2, x104000_2, x104001_2, rfl, HA, HK2, BK102, BK103, HB⟩ := hrel
     obtain ⟨⟨om, clk, hom, hkv⟩, hks⟩ := BK103.out
     clear BK103
     have BK103 := aM_5 hom
     have HKV := aM_5 hkv
     have HKS := aM_5 hks
     clear hom hkv hks
     cases gk with
     | zero => exact absurd HA.out (by simp [aig_Right.l0])
     | succ k2 =>
      have H := HA.out
      clear HA
      simp only [aig_Right.l0] at H
      by_cases c13 : x30_2 < (l0_1.length : Int)
      ·rw [if_pos c13] at H
       have c13b0 : decide (x30_2 < (l0_1.length : Int)) = true := decide_eq_true c13
       clear c13
       by_cases c14 : 0 ≤ x30_2
       ·rw [if_pos c14] at H
        have c14b0 : decide (0 ≤ x30_2) = true := decide_eq_true c14
        clear c14
        by_cases c15 : x30_2 < (l0_1.length : Int)
        ·rw [if_pos c15] at H
         have c15b0 : decide (x30_2 < (l0_1.length : Int)) = true := decide_eq_true c15
         clear c15
         replace H := Option.bind_eq_some_iff.mp H
         obtain ⟨⟨t106, t107⟩, A160, H⟩ := H
         replace H : ((aig_plain.f t106 t107).bind fun bt109 => (if bt109.2 = true then (some false) else (if (!(t106 == ((rd_T50 l0_1 x30_2).f0)) || (!(t107 == ((rd_T50 l0_1 x30_2).f1)))) = true then (some false) else (if t106 < 2 then (some false) else (if (t107 / 2) > (wrap64 (a0_0 + x30_2)) then (some false) else (if aig_Right.inn l0_1 x30_2 = true then (some false) else (aig_Right.l0 k2 l0_1 (l0_1.length : Int) (wrap64 (x30_2 + 1)) a0_0 l0_1 ((rd_T50 l0_1 x30_2).f0) ((rd_T50 l0_1 x30_2).f1)))))))) = some r := H
         have A16 := aM_5 A160
         clear A160
         replace H := Option.bind_eq_some_iff.mp H
         obtain ⟨⟨t109, t110⟩, A170, H⟩ := H
         replace H : (if t110 = true then (some false) else (if (!(t106 == ((rd_T50 l0_1 x30_2).f0)) || (!(t107 == ((rd_T50 l0_1 x30_2).f1)))) = true then (some false) else (if t106 < 2 then (some false) else (if (t107 / 2) > (wrap64 (a0_0 + x30_2)) then (some false) else (if aig_Right.inn l0_1 x30_2 = true then (some false) else (aig_Right.l0 k2 l0_1 (l0_1.length : Int) (wrap64 (x30_2 + 1)) a0_0 l0_1 ((rd_T50 l0_1 x30_2).f0) ((rd_T50 l0_1 x30_2).f1))))))) = some r := H
         have A17 := aM_5 A170
         clear A170
         by_cases c18 : t110 = true
         ·subst c18
          have H1 : (some false) = some r := by rw [if_pos rfl] at H; exact H
          clear H
          have H := H1
          clear H1
          obtain rfl := Option.some.inj H
          have p104 : 0 ≤ (x30_2 : Int) := of_decide_eq_true (by first | (with_reducible assumption) | assumption)
          have q104 : x30_2 < (l0_1.length : Int) := of_decide_eq_true (by first | (with_reducible assumption) | assumption)
          obtain ⟨ad104, e104, hx104_0, hx104_1⟩ := at_T50 HR0_1.out x30_2 p104 q104
          cases e104
          replace hx104_0 := (HB.out.cell (World.block_lt_of_cell? w _ hx104_0)).trans hx104_0
          replace hx104_1 := (HB.out.cell (World.block_lt_of_cell? w _ hx104_1)).trans hx104_1
          replace p104 := eq_true p104
          replace q104 := eq_true q104
          go_wp2_with (first | ((with_reducible refine gate_dst (N := 5) rfl ?_); (try (refine gate_guard (by rfl) ?_; dsimp only)); refine box_event ?hg (N := 5) ?hd (cs := #[.int .i64 0, .int .i64 0]) (t := 50) ?hr ?_; (case hd => rfl); (case hg => rfl); (case hr => first | (go_simp; done) | (go_simp; rfl)); intro gb105 hg w19 hbox hb; have n0_ := aM_5 (b5_5 (by exact BK102.out) hb); have n1_ := aM_5 (b5_5 (g := gb103) (o := .map om clk) (by exact BK103.out) hb); have n2_ := aM_5 (b9_5 (by repeat (first | (with_reducible first | exact HB.out | apply b8_5 | apply b6_5 | apply b7_5 | refine b4_5 ?_ GE102.out | refine b4_5 ?_ GE103.out) | exact HB.out)) hb); have n3_ := aM_5 (hbox); have n4_ := aM_5 ((by rw [hg]; exact (b0_5 (by repeat (first | (with_reducible first | exact HB.out | apply b8_5 | apply b6_5 | apply b7_5 | refine b4_5 ?_ GE102.out | refine b4_5 ?_ GE103.out) | exact HB.out))) : w.heap.size ≤ gb105)); have n5_ := aM_5 ((by rw [hg]; exact (b0_5 (by repeat (first | (with_reducible first | exact HB.out | apply b8_5 | apply b6_5 | apply b7_5 | refine b4_5 ?_ GE102.out | refine b4_5 ?_ GE103.out) | exact HB.out))) : w.heap.size ≤ gb105)); have n6_ := aM_5 ((by rw [hg]; exact Nat.ne_of_lt (blk_lt (by exact BK102.out)) : gb102 ≠ gb105)); have n7_ := aM_5 ((by rw [hg]; exact Nat.ne_of_gt (blk_lt (by exact BK102.out)) : gb105 ≠ gb102)); have n8_ := aM_5 ((by rw [hg]; exact Nat.ne_of_lt (blk_lt (g := gb103) (o := .map om clk) (by exact BK103.out)) : gb103 ≠ gb105)); have n9_ := aM_5 ((by rw [hg]; exact Nat.ne_of_gt (blk_lt (g := gb103) (o := .map om clk) (by exact BK103.out)) : gb105 ≠ gb103)); clear BK102 BK103 HB; have BK102 := n0_; have BK103 := n1_; have HB := n2_; have BK105 := n3_; have GW105 := n4_; have GE105 := n5_; have NB102_105 := n6_; have NB105_102 := n7_; have NB103_105 := n8_; have NB105_103 := n9_; clear n0_ n1_ n2_ n3_ n4_ n5_ n6_ n7_ n8_ n9_; clear hb hbox hg; have hnb20 := NB105_102.out; have hnc20 := NB102_105.out; have hnb21 := NB105_103.out; have hnc21 := NB103_105.out; obtain ⟨hcz22_0, hcz22_1, hfz22_0, hfz22_1⟩ := cells2_5 BK105.out) | ((with_reducible refine gate_callee (f := 33) rfl ?_); refine goesL_ (some 39) rfl rfl Try.func33 (by kernel_rfl) rfl #[.int .i64 ((rd_T50 l0_1 x30_2).f0), .int .i64 ((rd_T50 l0_1 x30_2).f1)] rfl (by (try simp only [List.map_toArray, List.map_cons, List.map_nil]); first | done | rfl | (simp only [List.length_drop, List.length_take]; rfl)) ?_; (with_reducible refine (aig_of.calls ((rd_T50 l0_1 x30_2).f0) ((rd_T50 l0_1 x30_2).f1) t106 t107 _ A16.out).mono ?_); rintro e w23 ⟨rfl, hb⟩; refine ⟨_, rfl, ?_⟩; have n0_ := aM_5 (b5_5 (g := gb102) (o := .cells #[.int .i64 a0_0, .slice (some ad104) l0_1.length c0_1] 24 (0, 0)) (by (with_reducible repeat (first | refine b1_5 ?_ _ | refine b3_5 ?_ | refine b2_5 ?_ _)); refine c2_5 ?_ NB102_105.out _; (with_reducible repeat (first | refine b1_5 ?_ _ | refine b3_5 ?_ | refine b2_5 ?_ _)); refine c2_5 ?_ NB102_105.out _; (with_reducible repeat (first | refine b1_5 ?_ _ | refine b3_5 ?_ | refine b2_5 ?_ _)); exact BK102.out) hb); have n1_ := aM_5 (b5_5 (g := gb103) (o := .map om clk) (by (with_reducible repeat (first | refine b1_5 ?_ _ | refine b3_5 ?_ | refine b2_5 ?_ _)); refine aig_Right.farc ?_ NB103_105.out _; (with_reducible repeat (first | refine b1_5 ?_ _ | refine b3_5 ?_ | refine b2_5 ?_ _)); refine aig_Right.farc ?_ NB103_105.out _; (with_reducible repeat (first | refine b1_5 ?_ _ | refine b3_5 ?_ | refine b2_5 ?_ _)); exact BK103.out) hb); have n2_ := aM_5 (b5_5 (g := gb105) (o := .cells #[.int .i64 ((rd_T50 l0_1 x30_2).f0), .int .i64 ((rd_T50 l0_1 x30_2).f1)] 50 (0, 0)) (by (with_reducible repeat (first | refine b1_5 ?_ _ | refine b3_5 ?_ | refine b2_5 ?_ _)); refine c1_5 (cs := #[.int .i64 ((rd_T50 l0_1 x30_2).f0), .int .i64 0]) ?_ 1 _ rfl; (with_reducible repeat (first | refine b1_5 ?_ _ | refine b3_5 ?_ | refine b2_5 ?_ _)); refine c1_5 (cs := #[.int .i64 0, .int .i64 0]) ?_ 0 _ rfl; (with_reducible repeat (first | refine b1_5 ?_ _ | refine b3_5 ?_ | refine b2_5 ?_ _)); exact BK105.out) hb); have n3_ := aM_5 (b9_5 (by repeat (first | (with_reducible first | exact HB.out | apply b8_5 | apply b6_5 | apply b7_5 | refine b4_5 ?_ GE102.out | refine b4_5 ?_ GE103.out | refine b4_5 ?_ GE105.out) | exact HB.out)) hb); clear BK102 BK103 BK105 HB; have BK102 := n0_; have BK103 := n1_; have BK105 := n2_; have HB := n3_; clear n0_ n1_ n2_ n3_; (try clear hb); (try clear hb2); (try clear hk); (try clear hi)) | ((with_reducible refine gate_dst (N := 6) rfl ?_); (try (refine gate_guard (by rfl) ?_; dsimp only)); refine box_event ?hg (N := 6) ?hd (cs := #[.int .i64 0, .int .i64 0]) (t := 53) ?hr ?_; (case hd => rfl); (case hg => rfl); (case hr => first | (go_simp; done) | (go_simp; rfl)); intro gb108 hg w24 hbox hb; have n0_ := aM_5 (b5_5 (by exact BK102.out) hb); have n1_ := aM_5 (b5_5 (g := gb103) (o := .map om clk) (by exact BK103.out) hb); have n2_ := aM_5 (b5_5 (by exact BK105.out) hb); have n3_ := aM_5 (b9_5 (by repeat (first | (with_reducible first | exact HB.out | apply b8_5 | apply b6_5 | apply b7_5 | refine b4_5 ?_ GE102.out | refine b4_5 ?_ GE103.out | refine b4_5 ?_ GE105.out) | exact HB.out)) hb); have n4_ := aM_5 (hbox); have n5_ := aM_5 ((by rw [hg]; exact (b0_5 (by repeat (first | (with_reducible first | exact HB.out | apply b8_5 | apply b6_5 | apply b7_5 | refine b4_5 ?_ GE102.out | refine b4_5 ?_ GE103.out | refine b4_5 ?_ GE105.out) | exact HB.out))) : w.heap.size ≤ gb108)); have n6_ := aM_5 ((by rw [hg]; exact (b0_5 (by repeat (first | (with_reducible first | exact HB.out | apply b8_5 | apply b6_5 | apply b7_5 | refine b4_5 ?_ GE102.out | refine b4_5 ?_ GE103.out | refine b4_5 ?_ GE105.out) | exact HB.out))) : w.heap.size ≤ gb108)); have n7_ := aM_5 ((by rw [hg]; exact Nat.ne_of_lt (blk_lt (by exact BK102.out)) : gb102 ≠ gb108)); have n8_ := aM_5 ((by rw [hg]; exact Nat.ne_of_gt (blk_lt (by exact BK102.out)) : gb108 ≠ gb102)); have n9_ := aM_5 ((by rw [hg]; exact Nat.ne_of_lt (blk_lt (g := gb103) (o := .map om clk) (by exact BK103.out)) : gb103 ≠ gb108)); have n10_ := aM_5 ((by rw [hg]; exact Nat.ne_of_gt (blk_lt (g := gb103) (o := .map om clk) (by exact BK103.out)) : gb108 ≠ gb103)); have n11_ := aM_5 ((by rw [hg]; exact Nat.ne_of_lt (blk_lt (by exact BK105.out)) : gb105 ≠ gb108)); have n12_ := aM_5 ((by rw [hg]; exact Nat.ne_of_gt (blk_lt (by exact BK105.out)) : gb108 ≠ gb105)); clear BK102 BK103 BK105 HB; have BK102 := n0_; have BK103 := n1_; have BK105 := n2_; have HB := n3_; have BK108 := n4_; have GW108 := n5_; have GE108 := n6_; have NB102_108 := n7_; have NB108_102 := n8_; have NB103_108 := n9_; have NB108_103 := n10_; have NB105_108 := n11_; have NB108_105 := n12_; clear n0_ n1_ n2_ n3_ n4_ n5_ n6_ n7_ n8_ n9_ n10_ n11_ n12_; clear hb hbox hg; have hnb25 := NB108_102.out; have hnc25 := NB102_108.out; have hnb26 := NB108_103.out; have hnc26 := NB103_108.out; have hnb27 := NB108_105.out; have hnc27 := NB105_108.out; obtain ⟨hcz28_0, hcz28_1, hfz28_0, hfz28_1⟩ := cells2_5 BK108.out) | ((with_reducible refine gate_callee (f := 34) rfl ?_); refine goesL_ (some 42) rfl rfl Try.func34 (by kernel_rfl) rfl #[.agg #[.int .i64 t106, .int .i64 t107]] rfl (by (try simp only [List.map_toArray, List.map_cons, List.map_nil]); first | done | rfl | (simp only [List.length_drop, List.length_take]; rfl)) ?_; (with_reducible refine (aig_plain.calls t106 t107 t109 true _ A17.out).mono ?_); rintro e w29 ⟨rfl, hb⟩; refine ⟨_, rfl, ?_⟩; have n0_ := aM_5 (b5_5 (g := gb102) (o := .cells #[.int .i64 a0_0, .slice (some ad104) l0_1.length c0_1] 24 (0, 0)) (by (with_reducible repeat (first | refine b1_5 ?_ _ | refine b3_5 ?_ | refine b2_5 ?_ _)); refine c2_5 ?_ NB102_108.out _; (with_reducible repeat (first | refine b1_5 ?_ _ | refine b3_5 ?_ | refine b2_5 ?_ _)); refine c2_5 ?_ NB102_108.out _; (with_reducible repeat (first | refine b1_5 ?_ _ | refine b3_5 ?_ | refine b2_5 ?_ _)); exact BK102.out) hb); have n1_ := aM_5 (b5_5 (g := gb103) (o := .map om clk) (by (with_reducible repeat (first | refine b1_5 ?_ _ | refine b3_5 ?_ | refine b2_5 ?_ _)); refine aig_Right.farc ?_ NB103_108.out _; (with_reducible repeat (first | refine b1_5 ?_ _ | refine b3_5 ?_ | refine b2_5 ?_ _)); refine aig_Right.farc ?_ NB103_108.out _; (with_reducible repeat (first | refine b1_5 ?_ _ | refine b3_5 ?_ | refine b2_5 ?_ _)); exact BK103.out) hb); have n2_ := aM_5 (b5_5 (g := gb105) (o := .cells #[.int .i64 ((rd_T50 l0_1 x30_2).f0), .int .i64 ((rd_T50 l0_1 x30_2).f1)] 50 (0, 0)) (by (with_reducible repeat (first | refine b1_5 ?_ _ | refine b3_5 ?_ | refine b2_5 ?_ _)); refine c2_5 ?_ NB105_108.out _; (with_reducible repeat (first | refine b1_5 ?_ _ | refine b3_5 ?_ | refine b2_5 ?_ _)); refine c2_5 ?_ NB105_108.out _; (with_reducible repeat (first | refine b1_5 ?_ _ | refine b3_5 ?_ | refine b2_5 ?_ _)); exact BK105.out) hb); have n3_ := aM_5 (b5_5 (g := gb108) (o := .cells #[.int .i64 t106, .int .i64 t107] 53 (0, 0)) (by (with_reducible repeat (first | refine b1_5 ?_ _ | refine b3_5 ?_ | refine b2_5 ?_ _)); refine c1_5 (cs := #[.int .i64 t106, .int .i64 0]) ?_ 1 _ rfl; (with_reducible repeat (first | refine b1_5 ?_ _ | refine b3_5 ?_ | refine b2_5 ?_ _)); refine c1_5 (cs := #[.int .i64 0, .int .i64 0]) ?_ 0 _ rfl; (with_reducible repeat (first | refine b1_5 ?_ _ | refine b3_5 ?_ | refine b2_5 ?_ _)); exact BK108.out) hb); have n4_ := aM_5 (b9_5 (by repeat (first | (with_reducible first | exact HB.out | apply b8_5 | apply b6_5 | apply b7_5 | refine b4_5 ?_ GE102.out | refine b4_5 ?_ GE103.out | refine b4_5 ?_ GE105.out | refine b4_5 ?_ GE108.out) | exact HB.out)) hb); clear BK102 BK103 BK105 BK108 HB; have BK102 := n0_; have BK103 := n1_; have BK105 := n2_; have BK108 := n3_; have HB := n4_; clear n0_ n1_ n2_ n3_ n4_; (try clear hb); (try clear hb2); (try clear hk); (try clear hi)))
          go_ret
          exact ⟨by first | rfl | (simp [errW_none, errW_some] <;> rfl) | (simp [*, errW_none, errW_some] <;> rfl), by repeat (first | (with_reducible first | exact HB.out | apply b8_5 | apply b6_5 | apply b7_5 | refine b4_5 ?_ GE102.out | refine b4_5 ?_ GE103.out | refine b4_5 ?_ GE105.out | refine b4_5 ?_ GE108.out) | exact HB.out)⟩
         ·replace c18 := Bool.eq_false_iff.mpr c18
          subst c18
          have H1 : (if (!(t106 == ((rd_T50 l0_1 x30_2).f0)) || (!(t107 == ((rd_T50 l0_1 x30_2).f1)))) = true then (some false) else (if t106 < 2 then (some false) else (if (t107 / 2) > (wrap64 (a0_0 + x30_2)) then (some false) else (if aig_Right.inn l0_1 x30_2 = true then (some false) else (aig_Right.l0 k2 l0_1 (l0_1.length : Int) (wrap64 (x30_2 + 1)) a0_0 l0_1 ((rd_T50 l0_1 x30_2).f0) ((rd_T50 l0_1 x30_2).f1)))))) = some r := by rw [if_neg (show ¬ (false = true) by decide)] at H; exact H
          clear H
          have H := H1
          clear H1
          by_cases c30 : (!(t106 == ((rd_T50 l0_1 x30_2).f0)) || (!(t107 == ((rd_T50 l0_1 x30_2).f1)))) = true
          ·rw [if_pos c30] at H
           have c30b0 : (!(t106 == ((rd_T50 l0_1 x30_2).f0)) || (!(t107 == ((rd_T50 l0_1 x30_2).f1)))) = true := c30
           clear c30
           obtain rfl := Option.some.inj H
           have p104 : 0 ≤ (x30_2 : Int) := of_decide_eq_true (by first | (with_reducible assumption) | assumption)
           have q104 : x30_2 < (l0_1.length : Int) := of_decide_eq_true (by first | (with_reducible assumption) | assumption)
           obtain ⟨ad104, e104, hx104_0, hx104_1⟩ := at_T50 HR0_1.out x30_2 p104 q104
           cases e104
           replace hx104_0 := (HB.out.cell (World.block_lt_of_cell? w _ hx104_0)).trans hx104_0
           replace hx104_1 := (HB.out.cell (World.block_lt_of_cell? w _ hx104_1)).trans hx104_1
           replace p104 := eq_true p104
           replace q104 := eq_true q104
           go_wp2_with (first | ((with_reducible refine gate_dst (N := 5) rfl ?_); (try (refine gate_guard (by rfl) ?_; dsimp only)); refine box_event ?hg (N := 5) ?hd (cs := #[.int .i64 0, .int .i64 0]) (t := 50) ?hr ?_; (case hd => rfl); (case hg => rfl); (case hr => first | (go_simp; done) | (go_simp; rfl)); intro gb105 hg w31 hbox hb; have n0_ := aM_5 (b5_5 (by exact BK102.out) hb); have n1_ := aM_5 (b5_5 (g := gb103) (o := .map om clk) (by exact BK103.out) hb); have n2_ := aM_5 (b9_5 (by repeat (first | (with_reducible first | exact HB.out | apply b8_5 | apply b6_5 | apply b7_5 | refine b4_5 ?_ GE102.out | refine b4_5 ?_ GE103.out) | exact HB.out)) hb); have n3_ := aM_5 (hbox); have n4_ := aM_5 ((by rw [hg]; exact (b0_5 (by repeat (first | (with_reducible first | exact HB.out | apply b8_5 | apply b6_5 | apply b7_5 | refine b4_5 ?_ GE102.out | refine b4_5 ?_ GE103.out) | exact HB.out))) : w.heap.size ≤ gb105)); have n5_ := aM_5 ((by rw [hg]; exact (b0_5 (by repeat (first | (with_reducible first | exact HB.out | apply b8_5 | apply b6_5 | apply b7_5 | refine b4_5 ?_ GE102.out | refine b4_5 ?_ GE103.out) | exact HB.out))) : w.heap.size ≤ gb105)); have n6_ := aM_5 ((by rw [hg]; exact Nat.ne_of_lt (blk_lt (by exact BK102.out)) : gb102 ≠ gb105)); have n7_ := aM_5 ((by rw [hg]; exact Nat.ne_of_gt (blk_lt (by exact BK102.out)) : gb105 ≠ gb102)); have n8_ := aM_5 ((by rw [hg]; exact Nat.ne_of_lt (blk_lt (g := gb103) (o := .map om clk) (by exact BK103.out)) : gb103 ≠ gb105)); have n9_ := aM_5 ((by rw [hg]; exact Nat.ne_of_gt (blk_lt (g := gb103) (o := .map om clk) (by exact BK103.out)) : gb105 ≠ gb103)); clear BK102 BK103 HB; have BK102 := n0_; have BK103 := n1_; have HB := n2_; have BK105 := n3_; have GW105 := n4_; have GE105 := n5_; have NB102_105 := n6_; have NB105_102 := n7_; have NB103_105 := n8_; have NB105_103 := n9_; clear n0_ n1_ n2_ n3_ n4_ n5_ n6_ n7_ n8_ n9_; clear hb hbox hg; have hnb32 := NB105_102.out; have hnc32 := NB102_105.out; have hnb33 := NB105_103.out; have hnc33 := NB103_105.out; obtain ⟨hcz34_0, hcz34_1, hfz34_0, hfz34_1⟩ := cells2_5 BK105.out) | ((with_reducible refine gate_callee (f := 33) rfl ?_); refine goesL_ (some 39) rfl rfl Try.func33 (by kernel_rfl) rfl #[.int .i64 ((rd_T50 l0_1 x30_2).f0), .int .i64 ((rd_T50 l0_1 x30_2).f1)] rfl (by (try simp only [List.map_toArray, List.map_cons, List.map_nil]); first | done | rfl | (simp only [List.length_drop, List.length_take]; rfl)) ?_; (with_reducible refine (aig_of.calls ((rd_T50 l0_1 x30_2).f0) ((rd_T50 l0_1 x30_2).f1) t106 t107 _ A16.out).mono ?_); rintro e w35 ⟨rfl, hb⟩; refine ⟨_, rfl, ?_⟩; have n0_ := aM_5 (b5_5 (g := gb102) (o := .cells #[.int .i64 a0_0, .slice (some ad104) l0_1.length c0_1] 24 (0, 0)) (by (with_reducible repeat (first | refine b1_5 ?_ _ | refine b3_5 ?_ | refine b2_5 ?_ _)); refine c2_5 ?_ NB102_105.out _; (with_reducible repeat (first | refine b1_5 ?_ _ | refine b3_5 ?_ | refine b2_5 ?_ _)); refine c2_5 ?_ NB102_105.out _; (with_reducible repeat (first | refine b1_5 ?_ _ | refine b3_5 ?_ | refine b2_5 ?_ _)); exact BK102.out) hb); have n1_ := aM_5 (b5_5 (g := gb103) (o := .map om clk) (by (with_reducible repeat (first | refine b1_5 ?_ _ | refine b3_5 ?_ | refine b2_5 ?_ _)); refine aig_Right.farc ?_ NB103_105.out _; (with_reducible repeat (first | refine b1_5 ?_ _ | refine b3_5 ?_ | refine b2_5 ?_ _)); refine aig_Right.farc ?_ NB103_105.out _; (with_reducible repeat (first | refine b1_5 ?_ _ | refine b3_5 ?_ | refine b2_5 ?_ _)); exact BK103.out) hb); have n2_ := aM_5 (b5_5 (g := gb105) (o := .cells #[.int .i64 ((rd_T50 l0_1 x30_2).f0), .int .i64 ((rd_T50 l0_1 x30_2).f1)] 50 (0, 0)) (by (with_reducible repeat (first | refine b1_5 ?_ _ | refine b3_5 ?_ | refine b2_5 ?_ _)); refine c1_5 (cs := #[.int .i64 ((rd_T50 l0_1 x30_2).f0), .int .i64 0]) ?_ 1 _ rfl; (with_reducible repeat (first | refine b1_5 ?_ _ | refine b3_5 ?_ | refine b2_5 ?_ _)); refine c1_5 (cs := #[.int .i64 0, .int .i64 0]) ?_ 0 _ rfl; (with_reducible repeat (first | refine b1_5 ?_ _ | refine b3_5 ?_ | refine b2_5 ?_ _)); exact BK105.out) hb); have n3_ := aM_5 (b9_5 (by repeat (first | (with_reducible first | exact HB.out | apply b8_5 | apply b6_5 | apply b7_5 | refine b4_5 ?_ GE102.out | refine b4_5 ?_ GE103.out | refine b4_5 ?_ GE105.out) | exact HB.out)) hb); clear BK102 BK103 BK105 HB; have BK102 := n0_; have BK103 := n1_; have BK105 := n2_; have HB := n3_; clear n0_ n1_ n2_ n3_; (try clear hb); (try clear hb2); (try clear hk); (try clear hi)) | ((with_reducible refine gate_dst (N := 6) rfl ?_); (try (refine gate_guard (by rfl) ?_; dsimp only)); refine box_event ?hg (N := 6) ?hd (cs := #[.int .i64 0, .int .i64 0]) (t := 53) ?hr ?_; (case hd => rfl); (case hg => rfl); (case hr => first | (go_simp; done) | (go_simp; rfl)); intro gb108 hg w36 hbox hb; have n0_ := aM_5 (b5_5 (by exact BK102.out) hb); have n1_ := aM_5 (b5_5 (g := gb103) (o := .map om clk) (by exact BK103.out) hb); have n2_ := aM_5 (b5_5 (by exact BK105.out) hb); have n3_ := aM_5 (b9_5 (by repeat (first | (with_reducible first | exact HB.out | apply b8_5 | apply b6_5 | apply b7_5 | refine b4_5 ?_ GE102.out | refine b4_5 ?_ GE103.out | refine b4_5 ?_ GE105.out) | exact HB.out)) hb); have n4_ := aM_5 (hbox); have n5_ := aM_5 ((by rw [hg]; exact (b0_5 (by repeat (first | (with_reducible first | exact HB.out | apply b8_5 | apply b6_5 | apply b7_5 | refine b4_5 ?_ GE102.out | refine b4_5 ?_ GE103.out | refine b4_5 ?_ GE105.out) | exact HB.out))) : w.heap.size ≤ gb108)); have n6_ := aM_5 ((by rw [hg]; exact (b0_5 (by repeat (first | (with_reducible first | exact HB.out | apply b8_5 | apply b6_5 | apply b7_5 | refine b4_5 ?_ GE102.out | refine b4_5 ?_ GE103.out | refine b4_5 ?_ GE105.out) | exact HB.out))) : w.heap.size ≤ gb108)); have n7_ := aM_5 ((by rw [hg]; exact Nat.ne_of_lt (blk_lt (by exact BK102.out)) : gb102 ≠ gb108)); have n8_ := aM_5 ((by rw [hg]; exact Nat.ne_of_gt (blk_lt (by exact BK102.out)) : gb108 ≠ gb102)); have n9_ := aM_5 ((by rw [hg]; exact Nat.ne_of_lt (blk_lt (g := gb103) (o := .map om clk) (by exact BK103.out)) : gb103 ≠ gb108)); have n10_ := aM_5 ((by rw [hg]; exact Nat.ne_of_gt (blk_lt (g := gb103) (o := .map om clk) (by exact BK103.out)) : gb108 ≠ gb103)); have n11_ := aM_5 ((by rw [hg]; exact Nat.ne_of_lt (blk_lt (by exact BK105.out)) : gb105 ≠ gb108)); have n12_ := aM_5 ((by rw [hg]; exact Nat.ne_of_gt (blk_lt (by exact BK105.out)) : gb108 ≠ gb105)); clear BK102 BK103 BK105 HB; have BK102 := n0_; have BK103 := n1_; have BK105 := n2_; have HB := n3_; have BK108 := n4_; have GW108 := n5_; have GE108 := n6_; have NB102_108 := n7_; have NB108_102 := n8_; have NB103_108 := n9_; have NB108_103 := n10_; have NB105_108 := n11_; have NB108_105 := n12_; clear n0_ n1_ n2_ n3_ n4_ n5_ n6_ n7_ n8_ n9_ n10_ n11_ n12_; clear hb hbox hg; have hnb37 := NB108_102.out; have hnc37 := NB102_108.out; have hnb38 := NB108_103.out; have hnc38 := NB103_108.out; have hnb39 := NB108_105.out; have hnc39 := NB105_108.out; obtain ⟨hcz40_0, hcz40_1, hfz40_0, hfz40_1⟩ := cells2_5 BK108.out) | ((with_reducible refine gate_callee (f := 34) rfl ?_); refine goesL_ (some 42) rfl rfl Try.func34 (by kernel_rfl) rfl #[.agg #[.int .i64 t106, .int .i64 t107]] rfl (by (try simp only [List.map_toArray, List.map_cons, List.map_nil]); first | done | rfl | (simp only [List.length_drop, List.length_take]; rfl)) ?_; (with_reducible refine (aig_plain.calls t106 t107 t109 false _ A17.out).mono ?_); rintro e w41 ⟨rfl, hb⟩; refine ⟨_, rfl, ?_⟩; have n0_ := aM_5 (b5_5 (g := gb102) (o := .cells #[.int .i64 a0_0, .slice (some ad104) l0_1.length c0_1] 24 (0, 0)) (by (with_reducible repeat (first | refine b1_5 ?_ _ | refine b3_5 ?_ | refine b2_5 ?_ _)); refine c2_5 ?_ NB102_108.out _; (with_reducible repeat (first | refine b1_5 ?_ _ | refine b3_5 ?_ | refine b2_5 ?_ _)); refine c2_5 ?_ NB102_108.out _; (with_reducible repeat (first | refine b1_5 ?_ _ | refine b3_5 ?_ | refine b2_5 ?_ _)); exact BK102.out) hb); have n1_ := aM_5 (b5_5 (g := gb103) (o := .map om clk) (by (with_reducible repeat (first | refine b1_5 ?_ _ | refine b3_5 ?_ | refine b2_5 ?_ _)); refine aig_Right.farc ?_ NB103_108.out _; (with_reducible repeat (first | refine b1_5 ?_ _ | refine b3_5 ?_ | refine b2_5 ?_ _)); refine aig_Right.farc ?_ NB103_108.out _; (with_reducible repeat (first | refine b1_5 ?_ _ | refine b3_5 ?_ | refine b2_5 ?_ _)); exact BK103.out) hb); have n2_ := aM_5 (b5_5 (g := gb105) (o := .cells #[.int .i64 ((rd_T50 l0_1 x30_2).f0), .int .i64 ((rd_T50 l0_1 x30_2).f1)] 50 (0, 0)) (by (with_reducible repeat (first | refine b1_5 ?_ _ | refine b3_5 ?_ | refine b2_5 ?_ _)); refine c2_5 ?_ NB105_108.out _; (with_reducible repeat (first | refine b1_5 ?_ _ | refine b3_5 ?_ | refine b2_5 ?_ _)); refine c2_5 ?_ NB105_108.out _; (with_reducible repeat (first | refine b1_5 ?_ _ | refine b3_5 ?_ | refine b2_5 ?_ _)); exact BK105.out) hb); have n3_ := aM_5 (b5_5 (g := gb108) (o := .cells #[.int .i64 t106, .int .i64 t107] 53 (0, 0)) (by (with_reducible repeat (first | refine b1_5 ?_ _ | refine b3_5 ?_ | refine b2_5 ?_ _)); refine c1_5 (cs := #[.int .i64 t106, .int .i64 0]) ?_ 1 _ rfl; (with_reducible repeat (first | refine b1_5 ?_ _ | refine b3_5 ?_ | refine b2_5 ?_ _)); refine c1_5 (cs := #[.int .i64 0, .int .i64 0]) ?_ 0 _ rfl; (with_reducible repeat (first | refine b1_5 ?_ _ | refine b3_5 ?_ | refine b2_5 ?_ _)); exact BK108.out) hb); have n4_ := aM_5 (b9_5 (by repeat (first | (with_reducible first | exact HB.out | apply b8_5 | apply b6_5 | apply b7_5 | refine b4_5 ?_ GE102.out | refine b4_5 ?_ GE103.out | refine b4_5 ?_ GE105.out | refine b4_5 ?_ GE108.out) | exact HB.out)) hb); clear BK102 BK103 BK105 BK108 HB; have BK102 := n0_; have BK103 := n1_; have BK105 := n2_; have BK108 := n3_; have HB := n4_; clear n0_ n1_ n2_ n3_ n4_; (try clear hb); (try clear hb2); (try clear hk); (try clear hi); obtain ⟨hcz42_0, hcz42_1, hfz42_0, hfz42_1⟩ := cells2_5 BK108.out; obtain ⟨hcz43_0, hcz43_1, hfz43_0, hfz43_1⟩ := cells2_5 BK105.out))
           go_ret
           exact ⟨by first | rfl | (simp [errW_none, errW_some] <;> rfl) | (simp [*, errW_none, errW_some] <;> rfl), by repeat (first | (with_reducible first | exact HB.out | apply b8_5 | apply b6_5 | apply b7_5 | refine b4_5 ?_ GE102.out | refine b4_5 ?_ GE103.out | refine b4_5 ?_ GE105.out | refine b4_5 ?_ GE108.out) | exact HB.out)⟩
          ·rw [if_neg c30] at H
           have c30b0 : (!(t106 == ((rd_T50 l0_1 x30_2).f0)) || (!(t107 == ((rd_T50 l0_1 x30_2).f1)))) = false := by simpa using c30
           clear c30
           by_cases c44 : t106 < 2
           ·rw [if_pos c44] at H
            have c44b0 : decide (t106 < 2) = true := decide_eq_true c44
            clear c44
            obtain rfl := Option.some.inj H
            have p104 : 0 ≤ (x30_2 : Int) := of_decide_eq_true (by first | (with_reducible assumption) | assumption)
            have q104 : x30_2 < (l0_1.length : Int) := of_decide_eq_true (by first | (with_reducible assumption) | assumption)
            obtain ⟨ad104, e104, hx104_0, hx104_1⟩ := at_T50 HR0_1.out x30_2 p104 q104
            cases e104
            replace hx104_0 := (HB.out.cell (World.block_lt_of_cell? w _ hx104_0)).trans hx104_0
            replace hx104_1 := (HB.out.cell (World.block_lt_of_cell? w _ hx104_1)).trans hx104_1
            replace p104 := eq_true p104
            replace q104 := eq_true q104
            go_wp2_with (first | ((with_reducible refine gate_dst (N := 5) rfl ?_); (try (refine gate_guard (by rfl) ?_; dsimp only)); refine box_event ?hg (N := 5) ?hd (cs := #[.int .i64 0, .int .i64 0]) (t := 50) ?hr ?_; (case hd => rfl); (case hg => rfl); (case hr => first | (go_simp; done) | (go_simp; rfl)); intro gb105 hg w45 hbox hb; have n0_ := aM_5 (b5_5 (by exact BK102.out) hb); have n1_ := aM_5 (b5_5 (g := gb103) (o := .map om clk) (by exact BK103.out) hb); have n2_ := aM_5 (b9_5 (by repeat (first | (with_reducible first | exact HB.out | apply b8_5 | apply b6_5 | apply b7_5 | refine b4_5 ?_ GE102.out | refine b4_5 ?_ GE103.out) | exact HB.out)) hb); have n3_ := aM_5 (hbox); have n4_ := aM_5 ((by rw [hg]; exact (b0_5 (by repeat (first | (with_reducible first | exact HB.out | apply b8_5 | apply b6_5 | apply b7_5 | refine b4_5 ?_ GE102.out | refine b4_5 ?_ GE103.out) | exact HB.out))) : w.heap.size ≤ gb105)); have n5_ := aM_5 ((by rw [hg]; exact (b0_5 (by repeat (first | (with_reducible first | exact HB.out | apply b8_5 | apply b6_5 | apply b7_5 | refine b4_5 ?_ GE102.out | refine b4_5 ?_ GE103.out) | exact HB.out))) : w.heap.size ≤ gb105)); have n6_ := aM_5 ((by rw [hg]; exact Nat.ne_of_lt (blk_lt (by exact BK102.out)) : gb102 ≠ gb105)); have n7_ := aM_5 ((by rw [hg]; exact Nat.ne_of_gt (blk_lt (by exact BK102.out)) : gb105 ≠ gb102)); have n8_ := aM_5 ((by rw [hg]; exact Nat.ne_of_lt (blk_lt (g := gb103) (o := .map om clk) (by exact BK103.out)) : gb103 ≠ gb105)); have n9_ := aM_5 ((by rw [hg]; exact Nat.ne_of_gt (blk_lt (g := gb103) (o := .map om clk) (by exact BK103.out)) : gb105 ≠ gb103)); clear BK102 BK103 HB; have BK102 := n0_; have BK103 := n1_; have HB := n2_; have BK105 := n3_; have GW105 := n4_; have GE105 := n5_; have NB102_105 := n6_; have NB105_102 := n7_; have NB103_105 := n8_; have NB105_103 := n9_; clear n0_ n1_ n2_ n3_ n4_ n5_ n6_ n7_ n8_ n9_; clear hb hbox hg; have hnb46 := NB105_102.out; have hnc46 := NB102_105.out; have hnb47 := NB105_103.out; have hnc47 := NB103_105.out; obtain ⟨hcz48_0, hcz48_1, hfz48_0, hfz48_1⟩ := cells2_5 BK105.out) | ((with_reducible refine gate_callee (f := 33) rfl ?_); refine goesL_ (some 39) rfl rfl Try.func33 (by kernel_rfl) rfl #[.int .i64 ((rd_T50 l0_1 x30_2).f0), .int .i64 ((rd_T50 l0_1 x30_2).f1)] rfl (by (try simp only [List.map_toArray, List.map_cons, List.map_nil]); first | done | rfl | (simp only [List.length_drop, List.length_take]; rfl)) ?_; (with_reducible refine (aig_of.calls ((rd_T50 l0_1 x30_2).f0) ((rd_T50 l0_1 x30_2).f1) t106 t107 _ A16.out).mono ?_); rintro e w49 ⟨rfl, hb⟩; refine ⟨_, rfl, ?_⟩; have n0_ := aM_5 (b5_5 (g := gb102) (o := .cells #[.int .i64 a0_0, .slice (some ad104) l0_1.length c0_1] 24 (0, 0)) (by (with_reducible repeat (first | refine b1_5 ?_ _ | refine b3_5 ?_ | refine b2_5 ?_ _)); refine c2_5 ?_ NB102_105.out _; (with_reducible repeat (first | refine b1_5 ?_ _ | refine b3_5 ?_ | refine b2_5 ?_ _)); refine c2_5 ?_ NB102_105.out _; (with_reducible repeat (first | refine b1_5 ?_ _ | refine b3_5 ?_ | refine b2_5 ?_ _)); exact BK102.out) hb); have n1_ := aM_5 (b5_5 (g := gb103) (o := .map om clk) (by (with_reducible repeat (first | refine b1_5 ?_ _ | refine b3_5 ?_ | refine b2_5 ?_ _)); refine aig_Right.farc ?_ NB103_105.out _; (with_reducible repeat (first | refine b1_5 ?_ _ | refine b3_5 ?_ | refine b2_5 ?_ _)); refine aig_Right.farc ?_ NB103_105.out _; (with_reducible repeat (first | refine b1_5 ?_ _ | refine b3_5 ?_ | refine b2_5 ?_ _)); exact BK103.out) hb); have n2_ := aM_5 (b5_5 (g := gb105) (o := .cells #[.int .i64 ((rd_T50 l0_1 x30_2).f0), .int .i64 ((rd_T50 l0_1 x30_2).f1)] 50 (0, 0)) (by (with_reducible repeat (first | refine b1_5 ?_ _ | refine b3_5 ?_ | refine b2_5 ?_ _)); refine c1_5 (cs := #[.int .i64 ((rd_T50 l0_1 x30_2).f0), .int .i64 0]) ?_ 1 _ rfl; (with_reducible repeat (first | refine b1_5 ?_ _ | refine b3_5 ?_ | refine b2_5 ?_ _)); refine c1_5 (cs := #[.int .i64 0, .int .i64 0]) ?_ 0 _ rfl; (with_reducible repeat (first | refine b1_5 ?_ _ | refine b3_5 ?_ | refine b2_5 ?_ _)); exact BK105.out) hb); have n3_ := aM_5 (b9_5 (by repeat (first | (with_reducible first | exact HB.out | apply b8_5 | apply b6_5 | apply b7_5 | refine b4_5 ?_ GE102.out | refine b4_5 ?_ GE103.out | refine b4_5 ?_ GE105.out) | exact HB.out)) hb); clear BK102 BK103 BK105 HB; have BK102 := n0_; have BK103 := n1_; have BK105 := n2_; have HB := n3_; clear n0_ n1_ n2_ n3_; (try clear hb); (try clear hb2); (try clear hk); (try clear hi)) | ((with_reducible refine gate_dst (N := 6) rfl ?_); (try (refine gate_guard (by rfl) ?_; dsimp only)); refine box_event ?hg (N := 6) ?hd (cs := #[.int .i64 0, .int .i64 0]) (t := 53) ?hr ?_; (case hd => rfl); (case hg => rfl); (case hr => first | (go_simp; done) | (go_simp; rfl)); intro gb108 hg w50 hbox hb; have n0_ := aM_5 (b5_5 (by exact BK102.out) hb); have n1_ := aM_5 (b5_5 (g := gb103) (o := .map om clk) (by exact BK103.out) hb); have n2_ := aM_5 (b5_5 (by exact BK105.out) hb); have n3_ := aM_5 (b9_5 (by repeat (first | (with_reducible first | exact HB.out | apply b8_5 | apply b6_5 | apply b7_5 | refine b4_5 ?_ GE102.out | refine b4_5 ?_ GE103.out | refine b4_5 ?_ GE105.out) | exact HB.out)) hb); have n4_ := aM_5 (hbox); have n5_ := aM_5 ((by rw [hg]; exact (b0_5 (by repeat (first | (with_reducible first | exact HB.out | apply b8_5 | apply b6_5 | apply b7_5 | refine b4_5 ?_ GE102.out | refine b4_5 ?_ GE103.out | refine b4_5 ?_ GE105.out) | exact HB.out))) : w.heap.size ≤ gb108)); have n6_ := aM_5 ((by rw [hg]; exact (b0_5 (by repeat (first | (with_reducible first | exact HB.out | apply b8_5 | apply b6_5 | apply b7_5 | refine b4_5 ?_ GE102.out | refine b4_5 ?_ GE103.out | refine b4_5 ?_ GE105.out) | exact HB.out))) : w.heap.size ≤ gb108)); have n7_ := aM_5 ((by rw [hg]; exact Nat.ne_of_lt (blk_lt (by exact BK102.out)) : gb102 ≠ gb108)); have n8_ := aM_5 ((by rw [hg]; exact Nat.ne_of_gt (blk_lt (by exact BK102.out)) : gb108 ≠ gb102)); have n9_ := aM_5 ((by rw [hg]; exact Nat.ne_of_lt (blk_lt (g := gb103) (o := .map om clk) (by exact BK103.out)) : gb103 ≠ gb108)); have n10_ := aM_5 ((by rw [hg]; exact Nat.ne_of_gt (blk_lt (g := gb103) (o := .map om clk) (by exact BK103.out)) : gb108 ≠ gb103)); have n11_ := aM_5 ((by rw [hg]; exact Nat.ne_of_lt (blk_lt (by exact BK105.out)) : gb105 ≠ gb108)); have n12_ := aM_5 ((by rw [hg]; exact Nat.ne_of_gt (blk_lt (by exact BK105.out)) : gb108 ≠ gb105)); clear BK102 BK103 BK105 HB; have BK102 := n0_; have BK103 := n1_; have BK105 := n2_; have HB := n3_; have BK108 := n4_; have GW108 := n5_; have GE108 := n6_; have NB102_108 := n7_; have NB108_102 := n8_; have NB103_108 := n9_; have NB108_103 := n10_; have NB105_108 := n11_; have NB108_105 := n12_; clear n0_ n1_ n2_ n3_ n4_ n5_ n6_ n7_ n8_ n9_ n10_ n11_ n12_; clear hb hbox hg; have hnb51 := NB108_102.out; have hnc51 := NB102_108.out; have hnb52 := NB108_103.out; have hnc52 := NB103_108.out; have hnb53 := NB108_105.out; have hnc53 := NB105_108.out; obtain ⟨hcz54_0, hcz54_1, hfz54_0, hfz54_1⟩ := cells2_5 BK108.out) | ((with_reducible refine gate_callee (f := 34) rfl ?_); refine goesL_ (some 42) rfl rfl Try.func34 (by kernel_rfl) rfl #[.agg #[.int .i64 t106, .int .i64 t107]] rfl (by (try simp only [List.map_toArray, List.map_cons, List.map_nil]); first | done | rfl | (simp only [List.length_drop, List.length_take]; rfl)) ?_; (with_reducible refine (aig_plain.calls t106 t107 t109 false _ A17.out).mono ?_); rintro e w55 ⟨rfl, hb⟩; refine ⟨_, rfl, ?_⟩; have n0_ := aM_5 (b5_5 (g := gb102) (o := .cells #[.int .i64 a0_0, .slice (some ad104) l0_1.length c0_1] 24 (0, 0)) (by (with_reducible repeat (first | refine b1_5 ?_ _ | refine b3_5 ?_ | refine b2_5 ?_ _)); refine c2_5 ?_ NB102_108.out _; (with_reducible repeat (first | refine b1_5 ?_ _ | refine b3_5 ?_ | refine b2_5 ?_ _)); refine c2_5 ?_ NB102_108.out _; (with_reducible repeat (first | refine b1_5 ?_ _ | refine b3_5 ?_ | refine b2_5 ?_ _)); exact BK102.out) hb); have n1_ := aM_5 (b5_5 (g := gb103) (o := .map om clk) (by (with_reducible repeat (first | refine b1_5 ?_ _ | refine b3_5 ?_ | refine b2_5 ?_ _)); refine aig_Right.farc ?_ NB103_108.out _; (with_reducible repeat (first | refine b1_5 ?_ _ | refine b3_5 ?_ | refine b2_5 ?_ _)); refine aig_Right.farc ?_ NB103_108.out _; (with_reducible repeat (first | refine b1_5 ?_ _ | refine b3_5 ?_ | refine b2_5 ?_ _)); exact BK103.out) hb); have n2_ := aM_5 (b5_5 (g := gb105) (o := .cells #[.int .i64 ((rd_T50 l0_1 x30_2).f0), .int .i64 ((rd_T50 l0_1 x30_2).f1)] 50 (0, 0)) (by (with_reducible repeat (first | refine b1_5 ?_ _ | refine b3_5 ?_ | refine b2_5 ?_ _)); refine c2_5 ?_ NB105_108.out _; (with_reducible repeat (first | refine b1_5 ?_ _ | refine b3_5 ?_ | refine b2_5 ?_ _)); refine c2_5 ?_ NB105_108.out _; (with_reducible repeat (first | refine b1_5 ?_ _ | refine b3_5 ?_ | refine b2_5 ?_ _)); exact BK105.out) hb); have n3_ := aM_5 (b5_5 (g := gb108) (o := .cells #[.int .i64 t106, .int .i64 t107] 53 (0, 0)) (by (with_reducible repeat (first | refine b1_5 ?_ _ | refine b3_5 ?_ | refine b2_5 ?_ _)); refine c1_5 (cs := #[.int .i64 t106, .int .i64 0]) ?_ 1 _ rfl; (with_reducible repeat (first | refine b1_5 ?_ _ | refine b3_5 ?_ | refine b2_5 ?_ _)); refine c1_5 (cs := #[.int .i64 0, .int .i64 0]) ?_ 0 _ rfl; (with_reducible repeat (first | refine b1_5 ?_ _ | refine b3_5 ?_ | refine b2_5 ?_ _)); exact BK108.out) hb); have n4_ := aM_5 (b9_5 (by repeat (first | (with_reducible first | exact HB.out | apply b8_5 | apply b6_5 | apply b7_5 | refine b4_5 ?_ GE102.out | refine b4_5 ?_ GE103.out | refine b4_5 ?_ GE105.out | refine b4_5 ?_ GE108.out) | exact HB.out)) hb); clear BK102 BK103 BK105 BK108 HB; have BK102 := n0_; have BK103 := n1_; have BK105 := n2_; have BK108 := n3_; have HB := n4_; clear n0_ n1_ n2_ n3_ n4_; (try clear hb); (try clear hb2); (try clear hk); (try clear hi); obtain ⟨hcz56_0, hcz56_1, hfz56_0, hfz56_1⟩ := cells2_5 BK108.out; obtain ⟨hcz57_0, hcz57_1, hfz57_0, hfz57_1⟩ := cells2_5 BK105.out))
            go_ret
            exact ⟨by first | rfl | (simp [errW_none, errW_some] <;> rfl) | (simp [*, errW_none, errW_some] <;> rfl), by repeat (first | (with_reducible first | exact HB.out | apply b8_5 | apply b6_5 | apply b7_5 | refine b4_5 ?_ GE102.out | refine b4_5 ?_ GE103.out | refine b4_5 ?_ GE105.out | refine b4_5 ?_ GE108.out) | exact HB.out)⟩
           ·rw [if_neg c44] at H
            have c44b0 : decide (t106 < 2) = false := decide_eq_false c44
            clear c44
            by_cases c58 : (t107 / 2) > (wrap64 (a0_0 + x30_2))
            ·rw [if_pos c58] at H
             have c58b0 : decide ((wrap64 (a0_0 + x30_2)) < (t107 / 2)) = true := decide_eq_true c58
             clear c58
             obtain rfl := Option.some.inj H
             have p104 : 0 ≤ (x30_2 : Int) := of_decide_eq_true (by first | (with_reducible assumption) | assumption)
             have q104 : x30_2 < (l0_1.length : Int) := of_decide_eq_true (by first | (with_reducible assumption) | assumption)
             obtain ⟨ad104, e104, hx104_0, hx104_1⟩ := at_T50 HR0_1.out x30_2 p104 q104
             cases e104
             replace hx104_0 := (HB.out.cell (World.block_lt_of_cell? w _ hx104_0)).trans hx104_0
             replace hx104_1 := (HB.out.cell (World.block_lt_of_cell? w _ hx104_1)).trans hx104_1
             replace p104 := eq_true p104
             replace q104 := eq_true q104
             go_wp2_with (first | ((with_reducible refine gate_dst (N := 5) rfl ?_); (try (refine gate_guard (by rfl) ?_; dsimp only)); refine box_event ?hg (N := 5) ?hd (cs := #[.int .i64 0, .int .i64 0]) (t := 50) ?hr ?_; (case hd => rfl); (case hg => rfl); (case hr => first | (go_simp; done) | (go_simp; rfl)); intro gb105 hg w59 hbox hb; have n0_ := aM_5 (b5_5 (by exact BK102.out) hb); have n1_ := aM_5 (b5_5 (g := gb103) (o := .map om clk) (by exact BK103.out) hb); have n2_ := aM_5 (b9_5 (by repeat (first | (with_reducible first | exact HB.out | apply b8_5 | apply b6_5 | apply b7_5 | refine b4_5 ?_ GE102.out | refine b4_5 ?_ GE103.out) | exact HB.out)) hb); have n3_ := aM_5 (hbox); have n4_ := aM_5 ((by rw [hg]; exact (b0_5 (by repeat (first | (with_reducible first | exact HB.out | apply b8_5 | apply b6_5 | apply b7_5 | refine b4_5 ?_ GE102.out | refine b4_5 ?_ GE103.out) | exact HB.out))) : w.heap.size ≤ gb105)); have n5_ := aM_5 ((by rw [hg]; exact (b0_5 (by repeat (first | (with_reducible first | exact HB.out | apply b8_5 | apply b6_5 | apply b7_5 | refine b4_5 ?_ GE102.out | refine b4_5 ?_ GE103.out) | exact HB.out))) : w.heap.size ≤ gb105)); have n6_ := aM_5 ((by rw [hg]; exact Nat.ne_of_lt (blk_lt (by exact BK102.out)) : gb102 ≠ gb105)); have n7_ := aM_5 ((by rw [hg]; exact Nat.ne_of_gt (blk_lt (by exact BK102.out)) : gb105 ≠ gb102)); have n8_ := aM_5 ((by rw [hg]; exact Nat.ne_of_lt (blk_lt (g := gb103) (o := .map om clk) (by exact BK103.out)) : gb103 ≠ gb105)); have n9_ := aM_5 ((by rw [hg]; exact Nat.ne_of_gt (blk_lt (g := gb103) (o := .map om clk) (by exact BK103.out)) : gb105 ≠ gb103)); clear BK102 BK103 HB; have BK102 := n0_; have BK103 := n1_; have HB := n2_; have BK105 := n3_; have GW105 := n4_; have GE105 := n5_; have NB102_105 := n6_; have NB105_102 := n7_; have NB103_105 := n8_; have NB105_103 := n9_; clear n0_ n1_ n2_ n3_ n4_ n5_ n6_ n7_ n8_ n9_; clear hb hbox hg; have hnb60 := NB105_102.out; have hnc60 := NB102_105.out; have hnb61 := NB105_103.out; have hnc61 := NB103_105.out; obtain ⟨hcz62_0, hcz62_1, hfz62_0, hfz62_1⟩ := cells2_5 BK105.out) | ((with_reducible refine gate_callee (f := 33) rfl ?_); refine goesL_ (some 39) rfl rfl Try.func33 (by kernel_rfl) rfl #[.int .i64 ((rd_T50 l0_1 x30_2).f0), .int .i64 ((rd_T50 l0_1 x30_2).f1)] rfl (by (try simp only [List.map_toArray, List.map_cons, List.map_nil]); first | done | rfl | (simp only [List.length_drop, List.length_take]; rfl)) ?_; (with_reducible refine (aig_of.calls ((rd_T50 l0_1 x30_2).f0) ((rd_T50 l0_1 x30_2).f1) t106 t107 _ A16.out).mono ?_); rintro e w63 ⟨rfl, hb⟩; refine ⟨_, rfl, ?_⟩; have n0_ := aM_5 (b5_5 (g := gb102) (o := .cells #[.int .i64 a0_0, .slice (some ad104) l0_1.length c0_1] 24 (0, 0)) (by (with_reducible repeat (first | refine b1_5 ?_ _ | refine b3_5 ?_ | refine b2_5 ?_ _)); refine c2_5 ?_ NB102_105.out _; (with_reducible repeat (first | refine b1_5 ?_ _ | refine b3_5 ?_ | refine b2_5 ?_ _)); refine c2_5 ?_ NB102_105.out _; (with_reducible repeat (first | refine b1_5 ?_ _ | refine b3_5 ?_ | refine b2_5 ?_ _)); exact BK102.out) hb); have n1_ := aM_5 (b5_5 (g := gb103) (o := .map om clk) (by (with_reducible repeat (first | refine b1_5 ?_ _ | refine b3_5 ?_ | refine b2_5 ?_ _)); refine aig_Right.farc ?_ NB103_105.out _; (with_reducible repeat (first | refine b1_5 ?_ _ | refine b3_5 ?_ | refine b2_5 ?_ _)); refine aig_Right.farc ?_ NB103_105.out _; (with_reducible repeat (first | refine b1_5 ?_ _ | refine b3_5 ?_ | refine b2_5 ?_ _)); exact BK103.out) hb); have n2_ := aM_5 (b5_5 (g := gb105) (o := .cells #[.int .i64 ((rd_T50 l0_1 x30_2).f0), .int .i64 ((rd_T50 l0_1 x30_2).f1)] 50 (0, 0)) (by (with_reducible repeat (first | refine b1_5 ?_ _ | refine b3_5 ?_ | refine b2_5 ?_ _)); refine c1_5 (cs := #[.int .i64 ((rd_T50 l0_1 x30_2).f0), .int .i64 0]) ?_ 1 _ rfl; (with_reducible repeat (first | refine b1_5 ?_ _ | refine b3_5 ?_ | refine b2_5 ?_ _)); refine c1_5 (cs := #[.int .i64 0, .int .i64 0]) ?_ 0 _ rfl; (with_reducible repeat (first | refine b1_5 ?_ _ | refine b3_5 ?_ | refine b2_5 ?_ _)); exact BK105.out) hb); have n3_ := aM_5 (b9_5 (by repeat (first | (with_reducible first | exact HB.out | apply b8_5 | apply b6_5 | apply b7_5 | refine b4_5 ?_ GE102.out | refine b4_5 ?_ GE103.out | refine b4_5 ?_ GE105.out) | exact HB.out)) hb); clear BK102 BK103 BK105 HB; have BK102 := n0_; have BK103 := n1_; have BK105 := n2_; have HB := n3_; clear n0_ n1_ n2_ n3_; (try clear hb); (try clear hb2); (try clear hk); (try clear hi)) | ((with_reducible refine gate_dst (N := 6) rfl ?_); (try (refine gate_guard (by rfl) ?_; dsimp only)); refine box_event ?hg (N := 6) ?hd (cs := #[.int .i64 0, .int .i64 0]) (t := 53) ?hr ?_; (case hd => rfl); (case hg => rfl); (case hr => first | (go_simp; done) | (go_simp; rfl)); intro gb108 hg w64 hbox hb; have n0_ := aM_5 (b5_5 (by exact BK102.out) hb); have n1_ := aM_5 (b5_5 (g := gb103) (o := .map om clk) (by exact BK103.out) hb); have n2_ := aM_5 (b5_5 (by exact BK105.out) hb); have n3_ := aM_5 (b9_5 (by repeat (first | (with_reducible first | exact HB.out | apply b8_5 | apply b6_5 | apply b7_5 | refine b4_5 ?_ GE102.out | refine b4_5 ?_ GE103.out | refine b4_5 ?_ GE105.out) | exact HB.out)) hb); have n4_ := aM_5 (hbox); have n5_ := aM_5 ((by rw [hg]; exact (b0_5 (by repeat (first | (with_reducible first | exact HB.out | apply b8_5 | apply b6_5 | apply b7_5 | refine b4_5 ?_ GE102.out | refine b4_5 ?_ GE103.out | refine b4_5 ?_ GE105.out) | exact HB.out))) : w.heap.size ≤ gb108)); have n6_ := aM_5 ((by rw [hg]; exact (b0_5 (by repeat (first | (with_reducible first | exact HB.out | apply b8_5 | apply b6_5 | apply b7_5 | refine b4_5 ?_ GE102.out | refine b4_5 ?_ GE103.out | refine b4_5 ?_ GE105.out) | exact HB.out))) : w.heap.size ≤ gb108)); have n7_ := aM_5 ((by rw [hg]; exact Nat.ne_of_lt (blk_lt (by exact BK102.out)) : gb102 ≠ gb108)); have n8_ := aM_5 ((by rw [hg]; exact Nat.ne_of_gt (blk_lt (by exact BK102.out)) : gb108 ≠ gb102)); have n9_ := aM_5 ((by rw [hg]; exact Nat.ne_of_lt (blk_lt (g := gb103) (o := .map om clk) (by exact BK103.out)) : gb103 ≠ gb108)); have n10_ := aM_5 ((by rw [hg]; exact Nat.ne_of_gt (blk_lt (g := gb103) (o := .map om clk) (by exact BK103.out)) : gb108 ≠ gb103)); have n11_ := aM_5 ((by rw [hg]; exact Nat.ne_of_lt (blk_lt (by exact BK105.out)) : gb105 ≠ gb108)); have n12_ := aM_5 ((by rw [hg]; exact Nat.ne_of_gt (blk_lt (by exact BK105.out)) : gb108 ≠ gb105)); clear BK102 BK103 BK105 HB; have BK102 := n0_; have BK103 := n1_; have BK105 := n2_; have HB := n3_; have BK108 := n4_; have GW108 := n5_; have GE108 := n6_; have NB102_108 := n7_; have NB108_102 := n8_; have NB103_108 := n9_; have NB108_103 := n10_; have NB105_108 := n11_; have NB108_105 := n12_; clear n0_ n1_ n2_ n3_ n4_ n5_ n6_ n7_ n8_ n9_ n10_ n11_ n12_; clear hb hbox hg; have hnb65 := NB108_102.out; have hnc65 := NB102_108.out; have hnb66 := NB108_103.out; have hnc66 := NB103_108.out; have hnb67 := NB108_105.out; have hnc67 := NB105_108.out; obtain ⟨hcz68_0, hcz68_1, hfz68_0, hfz68_1⟩ := cells2_5 BK108.out) | ((with_reducible refine gate_callee (f := 34) rfl ?_); refine goesL_ (some 42) rfl rfl Try.func34 (by kernel_rfl) rfl #[.agg #[.int .i64 t106, .int .i64 t107]] rfl (by (try simp only [List.map_toArray, List.map_cons, List.map_nil]); first | done | rfl | (simp only [List.length_drop, List.length_take]; rfl)) ?_; (with_reducible refine (aig_plain.calls t106 t107 t109 false _ A17.out).mono ?_); rintro e w69 ⟨rfl, hb⟩; refine ⟨_, rfl, ?_⟩; have n0_ := aM_5 (b5_5 (g := gb102) (o := .cells #[.int .i64 a0_0, .slice (some ad104) l0_1.length c0_1] 24 (0, 0)) (by (with_reducible repeat (first | refine b1_5 ?_ _ | refine b3_5 ?_ | refine b2_5 ?_ _)); refine c2_5 ?_ NB102_108.out _; (with_reducible repeat (first | refine b1_5 ?_ _ | refine b3_5 ?_ | refine b2_5 ?_ _)); refine c2_5 ?_ NB102_108.out _; (with_reducible repeat (first | refine b1_5 ?_ _ | refine b3_5 ?_ | refine b2_5 ?_ _)); exact BK102.out) hb); have n1_ := aM_5 (b5_5 (g := gb103) (o := .map om clk) (by (with_reducible repeat (first | refine b1_5 ?_ _ | refine b3_5 ?_ | refine b2_5 ?_ _)); refine aig_Right.farc ?_ NB103_108.out _; (with_reducible repeat (first | refine b1_5 ?_ _ | refine b3_5 ?_ | refine b2_5 ?_ _)); refine aig_Right.farc ?_ NB103_108.out _; (with_reducible repeat (first | refine b1_5 ?_ _ | refine b3_5 ?_ | refine b2_5 ?_ _)); exact BK103.out) hb); have n2_ := aM_5 (b5_5 (g := gb105) (o := .cells #[.int .i64 ((rd_T50 l0_1 x30_2).f0), .int .i64 ((rd_T50 l0_1 x30_2).f1)] 50 (0, 0)) (by (with_reducible repeat (first | refine b1_5 ?_ _ | refine b3_5 ?_ | refine b2_5 ?_ _)); refine c2_5 ?_ NB105_108.out _; (with_reducible repeat (first | refine b1_5 ?_ _ | refine b3_5 ?_ | refine b2_5 ?_ _)); refine c2_5 ?_ NB105_108.out _; (with_reducible repeat (first | refine b1_5 ?_ _ | refine b3_5 ?_ | refine b2_5 ?_ _)); exact BK105.out) hb); have n3_ := aM_5 (b5_5 (g := gb108) (o := .cells #[.int .i64 t106, .int .i64 t107] 53 (0, 0)) (by (with_reducible repeat (first | refine b1_5 ?_ _ | refine b3_5 ?_ | refine b2_5 ?_ _)); refine c1_5 (cs := #[.int .i64 t106, .int .i64 0]) ?_ 1 _ rfl; (with_reducible repeat (first | refine b1_5 ?_ _ | refine b3_5 ?_ | refine b2_5 ?_ _)); refine c1_5 (cs := #[.int .i64 0, .int .i64 0]) ?_ 0 _ rfl; (with_reducible repeat (first | refine b1_5 ?_ _ | refine b3_5 ?_ | refine b2_5 ?_ _)); exact BK108.out) hb); have n4_ := aM_5 (b9_5 (by repeat (first | (with_reducible first | exact HB.out | apply b8_5 | apply b6_5 | apply b7_5 | refine b4_5 ?_ GE102.out | refine b4_5 ?_ GE103.out | refine b4_5 ?_ GE105.out | refine b4_5 ?_ GE108.out) | exact HB.out)) hb); clear BK102 BK103 BK105 BK108 HB; have BK102 := n0_; have BK103 := n1_; have BK105 := n2_; have BK108 := n3_; have HB := n4_; clear n0_ n1_ n2_ n3_ n4_; (try clear hb); (try clear hb2); (try clear hk); (try clear hi); obtain ⟨hcz70_0, hcz70_1, hfz70_0, hfz70_1⟩ := cells2_5 BK108.out; obtain ⟨hcz71_0, hcz71_1, hfz71_0, hfz71_1⟩ := cells2_5 BK105.out; have hnb72 := NB102_103.out; have hnc72 := NB103_102.out; obtain ⟨hcz73_0, hcz73_1, hfz73_0, hfz73_1⟩ := cells2_5 BK102.out))
             go_ret
             exact ⟨by first | rfl | (simp [errW_none, errW_some] <;> rfl) | (simp [*, errW_none, errW_some] <;> rfl), by repeat (first | (with_reducible first | exact HB.out | apply b8_5 | apply b6_5 | apply b7_5 | refine b4_5 ?_ GE102.out | refine b4_5 ?_ GE103.out | refine b4_5 ?_ GE105.out | refine b4_5 ?_ GE108.out) | exact HB.out)⟩
            ·rw [if_neg c58] at H
             have c58b0 : decide ((wrap64 (a0_0 + x30_2)) < (t107 / 2)) = false := decide_eq_false c58
             clear c58
             by_cases c74 : aig_Right.inn l0_1 x30_2 = true
             ·rw [if_pos c74] at H
              have HI := aM_5 c74
              have HE := aM_5 (aig_Right.same_of c30b0)
              clear c74
              obtain rfl := Option.some.inj H
              have p104 : 0 ≤ (x30_2 : Int) := of_decide_eq_true (by first | (with_reducible assumption) | assumption)
              have q104 : x30_2 < (l0_1.length : Int) := of_decide_eq_true (by first | (with_reducible assumption) | assumption)
              obtain ⟨ad104, e104, hx104_0, hx104_1⟩ := at_T50 HR0_1.out x30_2 p104 q104
              cases e104
              replace hx104_0 := (HB.out.cell (World.block_lt_of_cell? w _ hx104_0)).trans hx104_0
              replace hx104_1 := (HB.out.cell (World.block_lt_of_cell? w _ hx104_1)).trans hx104_1
              replace p104 := eq_true p104
              replace q104 := eq_true q104
              go_wp2_with (first | ((with_reducible refine gate_dst (N := 5) rfl ?_); (try (refine gate_guard (by rfl) ?_; dsimp only)); refine box_event ?hg (N := 5) ?hd (cs := #[.int .i64 0, .int .i64 0]) (t := 50) ?hr ?_; (case hd => rfl); (case hg => rfl); (case hr => first | (go_simp; done) | (go_simp; rfl)); intro gb105 hg w75 hbox hb; have n0_ := aM_5 (b5_5 (by exact BK102.out) hb); have n1_ := aM_5 (b5_5 (g := gb103) (o := .map om clk) (by exact BK103.out) hb); have n2_ := aM_5 (b9_5 (by repeat (first | (with_reducible first | exact HB.out | apply b8_5 | apply b6_5 | apply b7_5 | refine b4_5 ?_ GE102.out | refine b4_5 ?_ GE103.out) | exact HB.out)) hb); have n3_ := aM_5 (hbox); have n4_ := aM_5 ((by rw [hg]; exact (b0_5 (by repeat (first | (with_reducible first | exact HB.out | apply b8_5 | apply b6_5 | apply b7_5 | refine b4_5 ?_ GE102.out | refine b4_5 ?_ GE103.out) | exact HB.out))) : w.heap.size ≤ gb105)); have n5_ := aM_5 ((by rw [hg]; exact (b0_5 (by repeat (first | (with_reducible first | exact HB.out | apply b8_5 | apply b6_5 | apply b7_5 | refine b4_5 ?_ GE102.out | refine b4_5 ?_ GE103.out) | exact HB.out))) : w.heap.size ≤ gb105)); have n6_ := aM_5 ((by rw [hg]; exact Nat.ne_of_lt (blk_lt (by exact BK102.out)) : gb102 ≠ gb105)); have n7_ := aM_5 ((by rw [hg]; exact Nat.ne_of_gt (blk_lt (by exact BK102.out)) : gb105 ≠ gb102)); have n8_ := aM_5 ((by rw [hg]; exact Nat.ne_of_lt (blk_lt (g := gb103) (o := .map om clk) (by exact BK103.out)) : gb103 ≠ gb105)); have n9_ := aM_5 ((by rw [hg]; exact Nat.ne_of_gt (blk_lt (g := gb103) (o := .map om clk) (by exact BK103.out)) : gb105 ≠ gb103)); clear BK102 BK103 HB; have BK102 := n0_; have BK103 := n1_; have HB := n2_; have BK105 := n3_; have GW105 := n4_; have GE105 := n5_; have NB102_105 := n6_; have NB105_102 := n7_; have NB103_105 := n8_; have NB105_103 := n9_; clear n0_ n1_ n2_ n3_ n4_ n5_ n6_ n7_ n8_ n9_; clear hb hbox hg; have hnb76 := NB105_102.out; have hnc76 := NB102_105.out; have hnb77 := NB105_103.out; have hnc77 := NB103_105.out; obtain ⟨hcz78_0, hcz78_1, hfz78_0, hfz78_1⟩ := cells2_5 BK105.out) | ((with_reducible refine gate_callee (f := 33) rfl ?_); refine goesL_ (some 39) rfl rfl Try.func33 (by kernel_rfl) rfl #[.int .i64 ((rd_T50 l0_1 x30_2).f0), .int .i64 ((rd_T50 l0_1 x30_2).f1)] rfl (by (try simp only [List.map_toArray, List.map_cons, List.map_nil]); first | done | rfl | (simp only [List.length_drop, List.length_take]; rfl)) ?_; (with_reducible refine (aig_of.calls ((rd_T50 l0_1 x30_2).f0) ((rd_T50 l0_1 x30_2).f1) t106 t107 _ A16.out).mono ?_); rintro e w79 ⟨rfl, hb⟩; refine ⟨_, rfl, ?_⟩; have n0_ := aM_5 (b5_5 (g := gb102) (o := .cells #[.int .i64 a0_0, .slice (some ad104) l0_1.length c0_1] 24 (0, 0)) (by (with_reducible repeat (first | refine b1_5 ?_ _ | refine b3_5 ?_ | refine b2_5 ?_ _)); refine c2_5 ?_ NB102_105.out _; (with_reducible repeat (first | refine b1_5 ?_ _ | refine b3_5 ?_ | refine b2_5 ?_ _)); refine c2_5 ?_ NB102_105.out _; (with_reducible repeat (first | refine b1_5 ?_ _ | refine b3_5 ?_ | refine b2_5 ?_ _)); exact BK102.out) hb); have n1_ := aM_5 (b5_5 (g := gb103) (o := .map om clk) (by (with_reducible repeat (first | refine b1_5 ?_ _ | refine b3_5 ?_ | refine b2_5 ?_ _)); refine aig_Right.farc ?_ NB103_105.out _; (with_reducible repeat (first | refine b1_5 ?_ _ | refine b3_5 ?_ | refine b2_5 ?_ _)); refine aig_Right.farc ?_ NB103_105.out _; (with_reducible repeat (first | refine b1_5 ?_ _ | refine b3_5 ?_ | refine b2_5 ?_ _)); exact BK103.out) hb); have n2_ := aM_5 (b5_5 (g := gb105) (o := .cells #[.int .i64 ((rd_T50 l0_1 x30_2).f0), .int .i64 ((rd_T50 l0_1 x30_2).f1)] 50 (0, 0)) (by (with_reducible repeat (first | refine b1_5 ?_ _ | refine b3_5 ?_ | refine b2_5 ?_ _)); refine c1_5 (cs := #[.int .i64 ((rd_T50 l0_1 x30_2).f0), .int .i64 0]) ?_ 1 _ rfl; (with_reducible repeat (first | refine b1_5 ?_ _ | refine b3_5 ?_ | refine b2_5 ?_ _)); refine c1_5 (cs := #[.int .i64 0, .int .i64 0]) ?_ 0 _ rfl; (with_reducible repeat (first | refine b1_5 ?_ _ | refine b3_5 ?_ | refine b2_5 ?_ _)); exact BK105.out) hb); have n3_ := aM_5 (b9_5 (by repeat (first | (with_reducible first | exact HB.out | apply b8_5 | apply b6_5 | apply b7_5 | refine b4_5 ?_ GE102.out | refine b4_5 ?_ GE103.out | refine b4_5 ?_ GE105.out) | exact HB.out)) hb); clear BK102 BK103 BK105 HB; have BK102 := n0_; have BK103 := n1_; have BK105 := n2_; have HB := n3_; clear n0_ n1_ n2_ n3_; (try clear hb); (try clear hb2); (try clear hk); (try clear hi)) | ((with_reducible refine gate_dst (N := 6) rfl ?_); (try (refine gate_guard (by rfl) ?_; dsimp only)); refine box_event ?hg (N := 6) ?hd (cs := #[.int .i64 0, .int .i64 0]) (t := 53) ?hr ?_; (case hd => rfl); (case hg => rfl); (case hr => first | (go_simp; done) | (go_simp; rfl)); intro gb108 hg w80 hbox hb; have n0_ := aM_5 (b5_5 (by exact BK102.out) hb); have n1_ := aM_5 (b5_5 (g := gb103) (o := .map om clk) (by exact BK103.out) hb); have n2_ := aM_5 (b5_5 (by exact BK105.out) hb); have n3_ := aM_5 (b9_5 (by repeat (first | (with_reducible first | exact HB.out | apply b8_5 | apply b6_5 | apply b7_5 | refine b4_5 ?_ GE102.out | refine b4_5 ?_ GE103.out | refine b4_5 ?_ GE105.out) | exact HB.out)) hb); have n4_ := aM_5 (hbox); have n5_ := aM_5 ((by rw [hg]; exact (b0_5 (by repeat (first | (with_reducible first | exact HB.out | apply b8_5 | apply b6_5 | apply b7_5 | refine b4_5 ?_ GE102.out | refine b4_5 ?_ GE103.out | refine b4_5 ?_ GE105.out) | exact HB.out))) : w.heap.size ≤ gb108)); have n6_ := aM_5 ((by rw [hg]; exact (b0_5 (by repeat (first | (with_reducible first | exact HB.out | apply b8_5 | apply b6_5 | apply b7_5 | refine b4_5 ?_ GE102.out | refine b4_5 ?_ GE103.out | refine b4_5 ?_ GE105.out) | exact HB.out))) : w.heap.size ≤ gb108)); have n7_ := aM_5 ((by rw [hg]; exact Nat.ne_of_lt (blk_lt (by exact BK102.out)) : gb102 ≠ gb108)); have n8_ := aM_5 ((by rw [hg]; exact Nat.ne_of_gt (blk_lt (by exact BK102.out)) : gb108 ≠ gb102)); have n9_ := aM_5 ((by rw [hg]; exact Nat.ne_of_lt (blk_lt (g := gb103) (o := .map om clk) (by exact BK103.out)) : gb103 ≠ gb108)); have n10_ := aM_5 ((by rw [hg]; exact Nat.ne_of_gt (blk_lt (g := gb103) (o := .map om clk) (by exact BK103.out)) : gb108 ≠ gb103)); have n11_ := aM_5 ((by rw [hg]; exact Nat.ne_of_lt (blk_lt (by exact BK105.out)) : gb105 ≠ gb108)); have n12_ := aM_5 ((by rw [hg]; exact Nat.ne_of_gt (blk_lt (by exact BK105.out)) : gb108 ≠ gb105)); clear BK102 BK103 BK105 HB; have BK102 := n0_; have BK103 := n1_; have BK105 := n2_; have HB := n3_; have BK108 := n4_; have GW108 := n5_; have GE108 := n6_; have NB102_108 := n7_; have NB108_102 := n8_; have NB103_108 := n9_; have NB108_103 := n10_; have NB105_108 := n11_; have NB108_105 := n12_; clear n0_ n1_ n2_ n3_ n4_ n5_ n6_ n7_ n8_ n9_ n10_ n11_ n12_; clear hb hbox hg; have hnb81 := NB108_102.out; have hnc81 := NB102_108.out; have hnb82 := NB108_103.out; have hnc82 := NB103_108.out; have hnb83 := NB108_105.out; have hnc83 := NB105_108.out; obtain ⟨hcz84_0, hcz84_1, hfz84_0, hfz84_1⟩ := cells2_5 BK108.out) | ((with_reducible refine gate_callee (f := 34) rfl ?_); refine goesL_ (some 42) rfl rfl Try.func34 (by kernel_rfl) rfl #[.agg #[.int .i64 t106, .int .i64 t107]] rfl (by (try simp only [List.map_toArray, List.map_cons, List.map_nil]); first | done | rfl | (simp only [List.length_drop, List.length_take]; rfl)) ?_; (with_reducible refine (aig_plain.calls t106 t107 t109 false _ A17.out).mono ?_); rintro e w85 ⟨rfl, hb⟩; refine ⟨_, rfl, ?_⟩; have n0_ := aM_5 (b5_5 (g := gb102) (o := .cells #[.int .i64 a0_0, .slice (some ad104) l0_1.length c0_1] 24 (0, 0)) (by (with_reducible repeat (first | refine b1_5 ?_ _ | refine b3_5 ?_ | refine b2_5 ?_ _)); refine c2_5 ?_ NB102_108.out _; (with_reducible repeat (first | refine b1_5 ?_ _ | refine b3_5 ?_ | refine b2_5 ?_ _)); refine c2_5 ?_ NB102_108.out _; (with_reducible repeat (first | refine b1_5 ?_ _ | refine b3_5 ?_ | refine b2_5 ?_ _)); exact BK102.out) hb); have n1_ := aM_5 (b5_5 (g := gb103) (o := .map om clk) (by (with_reducible repeat (first | refine b1_5 ?_ _ | refine b3_5 ?_ | refine b2_5 ?_ _)); refine aig_Right.farc ?_ NB103_108.out _; (with_reducible repeat (first | refine b1_5 ?_ _ | refine b3_5 ?_ | refine b2_5 ?_ _)); refine aig_Right.farc ?_ NB103_108.out _; (with_reducible repeat (first | refine b1_5 ?_ _ | refine b3_5 ?_ | refine b2_5 ?_ _)); exact BK103.out) hb); have n2_ := aM_5 (b5_5 (g := gb105) (o := .cells #[.int .i64 ((rd_T50 l0_1 x30_2).f0), .int .i64 ((rd_T50 l0_1 x30_2).f1)] 50 (0, 0)) (by (with_reducible repeat (first | refine b1_5 ?_ _ | refine b3_5 ?_ | refine b2_5 ?_ _)); refine c2_5 ?_ NB105_108.out _; (with_reducible repeat (first | refine b1_5 ?_ _ | refine b3_5 ?_ | refine b2_5 ?_ _)); refine c2_5 ?_ NB105_108.out _; (with_reducible repeat (first | refine b1_5 ?_ _ | refine b3_5 ?_ | refine b2_5 ?_ _)); exact BK105.out) hb); have n3_ := aM_5 (b5_5 (g := gb108) (o := .cells #[.int .i64 t106, .int .i64 t107] 53 (0, 0)) (by (with_reducible repeat (first | refine b1_5 ?_ _ | refine b3_5 ?_ | refine b2_5 ?_ _)); refine c1_5 (cs := #[.int .i64 t106, .int .i64 0]) ?_ 1 _ rfl; (with_reducible repeat (first | refine b1_5 ?_ _ | refine b3_5 ?_ | refine b2_5 ?_ _)); refine c1_5 (cs := #[.int .i64 0, .int .i64 0]) ?_ 0 _ rfl; (with_reducible repeat (first | refine b1_5 ?_ _ | refine b3_5 ?_ | refine b2_5 ?_ _)); exact BK108.out) hb); have n4_ := aM_5 (b9_5 (by repeat (first | (with_reducible first | exact HB.out | apply b8_5 | apply b6_5 | apply b7_5 | refine b4_5 ?_ GE102.out | refine b4_5 ?_ GE103.out | refine b4_5 ?_ GE105.out | refine b4_5 ?_ GE108.out) | exact HB.out)) hb); clear BK102 BK103 BK105 BK108 HB; have BK102 := n0_; have BK103 := n1_; have BK105 := n2_; have BK108 := n3_; have HB := n4_; clear n0_ n1_ n2_ n3_ n4_; (try clear hb); (try clear hb2); (try clear hk); (try clear hi); obtain ⟨hcz86_0, hcz86_1, hfz86_0, hfz86_1⟩ := cells2_5 BK108.out; obtain ⟨hcz87_0, hcz87_1, hfz87_0, hfz87_1⟩ := cells2_5 BK105.out; have hnb88 := NB102_103.out; have hnc88 := NB103_102.out; obtain ⟨hcz89_0, hcz89_1, hfz89_0, hfz89_1⟩ := cells2_5 BK102.out; have hlk := aig_Right.hit ⟨⟨om, clk, BK103.out, HKV.out⟩, HKS.out⟩ HFI.out (of_eq_true p104) (of_eq_true q104) HE.out HI.out))
              go_ret
              exact ⟨by first | rfl | (simp [errW_none, errW_some] <;> rfl) | (simp [*, errW_none, errW_some] <;> rfl), by repeat (first | (with_reducible first | exact HB.out | apply b8_5 | apply b6_5 | apply b7_5 | refine b4_5 ?_ GE102.out | refine b4_5 ?_ GE103.out | refine b4_5 ?_ GE105.out | refine b4_5 ?_ GE108.out) | exact HB.out)⟩
             ·rw [if_neg c74] at H
              have HI := aM_5 (Bool.eq_false_iff.mpr c74)
              have HE := aM_5 (aig_Right.same_of c30b0)
              clear c74
              have H' := aM_5 H
              clear H
              have p104 : 0 ≤ (x30_2 : Int) := of_decide_eq_true (by first | (with_reducible assumption) | assumption)
              have q104 : x30_2 < (l0_1.length : Int) := of_decide_eq_true (by first | (with_reducible assumption) | assumption)
              obtain ⟨ad104, e104, hx104_0, hx104_1⟩ := at_T50 HR0_1.out x30_2 p104 q104
              cases e104
              replace hx104_0 := (HB.out.cell (World.block_lt_of_cell? w _ hx104_0)).trans hx104_0
              replace hx104_1 := (HB.out.cell (World.block_lt_of_cell? w _ hx104_1)).trans hx104_1
              replace p104 := eq_true p104
              replace q104 := eq_true q104
              go_wp2_with (first | ((with_reducible refine gate_dst (N := 5) rfl ?_); (try (refine gate_guard (by rfl) ?_; dsimp only)); refine box_event ?hg (N := 5) ?hd (cs := #[.int .i64 0, .int .i64 0]) (t := 50) ?hr ?_; (case hd => rfl); (case hg => rfl); (case hr => first | (go_simp; done) | (go_simp; rfl)); intro gb105 hg w91 hbox hb; have n0_ := aM_5 (b5_5 (by exact BK102.out) hb); have n1_ := aM_5 (b5_5 (g := gb103) (o := .map om clk) (by exact BK103.out) hb); have n2_ := aM_5 (b9_5 (by repeat (first | (with_reducible first | exact HB.out | apply b8_5 | apply b6_5 | apply b7_5 | refine b4_5 ?_ GE102.out | refine b4_5 ?_ GE103.out) | exact HB.out)) hb); have n3_ := aM_5 (hbox); have n4_ := aM_5 ((by rw [hg]; exact (b0_5 (by repeat (first | (with_reducible first | exact HB.out | apply b8_5 | apply b6_5 | apply b7_5 | refine b4_5 ?_ GE102.out | refine b4_5 ?_ GE103.out) | exact HB.out))) : w.heap.size ≤ gb105)); have n5_ := aM_5 ((by rw [hg]; exact (b0_5 (by repeat (first | (with_reducible first | exact HB.out | apply b8_5 | apply b6_5 | apply b7_5 | refine b4_5 ?_ GE102.out | refine b4_5 ?_ GE103.out) | exact HB.out))) : w.heap.size ≤ gb105)); have n6_ := aM_5 ((by rw [hg]; exact Nat.ne_of_lt (blk_lt (by exact BK102.out)) : gb102 ≠ gb105)); have n7_ := aM_5 ((by rw [hg]; exact Nat.ne_of_gt (blk_lt (by exact BK102.out)) : gb105 ≠ gb102)); have n8_ := aM_5 ((by rw [hg]; exact Nat.ne_of_lt (blk_lt (g := gb103) (o := .map om clk) (by exact BK103.out)) : gb103 ≠ gb105)); have n9_ := aM_5 ((by rw [hg]; exact Nat.ne_of_gt (blk_lt (g := gb103) (o := .map om clk) (by exact BK103.out)) : gb105 ≠ gb103)); clear BK102 BK103 HB; have BK102 := n0_; have BK103 := n1_; have HB := n2_; have BK105 := n3_; have GW105 := n4_; have GE105 := n5_; have NB102_105 := n6_; have NB105_102 := n7_; have NB103_105 := n8_; have NB105_103 := n9_; clear n0_ n1_ n2_ n3_ n4_ n5_ n6_ n7_ n8_ n9_; clear hb hbox hg; have hnb92 := NB105_102.out; have hnc92 := NB102_105.out; have hnb93 := NB105_103.out; have hnc93 := NB103_105.out; obtain ⟨hcz94_0, hcz94_1, hfz94_0, hfz94_1⟩ := cells2_5 BK105.out) | ((with_reducible refine gate_callee (f := 33) rfl ?_); refine goesL_ (some 39) rfl rfl Try.func33 (by kernel_rfl) rfl #[.int .i64 ((rd_T50 l0_1 x30_2).f0), .int .i64 ((rd_T50 l0_1 x30_2).f1)] rfl (by (try simp only [List.map_toArray, List.map_cons, List.map_nil]); first | done | rfl | (simp only [List.length_drop, List.length_take]; rfl)) ?_; (with_reducible refine (aig_of.calls ((rd_T50 l0_1 x30_2).f0) ((rd_T50 l0_1 x30_2).f1) t106 t107 _ A16.out).mono ?_); rintro e w95 ⟨rfl, hb⟩; refine ⟨_, rfl, ?_⟩; have n0_ := aM_5 (b5_5 (g := gb102) (o := .cells #[.int .i64 a0_0, .slice (some ad104) l0_1.length c0_1] 24 (0, 0)) (by (with_reducible repeat (first | refine b1_5 ?_ _ | refine b3_5 ?_ | refine b2_5 ?_ _)); refine c2_5 ?_ NB102_105.out _; (with_reducible repeat (first | refine b1_5 ?_ _ | refine b3_5 ?_ | refine b2_5 ?_ _)); refine c2_5 ?_ NB102_105.out _; (with_reducible repeat (first | refine b1_5 ?_ _ | refine b3_5 ?_ | refine b2_5 ?_ _)); exact BK102.out) hb); have n1_ := aM_5 (b5_5 (g := gb103) (o := .map om clk) (by (with_reducible repeat (first | refine b1_5 ?_ _ | refine b3_5 ?_ | refine b2_5 ?_ _)); refine aig_Right.farc ?_ NB103_105.out _; (with_reducible repeat (first | refine b1_5 ?_ _ | refine b3_5 ?_ | refine b2_5 ?_ _)); refine aig_Right.farc ?_ NB103_105.out _; (with_reducible repeat (first | refine b1_5 ?_ _ | refine b3_5 ?_ | refine b2_5 ?_ _)); exact BK103.out) hb); have n2_ := aM_5 (b5_5 (g := gb105) (o := .cells #[.int .i64 ((rd_T50 l0_1 x30_2).f0), .int .i64 ((rd_T50 l0_1 x30_2).f1)] 50 (0, 0)) (by (with_reducible repeat (first | refine b1_5 ?_ _ | refine b3_5 ?_ | refine b2_5 ?_ _)); refine c1_5 (cs := #[.int .i64 ((rd_T50 l0_1 x30_2).f0), .int .i64 0]) ?_ 1 _ rfl; (with_reducible repeat (first | refine b1_5 ?_ _ | refine b3_5 ?_ | refine b2_5 ?_ _)); refine c1_5 (cs := #[.int .i64 0, .int .i64 0]) ?_ 0 _ rfl; (with_reducible repeat (first | refine b1_5 ?_ _ | refine b3_5 ?_ | refine b2_5 ?_ _)); exact BK105.out) hb); have n3_ := aM_5 (b9_5 (by repeat (first | (with_reducible first | exact HB.out | apply b8_5 | apply b6_5 | apply b7_5 | refine b4_5 ?_ GE102.out | refine b4_5 ?_ GE103.out | refine b4_5 ?_ GE105.out) | exact HB.out)) hb); clear BK102 BK103 BK105 HB; have BK102 := n0_; have BK103 := n1_; have BK105 := n2_; have HB := n3_; clear n0_ n1_ n2_ n3_; (try clear hb); (try clear hb2); (try clear hk); (try clear hi)) | ((with_reducible refine gate_dst (N := 6) rfl ?_); (try (refine gate_guard (by rfl) ?_; dsimp only)); refine box_event ?hg (N := 6) ?hd (cs := #[.int .i64 0, .int .i64 0]) (t := 53) ?hr ?_; (case hd => rfl); (case hg => rfl); (case hr => first | (go_simp; done) | (go_simp; rfl)); intro gb108 hg w96 hbox hb; have n0_ := aM_5 (b5_5 (by exact BK102.out) hb); have n1_ := aM_5 (b5_5 (g := gb103) (o := .map om clk) (by exact BK103.out) hb); have n2_ := aM_5 (b5_5 (by exact BK105.out) hb); have n3_ := aM_5 (b9_5 (by repeat (first | (with_reducible first | exact HB.out | apply b8_5 | apply b6_5 | apply b7_5 | refine b4_5 ?_ GE102.out | refine b4_5 ?_ GE103.out | refine b4_5 ?_ GE105.out) | exact HB.out)) hb); have n4_ := aM_5 (hbox); have n5_ := aM_5 ((by rw [hg]; exact (b0_5 (by repeat (first | (with_reducible first | exact HB.out | apply b8_5 | apply b6_5 | apply b7_5 | refine b4_5 ?_ GE102.out | refine b4_5 ?_ GE103.out | refine b4_5 ?_ GE105.out) | exact HB.out))) : w.heap.size ≤ gb108)); have n6_ := aM_5 ((by rw [hg]; exact (b0_5 (by repeat (first | (with_reducible first | exact HB.out | apply b8_5 | apply b6_5 | apply b7_5 | refine b4_5 ?_ GE102.out | refine b4_5 ?_ GE103.out | refine b4_5 ?_ GE105.out) | exact HB.out))) : w.heap.size ≤ gb108)); have n7_ := aM_5 ((by rw [hg]; exact Nat.ne_of_lt (blk_lt (by exact BK102.out)) : gb102 ≠ gb108)); have n8_ := aM_5 ((by rw [hg]; exact Nat.ne_of_gt (blk_lt (by exact BK102.out)) : gb108 ≠ gb102)); have n9_ := aM_5 ((by rw [hg]; exact Nat.ne_of_lt (blk_lt (g := gb103) (o := .map om clk) (by exact BK103.out)) : gb103 ≠ gb108)); have n10_ := aM_5 ((by rw [hg]; exact Nat.ne_of_gt (blk_lt (g := gb103) (o := .map om clk) (by exact BK103.out)) : gb108 ≠ gb103)); have n11_ := aM_5 ((by rw [hg]; exact Nat.ne_of_lt (blk_lt (by exact BK105.out)) : gb105 ≠ gb108)); have n12_ := aM_5 ((by rw [hg]; exact Nat.ne_of_gt (blk_lt (by exact BK105.out)) : gb108 ≠ gb105)); clear BK102 BK103 BK105 HB; have BK102 := n0_; have BK103 := n1_; have BK105 := n2_; have HB := n3_; have BK108 := n4_; have GW108 := n5_; have GE108 := n6_; have NB102_108 := n7_; have NB108_102 := n8_; have NB103_108 := n9_; have NB108_103 := n10_; have NB105_108 := n11_; have NB108_105 := n12_; clear n0_ n1_ n2_ n3_ n4_ n5_ n6_ n7_ n8_ n9_ n10_ n11_ n12_; clear hb hbox hg; have hnb97 := NB108_102.out; have hnc97 := NB102_108.out; have hnb98 := NB108_103.out; have hnc98 := NB103_108.out; have hnb99 := NB108_105.out; have hnc99 := NB105_108.out; obtain ⟨hcz100_0, hcz100_1, hfz100_0, hfz100_1⟩ := cells2_5 BK108.out) | ((with_reducible refine gate_callee (f := 34) rfl ?_); refine goesL_ (some 42) rfl rfl Try.func34 (by kernel_rfl) rfl #[.agg #[.int .i64 t106, .int .i64 t107]] rfl (by (try simp only [List.map_toArray, List.map_cons, List.map_nil]); first | done | rfl | (simp only [List.length_drop, List.length_take]; rfl)) ?_; (with_reducible refine (aig_plain.calls t106 t107 t109 false _ A17.out).mono ?_); rintro e w101 ⟨rfl, hb⟩; refine ⟨_, rfl, ?_⟩; have n0_ := aM_5 (b5_5 (g := gb102) (o := .cells #[.int .i64 a0_0, .slice (some ad104) l0_1.length c0_1] 24 (0, 0)) (by (with_reducible repeat (first | refine b1_5 ?_ _ | refine b3_5 ?_ | refine b2_5 ?_ _)); refine c2_5 ?_ NB102_108.out _; (with_reducible repeat (first | refine b1_5 ?_ _ | refine b3_5 ?_ | refine b2_5 ?_ _)); refine c2_5 ?_ NB102_108.out _; (with_reducible repeat (first | refine b1_5 ?_ _ | refine b3_5 ?_ | refine b2_5 ?_ _)); exact BK102.out) hb); have n1_ := aM_5 (b5_5 (g := gb103) (o := .map om clk) (by (with_reducible repeat (first | refine b1_5 ?_ _ | refine b3_5 ?_ | refine b2_5 ?_ _)); refine aig_Right.farc ?_ NB103_108.out _; (with_reducible repeat (first | refine b1_5 ?_ _ | refine b3_5 ?_ | refine b2_5 ?_ _)); refine aig_Right.farc ?_ NB103_108.out _; (with_reducible repeat (first | refine b1_5 ?_ _ | refine b3_5 ?_ | refine b2_5 ?_ _)); exact BK103.out) hb); have n2_ := aM_5 (b5_5 (g := gb105) (o := .cells #[.int .i64 ((rd_T50 l0_1 x30_2).f0), .int .i64 ((rd_T50 l0_1 x30_2).f1)] 50 (0, 0)) (by (with_reducible repeat (first | refine b1_5 ?_ _ | refine b3_5 ?_ | refine b2_5 ?_ _)); refine c2_5 ?_ NB105_108.out _; (with_reducible repeat (first | refine b1_5 ?_ _ | refine b3_5 ?_ | refine b2_5 ?_ _)); refine c2_5 ?_ NB105_108.out _; (with_reducible repeat (first | refine b1_5 ?_ _ | refine b3_5 ?_ | refine b2_5 ?_ _)); exact BK105.out) hb); have n3_ := aM_5 (b5_5 (g := gb108) (o := .cells #[.int .i64 t106, .int .i64 t107] 53 (0, 0)) (by (with_reducible repeat (first | refine b1_5 ?_ _ | refine b3_5 ?_ | refine b2_5 ?_ _)); refine c1_5 (cs := #[.int .i64 t106, .int .i64 0]) ?_ 1 _ rfl; (with_reducible repeat (first | refine b1_5 ?_ _ | refine b3_5 ?_ | refine b2_5 ?_ _)); refine c1_5 (cs := #[.int .i64 0, .int .i64 0]) ?_ 0 _ rfl; (with_reducible repeat (first | refine b1_5 ?_ _ | refine b3_5 ?_ | refine b2_5 ?_ _)); exact BK108.out) hb); have n4_ := aM_5 (b9_5 (by repeat (first | (with_reducible first | exact HB.out | apply b8_5 | apply b6_5 | apply b7_5 | refine b4_5 ?_ GE102.out | refine b4_5 ?_ GE103.out | refine b4_5 ?_ GE105.out | refine b4_5 ?_ GE108.out) | exact HB.out)) hb); clear BK102 BK103 BK105 BK108 HB; have BK102 := n0_; have BK103 := n1_; have BK105 := n2_; have BK108 := n3_; have HB := n4_; clear n0_ n1_ n2_ n3_ n4_; (try clear hb); (try clear hb2); (try clear hk); (try clear hi); obtain ⟨hcz102_0, hcz102_1, hfz102_0, hfz102_1⟩ := cells2_5 BK108.out; obtain ⟨hcz103_0, hcz103_1, hfz103_0, hfz103_1⟩ := cells2_5 BK105.out; have hnb104 := NB102_103.out; have hnc104 := NB103_102.out; obtain ⟨hcz105_0, hcz105_1, hfz105_0, hfz105_1⟩ := cells2_5 BK102.out; have hlk := aig_Right.miss ⟨⟨om, clk, BK103.out, HKV.out⟩, HKS.out⟩ HFI.out (of_eq_true p104) (of_eq_true q104) HE.out HI.out; obtain ⟨wz, hst, htm, hgr⟩ := aig_Right.fresh ⟨⟨om, clk, BK103.out, HKV.out⟩, HKS.out⟩ HFI.out (of_eq_true p104) (of_eq_true q104) HE.out HI.out (.bool true); have HTM := aM_5 htm; have HGR := aM_5 hgr; clear htm hgr))
              go_roundg k2
              case measure => have := HJ1.out; have := HK2.out; omega
              case rel => exact ⟨(wrap64 (x30_2 + 1)), ((rd_T50 l0_1 x30_2).f0), ((rd_T50 l0_1 x30_2).f1), (by first | rfl | (simp; done) | (simp [*]; done)), H', ⟨by have := HJ1.out; have := HK2.out; omega⟩, ⟨aig_Right.far (by exact BK102.out) HGR.out NB102_103.out⟩, ⟨aig_Right.next HTM.out HFI.out (of_eq_true p104) (of_eq_true q104) HE.out⟩, ⟨aig_Right.belowz HB.out HGR.out GE103.out⟩⟩
        ·rw [if_neg c15] at H
         exact absurd H (by simp)
       ·rw [if_neg c14] at H
        exact absurd H (by simp)
      ·rw [if_neg c13] at H
       have c13b0 : decide (x30_2 < (l0_1.length : Int)) = false := decide_eq_false c13
       clear c13
       obtain rfl := Option.some.inj H
       go_wp2
       go_ret
       exact ⟨by first | rfl | (simp [errW_none, errW_some] <;> rfl) | (simp [*, errW_none, errW_some] <;> rfl), by repeat (first | (with_reducible first | exact HB.out | apply b8_5 | apply b6_5 | apply b7_5 | refine b4_5 ?_ GE102.out | refine b4_5 ?_ GE103.out) | exact HB.out)⟩
end Go.Proofs.Ytlnjefcfbncegaa.Xb
