/- Printed by this session's program xprint.py (over the kit's print): the Go functions named below come to the Lean functions of the same names, whatever the world. -/
import Derived.Test.YtcfipamdinfomaaXb0
import Derived.Test.YtcfipamdinfomaaXbL
namespace Go.Proofs.Ytcfipamdinfomaa.Xb
open Go.RowKit Go.Proofs.YtcfipamdinfomaaW.PrintWords Go.Proofs.YtcfipamdinfomaaW.PrintLast Go.Proofs.YtcfipamdinfomaaW.PrintMore
attribute [local go_sem] max2_int min2_int max_two min_two max_three min_three max_four min_four   -- for this text's walks alone
set_option linter.unusedVariables false
set_option linter.unusedSimpArgs false

/-! ### vec_Do: function 12 -/
open Go.Maps (Keyed) in
/-- Block b is a map, and what stands in it is kvs, in order. -/
structure vec_Do.TM (w : World) (b : Nat) (kvs : List (Value × Value)) : Prop where
 ex : ∃ es clock, w.heap[b]? = some (.map es clock) ∧ es.toList.map (fun e => (e.key, e.val)) = kvs
 keys : ∀ p ∈ kvs, ∃ l, keyOf Try.prog 3 p.1 = some l
theorem vec_Do.keyed : Go.Maps.Keyed Try.prog 3 := Go.Maps.int_keyed Try.underlying3
theorem vec_Do.key {n : Int} (h : (Lit.int .i64 n).wf = true) : keyOf Try.prog 3 (.int .i64 n) = some (.int .i64 n) := Go.Maps.keyOf_int_mk Try.underlying3 h
theorem vec_Do.TM.lt {w : World} {b : Nat} {kvs : List (Value × Value)} (h : vec_Do.TM w b kvs) : b < w.heap.size := by
 obtain ⟨es, clock, hb, _⟩ := h.ex
 exact (Array.getElem?_eq_some_iff.1 hb).1
theorem vec_Do.TM.block {w w' : World} {b : Nat} {kvs : List (Value × Value)} (h : vec_Do.TM w b kvs) (he : w'.heap[b]? = w.heap[b]?) : vec_Do.TM w' b kvs := by
 obtain ⟨es, clock, hb, hm⟩ := h.ex
 exact ⟨⟨es, clock, he.trans hb, hm⟩, h.keys⟩
theorem vec_Do.TM.hit {w : World} {b : Nat} {kvs : List (Value × Value)} (h : vec_Do.TM w b kvs) {n : Int} {v : Value} (hn : (Lit.int .i64 n).wf = true) (hv : ∀ p ∈ kvs, p.1 = .int .i64 n → p.2 = v) (hin : ∃ p ∈ kvs, p.1 = .int .i64 n) :
  (Instr.lookup 46 (.map (some b)) (.int .i64 n) true).run Try.prog w = .ok (.tuple #[v, .bool true]) w := by
 have hx := vec_Do.key hn
 obtain ⟨es, clock, hb, rfl⟩ := h.ex
 have hk : ∀ e ∈ es.toList, ∃ l, keyOf Try.prog 3 e.key = some l := fun e he => h.keys (e.key, e.val) (List.mem_map.2 ⟨e, he, rfl⟩)
 rcases vec_Do.keyed.find w hx es.toList hk with ⟨_, hne⟩ | ⟨j, e0, hrun, hj, he⟩
 ·obtain ⟨p, hp, hpx⟩ := hin
  obtain ⟨e, he, rfl⟩ := List.mem_map.1 hp
  exact absurd hpx (hne e he)
 ·have hv0 : e0.val = v := hv (e0.key, e0.val) (List.mem_map.2 ⟨e0, List.mem_of_getElem? hj, rfl⟩) he
  subst hv0
  simp [Instr.lookup, run_underlying Try.underlying46, Result.andThen, MapKept.run_getObj_map hb, vec_Do.keyed.check w _ hx, hrun]
theorem vec_Do.TM.miss {w : World} {b : Nat} {kvs : List (Value × Value)} (h : vec_Do.TM w b kvs) {n : Int} (hn : (Lit.int .i64 n).wf = true) (hne : ∀ p ∈ kvs, p.1 ≠ .int .i64 n) :
  (Instr.lookup 46 (.map (some b)) (.int .i64 n) true).run Try.prog w = .ok (.tuple #[.nilFunc, .bool false]) w := by
 have hx := vec_Do.key hn
 obtain ⟨es, clock, hb, rfl⟩ := h.ex
 have hz : (zeroValue 44).run Try.prog w = .ok .nilFunc w := by kernel_rfl
 have hk : ∀ e ∈ es.toList, ∃ l, keyOf Try.prog 3 e.key = some l := fun e he => h.keys (e.key, e.val) (List.mem_map.2 ⟨e, he, rfl⟩)
 rcases vec_Do.keyed.find w hx es.toList hk with ⟨hrun, _⟩ | ⟨j, e0, _, hj, he⟩
 ·simp [Instr.lookup, run_underlying Try.underlying46, Result.andThen, MapKept.run_getObj_map hb, vec_Do.keyed.check w _ hx, hrun, hz]
 ·exact absurd he (hne (e0.key, e0.val) (List.mem_map.2 ⟨e0, List.mem_of_getElem? hj, rfl⟩))
theorem vec_Do.TM.store {w : World} {b : Nat} {kvs : List (Value × Value)} (h : vec_Do.TM w b kvs) {n : Int} (hn : (Lit.int .i64 n).wf = true) (hne : ∀ p ∈ kvs, p.1 ≠ .int .i64 n) (v : Value) :
  ∃ w', (Instr.mapUpdate 46 (.map (some b)) (.int .i64 n) v).run Try.prog w = .ok () w' ∧ vec_Do.TM w' b (kvs ++ [(.int .i64 n, v)]) ∧ w.grownBy w' (some b) := by
 have hx := vec_Do.key hn
 obtain ⟨es, clock, hb, rfl⟩ := h.ex
 have hk : ∀ e ∈ es.toList, ∃ l, keyOf Try.prog 3 e.key = some l := fun e he => h.keys (e.key, e.val) (List.mem_map.2 ⟨e, he, rfl⟩)
 rcases vec_Do.keyed.find w hx es.toList hk with ⟨hrun, _⟩ | ⟨j, e0, _, hj, he⟩
 ·refine ⟨Go.ChangeMaps.setBlock w b (.map (es.push { key := .int .i64 n, val := v, born := clock }) (clock + 1)), ?_, ⟨⟨_, _, ChangeMaps.heap_setBlock_same hb _, by simp⟩, ?_⟩, ⟨rfl, rfl, rfl, by simp [Go.ChangeMaps.setBlock], fun i _ hi => ChangeMaps.heap_setBlock_other hb _ (fun e => hi (by rw [e]))⟩⟩
  ·simp [Instr.mapUpdate, run_underlying Try.underlying46, Result.andThen, MapKept.run_getObj_map hb, vec_Do.keyed.check w _ hx, hrun, MapKept.run_setObj_map _ hb, Go.ChangeMaps.setBlock]
  ·intro p hp
   rcases List.mem_append.1 hp with hp | hp
   ·exact h.keys p hp
   ·simp at hp
    subst hp
    exact ⟨_, hx⟩
 ·exact absurd he (hne (e0.key, e0.val) (List.mem_map.2 ⟨e0, List.mem_of_getElem? hj, rfl⟩))
/-- How far the map of all works is made: its block, its entries, and the function values that its closures hold. -/
structure vec_Do.St (w0 : World) (g : Nat) (kvs : List (Value × Value)) (fl : List (Nat × FuncId × TypeId)) (w : World) : Prop where
 below : Below w0.heap.size w0 w
 ge : w0.heap.size ≤ g
 tm : vec_Do.TM w g kvs
 fns : ∀ p ∈ fl, p.1 ≠ g ∧ w.heap[p.1]? = some (.cells #[.func (.func p.2.1) #[] #[]] p.2.2 (0, 0))
theorem vec_Do.St.call {w0 w w' : World} {g b : Nat} {kvs : List (Value × Value)} {fl : List (Nat × FuncId × TypeId)} {G : FuncId} {t : TypeId} (h : vec_Do.St w0 g kvs fl w) (hb : Below w.heap.size w w') (hn : w.heap.size ≤ b) (hc : w'.heap[b]? = some (.cells #[.func (.func G) #[] #[]] t (0, 0))) : vec_Do.St w0 g kvs (fl ++ [(b, G, t)]) w' := by
 refine ⟨below_step h.below hb, h.ge, h.tm.block (hb.block _ h.tm.lt), fun p hp => ?_⟩
 rcases List.mem_append.1 hp with hp | hp
 ·obtain ⟨h1, h2⟩ := h.fns p hp
  exact ⟨h1, (hb.block _ (Array.getElem?_eq_some_iff.1 h2).1).trans h2⟩
 ·simp at hp
  subst hp
  exact ⟨fun e => by have := h.tm.lt; simp at e; omega, hc⟩
theorem vec_Do.St.put {w0 w : World} {g : Nat} {kvs : List (Value × Value)} {fl : List (Nat × FuncId × TypeId)} (h : vec_Do.St w0 g kvs fl w) {n : Int} (hn : (Lit.int .i64 n).wf = true) (hne : ∀ p ∈ kvs, p.1 ≠ .int .i64 n) (v : Value) :
  ∃ w', (Instr.mapUpdate 46 (.map (some g)) (.int .i64 n) v).run Try.prog w = .ok () w' ∧ vec_Do.St w0 g (kvs ++ [(.int .i64 n, v)]) fl w' := by
 obtain ⟨w', hrun, htm, hgr⟩ := h.tm.store hn hne v
 refine ⟨w', hrun, pw_below_grown h.below (some g) h.below.size hgr (fun k hk => by cases hk; exact h.ge), h.ge, htm, fun p hp => ?_⟩
 obtain ⟨h1, h2⟩ := h.fns p hp
 exact ⟨h1, (hgr.block _ (Array.getElem?_eq_some_iff.1 h2).1 (fun e => h1 (Option.some.inj e))).trans h2⟩
theorem vec_Do.St.made (W : World) : vec_Do.St W W.heap.size [] [] (W.alloc (.map #[] 0)) :=
 ⟨below_alloc (Below.refl _ _) _, Nat.le_refl _, ⟨⟨#[], 0, (MapKept.heap_alloc W _).1, rfl⟩, fun p hp => by cases hp⟩, fun p hp => by cases hp⟩
section
variable {ops : Array Oper} {o : Oper} {a : Act} {Q : Exit → Act → World → Prop} {rest : List Oper}
theorem vec_Do.map_event {W : World} (hgd : o.guard = none) {N : Tmp} (_hd : o.dst = some N) (hrun : (execOp a.eval o).run Try.prog W = .ok (.value (.map (some W.heap.size))) (W.alloc (.map #[] 0)))
  (h : ∀ g, ∀ w1, vec_Do.St W g [] [] w1 → wpList Try.prog ops Q rest (a.put o.dst (.map (some g))) w1) : wpList Try.prog ops Q (o :: rest) a W :=
 Kd.event_run hgd hrun (h _ _ (vec_Do.St.made W))
theorem vec_Do.ins_event {w0 W : World} {g : Nat} {kvs : List (Value × Value)} {fl : List (Nat × FuncId × TypeId)} (HS : vec_Do.St w0 g kvs fl W) (hgd : o.guard = none) (m x v : Operand) (n : Int) (val : Value) (hop : o.op = Op.insert 46 m x v) (hm : a.eval m = .map (some g)) (hx : a.eval x = .int .i64 n) (hv : a.eval v = val)
  (hn : (Lit.int .i64 n).wf = true) (hne : ∀ p ∈ kvs, p.1 ≠ .int .i64 n) (h : ∀ w', vec_Do.St w0 g (kvs ++ [(.int .i64 n, val)]) fl w' → wpList Try.prog ops Q rest (a.put o.dst undef) w') : wpList Try.prog ops Q (o :: rest) a W := by
 refine wpList_plain hgd fun K' hK' => ?_
 obtain ⟨w', hrun, r⟩ := HS.put hn hne val
 unfold Oper.wp
 simp [execOp, hop, hm, hx, hv, hrun, Result.andThen]
 exact hK' _ _ (h w' r)
theorem vec_Do.hit_event {w0 w1 W : World} {g : Nat} {kvs : List (Value × Value)} {fl : List (Nat × FuncId × TypeId)} (HS : vec_Do.St w0 g kvs fl w1) (hW : W.heap = w1.heap) (hgd : o.guard = none) (m x : Operand) (n : Int) (v : Value) (hop : o.op = Op.lookup 46 m x true) (hm : a.eval m = .map (some g)) (hx : a.eval x = .int .i64 n)
  (hn : (Lit.int .i64 n).wf = true) (hv : ∀ p ∈ kvs, p.1 = .int .i64 n → p.2 = v) (hin : ∃ p ∈ kvs, p.1 = .int .i64 n) (h : wpList Try.prog ops Q rest (a.put o.dst (.tuple #[v, .bool true])) W) : wpList Try.prog ops Q (o :: rest) a W := by
 refine wpList_plain hgd fun K' hK' => ?_
 have hl := (HS.tm.block (w' := W) (by rw [hW])).hit hn hv hin
 unfold Oper.wp
 simp [execOp, hop, hm, hx, hl, Result.andThen]
 exact hK' _ _ h
theorem vec_Do.miss_event {w0 w1 W : World} {g : Nat} {kvs : List (Value × Value)} {fl : List (Nat × FuncId × TypeId)} (HS : vec_Do.St w0 g kvs fl w1) (hW : W.heap = w1.heap) (hgd : o.guard = none) (m x : Operand) (n : Int) (hop : o.op = Op.lookup 46 m x true) (hm : a.eval m = .map (some g)) (hx : a.eval x = .int .i64 n)
  (hn : (Lit.int .i64 n).wf = true) (hne : ∀ p ∈ kvs, p.1 ≠ .int .i64 n) (h : wpList Try.prog ops Q rest (a.put o.dst (.tuple #[.nilFunc, .bool false])) W) : wpList Try.prog ops Q (o :: rest) a W := by
 refine wpList_plain hgd fun K' hK' => ?_
 have hl := (HS.tm.block (w' := W) (by rw [hW])).miss hn hne
 unfold Oper.wp
 simp [execOp, hop, hm, hx, hl, Result.andThen]
 exact hK' _ _ h
end
set_option maxHeartbeats 8000000 in
set_option maxRecDepth 100000 in
theorem vec_Do.by_2 (a0_0 a0_1 a0_2 a0_3 a0_4 a0_5 a0_6 a1 a2 a3 a4 : Int) (t : Int) (m : Int) (bk : Nat) (w : World) (hk : w.heap[bk]? = some (.cells #[.func (.func 27) #[] #[]] 50 (0, 0))) (h1 : vec_works_2.f a1 a2 = some t) (h2 : vec_Mask.f a0_1 = some m) :
  Calls Try.prog 44 #[.agg #[.int .i64 a0_0, .int .i64 a0_1, .int .i64 a0_2, .int .i64 a0_3, .int .i64 a0_4, .int .i64 a0_5, .int .i64 a0_6], .int .i64 a1, .int .i64 a2, .int .i64 a3, .int .i64 a4, .pointer (some ⟨bk, 0, none⟩)] w fun e w' => e = .returned (.int .i64 (Go.bits .and .i64 t m)) ∧ Below w.heap.size w w' := by
 have hu_ := Try.underlying28
 have HB := Aside0.mk (Below.refl w.heap.size w)
 have HK := Aside0.mk hk
 have hl := blk_lt hk
 clear hk
 have A7 := Aside0.mk h1
 have A8 := Aside0.mk h2
 clear h1 h2
 go_enter Try.func44, Try.ntmps44
 go_wp2_with (((with_reducible refine gate_dst (N := 6) rfl ?_); refine box_event ?hg (N := 6) ?hd (cs := #[.int .i64 a0_0, .int .i64 a0_1, .int .i64 a0_2, .int .i64 a0_3, .int .i64 a0_4, .int .i64 a0_5, .int .i64 a0_6]) (t := 28) ?hr ?_; (case hd => rfl); (case hg => rfl); (case hr => first | (go_simp; done) | (go_simp; rfl)); intro gb hg w9 hbox hb; have n0_ := Aside0.mk (below_step (by repeat (first | (with_reducible first | exact HB.out | apply below_alloc | apply pw_below_drewN | apply below_drew1) | exact HB.out)) hb); have n1_ := Aside0.mk (hbox); have n2_ := Aside0.mk ((by rw [hg]; exact (below_size (by repeat (first | (with_reducible first | exact HB.out | apply below_alloc | apply pw_below_drewN | apply below_drew1) | exact HB.out)))) : w.heap.size ≤ gb); have kb_ := Aside0.mk ((hb.block bk (Nat.lt_of_lt_of_le hl (below_size (by repeat (first | (with_reducible first | exact HB.out | apply below_alloc | apply pw_below_drewN | apply below_drew1) | exact HB.out))))).trans HK.out); have hkz : w9.cell? ⟨bk, 0, none⟩ = some (.func (.func 27) #[] #[]) := (blk_cell kb_.out 0).trans rfl; have hkf := blk_frozen kb_.out 0; clear HB; have HB := n0_; have BK := n1_; have GE := n2_; clear n0_ n1_ n2_; clear hb hbox hg; have hcz_0 : w9.cell? ⟨gb, 0, none⟩ = some (.int .i64 a0_0) := (blk_cell BK.out 0).trans rfl; have hfz_0 := blk_frozen BK.out 0; have hcz_1 : w9.cell? ⟨gb, 1, none⟩ = some (.int .i64 a0_1) := (blk_cell BK.out 1).trans rfl; have hfz_1 := blk_frozen BK.out 1; have hcz_2 : w9.cell? ⟨gb, 2, none⟩ = some (.int .i64 a0_2) := (blk_cell BK.out 2).trans rfl; have hfz_2 := blk_frozen BK.out 2; have hcz_3 : w9.cell? ⟨gb, 3, none⟩ = some (.int .i64 a0_3) := (blk_cell BK.out 3).trans rfl; have hfz_3 := blk_frozen BK.out 3; have hcz_4 : w9.cell? ⟨gb, 4, none⟩ = some (.int .i64 a0_4) := (blk_cell BK.out 4).trans rfl; have hfz_4 := blk_frozen BK.out 4; have hcz_5 : w9.cell? ⟨gb, 5, none⟩ = some (.int .i64 a0_5) := (blk_cell BK.out 5).trans rfl; have hfz_5 := blk_frozen BK.out 5; have hcz_6 : w9.cell? ⟨gb, 6, none⟩ = some (.int .i64 a0_6) := (blk_cell BK.out 6).trans rfl; have hfz_6 := blk_frozen BK.out 6))
 go_quiet (first | (go_at_call 27; (with_reducible refine (vec_works_2.calls a1 a2 t _ A7.out).mono ?_); rintro e w' ⟨rfl, ⟨nd, rfl⟩⟩; (try first | exact ⟨rfl, _, World.drewN_drewN _ _ _⟩ | exact ⟨rfl, _, Eq.trans (World.drewN_drewN _ _ _) (congrArg (World.drewN _) (Nat.add_assoc _ _ _))⟩)) | (go_at_call 14; (with_reducible refine (vec_Mask.calls a0_1 m _ A8.out).mono ?_); rintro e w' ⟨rfl, ⟨nd, rfl⟩⟩; (try first | exact ⟨rfl, _, World.drewN_drewN _ _ _⟩ | exact ⟨rfl, _, Eq.trans (World.drewN_drewN _ _ _) (congrArg (World.drewN _) (Nat.add_assoc _ _ _))⟩)))
 go_wp2
 go_ret
 exact ⟨by first | rfl | (simp [errW_none, errW_some] <;> rfl) | (simp [*, errW_none, errW_some] <;> rfl), by repeat (first | (with_reducible first | exact HB.out | apply below_alloc | apply pw_below_drewN | apply below_drew1) | exact HB.out)⟩
set_option maxHeartbeats 8000000 in
set_option maxRecDepth 100000 in
theorem vec_Do.by_5 (a0_0 a0_1 a0_2 a0_3 a0_4 a0_5 a0_6 a1 a2 a3 a4 : Int) (t : Int) (m : Int) (bk : Nat) (w : World) (hk : w.heap[bk]? = some (.cells #[.func (.func 31) #[] #[]] 50 (0, 0))) (h1 : vec_works_5.f a1 a2 = some t) (h2 : vec_Mask.f a0_1 = some m) :
  Calls Try.prog 44 #[.agg #[.int .i64 a0_0, .int .i64 a0_1, .int .i64 a0_2, .int .i64 a0_3, .int .i64 a0_4, .int .i64 a0_5, .int .i64 a0_6], .int .i64 a1, .int .i64 a2, .int .i64 a3, .int .i64 a4, .pointer (some ⟨bk, 0, none⟩)] w fun e w' => e = .returned (.int .i64 (Go.bits .and .i64 t m)) ∧ Below w.heap.size w w' := by
 have hu_ := Try.underlying28
 have HB := Aside0.mk (Below.refl w.heap.size w)
 have HK := Aside0.mk hk
 have hl := blk_lt hk
 clear hk
 have A7 := Aside0.mk h1
 have A8 := Aside0.mk h2
 clear h1 h2
 go_enter Try.func44, Try.ntmps44
 go_wp2_with (((with_reducible refine gate_dst (N := 6) rfl ?_); refine box_event ?hg (N := 6) ?hd (cs := #[.int .i64 a0_0, .int .i64 a0_1, .int .i64 a0_2, .int .i64 a0_3, .int .i64 a0_4, .int .i64 a0_5, .int .i64 a0_6]) (t := 28) ?hr ?_; (case hd => rfl); (case hg => rfl); (case hr => first | (go_simp; done) | (go_simp; rfl)); intro gb hg w9 hbox hb; have n0_ := Aside0.mk (below_step (by repeat (first | (with_reducible first | exact HB.out | apply below_alloc | apply pw_below_drewN | apply below_drew1) | exact HB.out)) hb); have n1_ := Aside0.mk (hbox); have n2_ := Aside0.mk ((by rw [hg]; exact (below_size (by repeat (first | (with_reducible first | exact HB.out | apply below_alloc | apply pw_below_drewN | apply below_drew1) | exact HB.out)))) : w.heap.size ≤ gb); have kb_ := Aside0.mk ((hb.block bk (Nat.lt_of_lt_of_le hl (below_size (by repeat (first | (with_reducible first | exact HB.out | apply below_alloc | apply pw_below_drewN | apply below_drew1) | exact HB.out))))).trans HK.out); have hkz : w9.cell? ⟨bk, 0, none⟩ = some (.func (.func 31) #[] #[]) := (blk_cell kb_.out 0).trans rfl; have hkf := blk_frozen kb_.out 0; clear HB; have HB := n0_; have BK := n1_; have GE := n2_; clear n0_ n1_ n2_; clear hb hbox hg; have hcz_0 : w9.cell? ⟨gb, 0, none⟩ = some (.int .i64 a0_0) := (blk_cell BK.out 0).trans rfl; have hfz_0 := blk_frozen BK.out 0; have hcz_1 : w9.cell? ⟨gb, 1, none⟩ = some (.int .i64 a0_1) := (blk_cell BK.out 1).trans rfl; have hfz_1 := blk_frozen BK.out 1; have hcz_2 : w9.cell? ⟨gb, 2, none⟩ = some (.int .i64 a0_2) := (blk_cell BK.out 2).trans rfl; have hfz_2 := blk_frozen BK.out 2; have hcz_3 : w9.cell? ⟨gb, 3, none⟩ = some (.int .i64 a0_3) := (blk_cell BK.out 3).trans rfl; have hfz_3 := blk_frozen BK.out 3; have hcz_4 : w9.cell? ⟨gb, 4, none⟩ = some (.int .i64 a0_4) := (blk_cell BK.out 4).trans rfl; have hfz_4 := blk_frozen BK.out 4; have hcz_5 : w9.cell? ⟨gb, 5, none⟩ = some (.int .i64 a0_5) := (blk_cell BK.out 5).trans rfl; have hfz_5 := blk_frozen BK.out 5; have hcz_6 : w9.cell? ⟨gb, 6, none⟩ = some (.int .i64 a0_6) := (blk_cell BK.out 6).trans rfl; have hfz_6 := blk_frozen BK.out 6))
 go_quiet (first | (go_at_call 31; (with_reducible refine (vec_works_5.calls a1 a2 t _ A7.out).mono ?_); rintro e w' ⟨rfl, ⟨nd, rfl⟩⟩; (try first | exact ⟨rfl, _, World.drewN_drewN _ _ _⟩ | exact ⟨rfl, _, Eq.trans (World.drewN_drewN _ _ _) (congrArg (World.drewN _) (Nat.add_assoc _ _ _))⟩)) | (go_at_call 14; (with_reducible refine (vec_Mask.calls a0_1 m _ A8.out).mono ?_); rintro e w' ⟨rfl, ⟨nd, rfl⟩⟩; (try first | exact ⟨rfl, _, World.drewN_drewN _ _ _⟩ | exact ⟨rfl, _, Eq.trans (World.drewN_drewN _ _ _) (congrArg (World.drewN _) (Nat.add_assoc _ _ _))⟩)))
 go_wp2
 go_ret
 exact ⟨by first | rfl | (simp [errW_none, errW_some] <;> rfl) | (simp [*, errW_none, errW_some] <;> rfl), by repeat (first | (with_reducible first | exact HB.out | apply below_alloc | apply pw_below_drewN | apply below_drew1) | exact HB.out)⟩
set_option maxHeartbeats 8000000 in
set_option maxRecDepth 100000 in
theorem vec_Do.by_6 (a0_0 a0_1 a0_2 a0_3 a0_4 a0_5 a0_6 a1 a2 a3 a4 : Int) (t : Int) (m : Int) (bk : Nat) (w : World) (hk : w.heap[bk]? = some (.cells #[.func (.func 32) #[] #[]] 50 (0, 0))) (h1 : vec_works_6.f a1 a2 = some t) (h2 : vec_Mask.f a0_1 = some m) :
  Calls Try.prog 44 #[.agg #[.int .i64 a0_0, .int .i64 a0_1, .int .i64 a0_2, .int .i64 a0_3, .int .i64 a0_4, .int .i64 a0_5, .int .i64 a0_6], .int .i64 a1, .int .i64 a2, .int .i64 a3, .int .i64 a4, .pointer (some ⟨bk, 0, none⟩)] w fun e w' => e = .returned (.int .i64 (Go.bits .and .i64 t m)) ∧ Below w.heap.size w w' := by
 have hu_ := Try.underlying28
 have HB := Aside0.mk (Below.refl w.heap.size w)
 have HK := Aside0.mk hk
 have hl := blk_lt hk
 clear hk
 have A7 := Aside0.mk h1
 have A8 := Aside0.mk h2
 clear h1 h2
 go_enter Try.func44, Try.ntmps44
 go_wp2_with (((with_reducible refine gate_dst (N := 6) rfl ?_); refine box_event ?hg (N := 6) ?hd (cs := #[.int .i64 a0_0, .int .i64 a0_1, .int .i64 a0_2, .int .i64 a0_3, .int .i64 a0_4, .int .i64 a0_5, .int .i64 a0_6]) (t := 28) ?hr ?_; (case hd => rfl); (case hg => rfl); (case hr => first | (go_simp; done) | (go_simp; rfl)); intro gb hg w9 hbox hb; have n0_ := Aside0.mk (below_step (by repeat (first | (with_reducible first | exact HB.out | apply below_alloc | apply pw_below_drewN | apply below_drew1) | exact HB.out)) hb); have n1_ := Aside0.mk (hbox); have n2_ := Aside0.mk ((by rw [hg]; exact (below_size (by repeat (first | (with_reducible first | exact HB.out | apply below_alloc | apply pw_below_drewN | apply below_drew1) | exact HB.out)))) : w.heap.size ≤ gb); have kb_ := Aside0.mk ((hb.block bk (Nat.lt_of_lt_of_le hl (below_size (by repeat (first | (with_reducible first | exact HB.out | apply below_alloc | apply pw_below_drewN | apply below_drew1) | exact HB.out))))).trans HK.out); have hkz : w9.cell? ⟨bk, 0, none⟩ = some (.func (.func 32) #[] #[]) := (blk_cell kb_.out 0).trans rfl; have hkf := blk_frozen kb_.out 0; clear HB; have HB := n0_; have BK := n1_; have GE := n2_; clear n0_ n1_ n2_; clear hb hbox hg; have hcz_0 : w9.cell? ⟨gb, 0, none⟩ = some (.int .i64 a0_0) := (blk_cell BK.out 0).trans rfl; have hfz_0 := blk_frozen BK.out 0; have hcz_1 : w9.cell? ⟨gb, 1, none⟩ = some (.int .i64 a0_1) := (blk_cell BK.out 1).trans rfl; have hfz_1 := blk_frozen BK.out 1; have hcz_2 : w9.cell? ⟨gb, 2, none⟩ = some (.int .i64 a0_2) := (blk_cell BK.out 2).trans rfl; have hfz_2 := blk_frozen BK.out 2; have hcz_3 : w9.cell? ⟨gb, 3, none⟩ = some (.int .i64 a0_3) := (blk_cell BK.out 3).trans rfl; have hfz_3 := blk_frozen BK.out 3; have hcz_4 : w9.cell? ⟨gb, 4, none⟩ = some (.int .i64 a0_4) := (blk_cell BK.out 4).trans rfl; have hfz_4 := blk_frozen BK.out 4; have hcz_5 : w9.cell? ⟨gb, 5, none⟩ = some (.int .i64 a0_5) := (blk_cell BK.out 5).trans rfl; have hfz_5 := blk_frozen BK.out 5; have hcz_6 : w9.cell? ⟨gb, 6, none⟩ = some (.int .i64 a0_6) := (blk_cell BK.out 6).trans rfl; have hfz_6 := blk_frozen BK.out 6))
 go_quiet (first | (go_at_call 32; (with_reducible refine (vec_works_6.calls a1 a2 t _ A7.out).mono ?_); rintro e w' ⟨rfl, ⟨nd, rfl⟩⟩; (try first | exact ⟨rfl, _, World.drewN_drewN _ _ _⟩ | exact ⟨rfl, _, Eq.trans (World.drewN_drewN _ _ _) (congrArg (World.drewN _) (Nat.add_assoc _ _ _))⟩)) | (go_at_call 14; (with_reducible refine (vec_Mask.calls a0_1 m _ A8.out).mono ?_); rintro e w' ⟨rfl, ⟨nd, rfl⟩⟩; (try first | exact ⟨rfl, _, World.drewN_drewN _ _ _⟩ | exact ⟨rfl, _, Eq.trans (World.drewN_drewN _ _ _) (congrArg (World.drewN _) (Nat.add_assoc _ _ _))⟩)))
 go_wp2
 go_ret
 exact ⟨by first | rfl | (simp [errW_none, errW_some] <;> rfl) | (simp [*, errW_none, errW_some] <;> rfl), by repeat (first | (with_reducible first | exact HB.out | apply below_alloc | apply pw_below_drewN | apply below_drew1) | exact HB.out)⟩
set_option maxHeartbeats 8000000 in
set_option maxRecDepth 100000 in
theorem vec_Do.by_7 (a0_0 a0_1 a0_2 a0_3 a0_4 a0_5 a0_6 a1 a2 a3 a4 : Int) (t : Int) (m : Int) (bk : Nat) (w : World) (hk : w.heap[bk]? = some (.cells #[.func (.func 33) #[] #[]] 50 (0, 0))) (h1 : vec_works_7.f a1 a2 = some t) (h2 : vec_Mask.f a0_1 = some m) :
  Calls Try.prog 44 #[.agg #[.int .i64 a0_0, .int .i64 a0_1, .int .i64 a0_2, .int .i64 a0_3, .int .i64 a0_4, .int .i64 a0_5, .int .i64 a0_6], .int .i64 a1, .int .i64 a2, .int .i64 a3, .int .i64 a4, .pointer (some ⟨bk, 0, none⟩)] w fun e w' => e = .returned (.int .i64 (Go.bits .and .i64 t m)) ∧ Below w.heap.size w w' := by
 have hu_ := Try.underlying28
 have HB := Aside0.mk (Below.refl w.heap.size w)
 have HK := Aside0.mk hk
 have hl := blk_lt hk
 clear hk
 have A7 := Aside0.mk h1
 have A8 := Aside0.mk h2
 clear h1 h2
 go_enter Try.func44, Try.ntmps44
 go_wp2_with (((with_reducible refine gate_dst (N := 6) rfl ?_); refine box_event ?hg (N := 6) ?hd (cs := #[.int .i64 a0_0, .int .i64 a0_1, .int .i64 a0_2, .int .i64 a0_3, .int .i64 a0_4, .int .i64 a0_5, .int .i64 a0_6]) (t := 28) ?hr ?_; (case hd => rfl); (case hg => rfl); (case hr => first | (go_simp; done) | (go_simp; rfl)); intro gb hg w9 hbox hb; have n0_ := Aside0.mk (below_step (by repeat (first | (with_reducible first | exact HB.out | apply below_alloc | apply pw_below_drewN | apply below_drew1) | exact HB.out)) hb); have n1_ := Aside0.mk (hbox); have n2_ := Aside0.mk ((by rw [hg]; exact (below_size (by repeat (first | (with_reducible first | exact HB.out | apply below_alloc | apply pw_below_drewN | apply below_drew1) | exact HB.out)))) : w.heap.size ≤ gb); have kb_ := Aside0.mk ((hb.block bk (Nat.lt_of_lt_of_le hl (below_size (by repeat (first | (with_reducible first | exact HB.out | apply below_alloc | apply pw_below_drewN | apply below_drew1) | exact HB.out))))).trans HK.out); have hkz : w9.cell? ⟨bk, 0, none⟩ = some (.func (.func 33) #[] #[]) := (blk_cell kb_.out 0).trans rfl; have hkf := blk_frozen kb_.out 0; clear HB; have HB := n0_; have BK := n1_; have GE := n2_; clear n0_ n1_ n2_; clear hb hbox hg; have hcz_0 : w9.cell? ⟨gb, 0, none⟩ = some (.int .i64 a0_0) := (blk_cell BK.out 0).trans rfl; have hfz_0 := blk_frozen BK.out 0; have hcz_1 : w9.cell? ⟨gb, 1, none⟩ = some (.int .i64 a0_1) := (blk_cell BK.out 1).trans rfl; have hfz_1 := blk_frozen BK.out 1; have hcz_2 : w9.cell? ⟨gb, 2, none⟩ = some (.int .i64 a0_2) := (blk_cell BK.out 2).trans rfl; have hfz_2 := blk_frozen BK.out 2; have hcz_3 : w9.cell? ⟨gb, 3, none⟩ = some (.int .i64 a0_3) := (blk_cell BK.out 3).trans rfl; have hfz_3 := blk_frozen BK.out 3; have hcz_4 : w9.cell? ⟨gb, 4, none⟩ = some (.int .i64 a0_4) := (blk_cell BK.out 4).trans rfl; have hfz_4 := blk_frozen BK.out 4; have hcz_5 : w9.cell? ⟨gb, 5, none⟩ = some (.int .i64 a0_5) := (blk_cell BK.out 5).trans rfl; have hfz_5 := blk_frozen BK.out 5; have hcz_6 : w9.cell? ⟨gb, 6, none⟩ = some (.int .i64 a0_6) := (blk_cell BK.out 6).trans rfl; have hfz_6 := blk_frozen BK.out 6))
 go_quiet (first | (go_at_call 33; (with_reducible refine (vec_works_7.calls a1 a2 t _ A7.out).mono ?_); rintro e w' ⟨rfl, ⟨nd, rfl⟩⟩; (try first | exact ⟨rfl, _, World.drewN_drewN _ _ _⟩ | exact ⟨rfl, _, Eq.trans (World.drewN_drewN _ _ _) (congrArg (World.drewN _) (Nat.add_assoc _ _ _))⟩)) | (go_at_call 14; (with_reducible refine (vec_Mask.calls a0_1 m _ A8.out).mono ?_); rintro e w' ⟨rfl, ⟨nd, rfl⟩⟩; (try first | exact ⟨rfl, _, World.drewN_drewN _ _ _⟩ | exact ⟨rfl, _, Eq.trans (World.drewN_drewN _ _ _) (congrArg (World.drewN _) (Nat.add_assoc _ _ _))⟩)))
 go_wp2
 go_ret
 exact ⟨by first | rfl | (simp [errW_none, errW_some] <;> rfl) | (simp [*, errW_none, errW_some] <;> rfl), by repeat (first | (with_reducible first | exact HB.out | apply below_alloc | apply pw_below_drewN | apply below_drew1) | exact HB.out)⟩
set_option maxHeartbeats 8000000 in
set_option maxRecDepth 100000 in
theorem vec_Do.by_8 (a0_0 a0_1 a0_2 a0_3 a0_4 a0_5 a0_6 a1 a2 a3 a4 : Int) (t : Int) (m : Int) (bk : Nat) (w : World) (hk : w.heap[bk]? = some (.cells #[.func (.func 34) #[] #[]] 50 (0, 0))) (h1 : vec_works_8.f a1 a2 = some t) (h2 : vec_Mask.f a0_1 = some m) :
  Calls Try.prog 44 #[.agg #[.int .i64 a0_0, .int .i64 a0_1, .int .i64 a0_2, .int .i64 a0_3, .int .i64 a0_4, .int .i64 a0_5, .int .i64 a0_6], .int .i64 a1, .int .i64 a2, .int .i64 a3, .int .i64 a4, .pointer (some ⟨bk, 0, none⟩)] w fun e w' => e = .returned (.int .i64 (Go.bits .and .i64 t m)) ∧ Below w.heap.size w w' := by
 have hu_ := Try.underlying28
 have HB := Aside0.mk (Below.refl w.heap.size w)
 have HK := Aside0.mk hk
 have hl := blk_lt hk
 clear hk
 have A7 := Aside0.mk h1
 have A8 := Aside0.mk h2
 clear h1 h2
 go_enter Try.func44, Try.ntmps44
 go_wp2_with (((with_reducible refine gate_dst (N := 6) rfl ?_); refine box_event ?hg (N := 6) ?hd (cs := #[.int .i64 a0_0, .int .i64 a0_1, .int .i64 a0_2, .int .i64 a0_3, .int .i64 a0_4, .int .i64 a0_5, .int .i64 a0_6]) (t := 28) ?hr ?_; (case hd => rfl); (case hg => rfl); (case hr => first | (go_simp; done) | (go_simp; rfl)); intro gb hg w9 hbox hb; have n0_ := Aside0.mk (below_step (by repeat (first | (with_reducible first | exact HB.out | apply below_alloc | apply pw_below_drewN | apply below_drew1) | exact HB.out)) hb); have n1_ := Aside0.mk (hbox); have n2_ := Aside0.mk ((by rw [hg]; exact (below_size (by repeat (first | (with_reducible first | exact HB.out | apply below_alloc | apply pw_below_drewN | apply below_drew1) | exact HB.out)))) : w.heap.size ≤ gb); have kb_ := Aside0.mk ((hb.block bk (Nat.lt_of_lt_of_le hl (below_size (by repeat (first | (with_reducible first | exact HB.out | apply below_alloc | apply pw_below_drewN | apply below_drew1) | exact HB.out))))).trans HK.out); have hkz : w9.cell? ⟨bk, 0, none⟩ = some (.func (.func 34) #[] #[]) := (blk_cell kb_.out 0).trans rfl; have hkf := blk_frozen kb_.out 0; clear HB; have HB := n0_; have BK := n1_; have GE := n2_; clear n0_ n1_ n2_; clear hb hbox hg; have hcz_0 : w9.cell? ⟨gb, 0, none⟩ = some (.int .i64 a0_0) := (blk_cell BK.out 0).trans rfl; have hfz_0 := blk_frozen BK.out 0; have hcz_1 : w9.cell? ⟨gb, 1, none⟩ = some (.int .i64 a0_1) := (blk_cell BK.out 1).trans rfl; have hfz_1 := blk_frozen BK.out 1; have hcz_2 : w9.cell? ⟨gb, 2, none⟩ = some (.int .i64 a0_2) := (blk_cell BK.out 2).trans rfl; have hfz_2 := blk_frozen BK.out 2; have hcz_3 : w9.cell? ⟨gb, 3, none⟩ = some (.int .i64 a0_3) := (blk_cell BK.out 3).trans rfl; have hfz_3 := blk_frozen BK.out 3; have hcz_4 : w9.cell? ⟨gb, 4, none⟩ = some (.int .i64 a0_4) := (blk_cell BK.out 4).trans rfl; have hfz_4 := blk_frozen BK.out 4; have hcz_5 : w9.cell? ⟨gb, 5, none⟩ = some (.int .i64 a0_5) := (blk_cell BK.out 5).trans rfl; have hfz_5 := blk_frozen BK.out 5; have hcz_6 : w9.cell? ⟨gb, 6, none⟩ = some (.int .i64 a0_6) := (blk_cell BK.out 6).trans rfl; have hfz_6 := blk_frozen BK.out 6))
 go_quiet (first | (go_at_call 34; (with_reducible refine (vec_works_8.calls a1 a2 t _ A7.out).mono ?_); rintro e w' ⟨rfl, ⟨nd, rfl⟩⟩; (try first | exact ⟨rfl, _, World.drewN_drewN _ _ _⟩ | exact ⟨rfl, _, Eq.trans (World.drewN_drewN _ _ _) (congrArg (World.drewN _) (Nat.add_assoc _ _ _))⟩)) | (go_at_call 14; (with_reducible refine (vec_Mask.calls a0_1 m _ A8.out).mono ?_); rintro e w' ⟨rfl, ⟨nd, rfl⟩⟩; (try first | exact ⟨rfl, _, World.drewN_drewN _ _ _⟩ | exact ⟨rfl, _, Eq.trans (World.drewN_drewN _ _ _) (congrArg (World.drewN _) (Nat.add_assoc _ _ _))⟩)))
 go_wp2
 go_ret
 exact ⟨by first | rfl | (simp [errW_none, errW_some] <;> rfl) | (simp [*, errW_none, errW_some] <;> rfl), by repeat (first | (with_reducible first | exact HB.out | apply below_alloc | apply pw_below_drewN | apply below_drew1) | exact HB.out)⟩
set_option maxHeartbeats 8000000 in
set_option maxRecDepth 100000 in
theorem vec_Do.by_9 (a0_0 a0_1 a0_2 a0_3 a0_4 a0_5 a0_6 a1 a2 a3 a4 : Int) (t : Int) (m : Int) (bk : Nat) (w : World) (hk : w.heap[bk]? = some (.cells #[.func (.func 35) #[] #[]] 50 (0, 0))) (h1 : vec_works_9.f a1 a2 = some t) (h2 : vec_Mask.f a0_1 = some m) :
  Calls Try.prog 44 #[.agg #[.int .i64 a0_0, .int .i64 a0_1, .int .i64 a0_2, .int .i64 a0_3, .int .i64 a0_4, .int .i64 a0_5, .int .i64 a0_6], .int .i64 a1, .int .i64 a2, .int .i64 a3, .int .i64 a4, .pointer (some ⟨bk, 0, none⟩)] w fun e w' => e = .returned (.int .i64 (Go.bits .and .i64 t m)) ∧ Below w.heap.size w w' := by
 have hu_ := Try.underlying28
 have HB := Aside0.mk (Below.refl w.heap.size w)
 have HK := Aside0.mk hk
 have hl := blk_lt hk
 clear hk
 have A7 := Aside0.mk h1
 have A8 := Aside0.mk h2
 clear h1 h2
 go_enter Try.func44, Try.ntmps44
 go_wp2_with (((with_reducible refine gate_dst (N := 6) rfl ?_); refine box_event ?hg (N := 6) ?hd (cs := #[.int .i64 a0_0, .int .i64 a0_1, .int .i64 a0_2, .int .i64 a0_3, .int .i64 a0_4, .int .i64 a0_5, .int .i64 a0_6]) (t := 28) ?hr ?_; (case hd => rfl); (case hg => rfl); (case hr => first | (go_simp; done) | (go_simp; rfl)); intro gb hg w9 hbox hb; have n0_ := Aside0.mk (below_step (by repeat (first | (with_reducible first | exact HB.out | apply below_alloc | apply pw_below_drewN | apply below_drew1) | exact HB.out)) hb); have n1_ := Aside0.mk (hbox); have n2_ := Aside0.mk ((by rw [hg]; exact (below_size (by repeat (first | (with_reducible first | exact HB.out | apply below_alloc | apply pw_below_drewN | apply below_drew1) | exact HB.out)))) : w.heap.size ≤ gb); have kb_ := Aside0.mk ((hb.block bk (Nat.lt_of_lt_of_le hl (below_size (by repeat (first | (with_reducible first | exact HB.out | apply below_alloc | apply pw_below_drewN | apply below_drew1) | exact HB.out))))).trans HK.out); have hkz : w9.cell? ⟨bk, 0, none⟩ = some (.func (.func 35) #[] #[]) := (blk_cell kb_.out 0).trans rfl; have hkf := blk_frozen kb_.out 0; clear HB; have HB := n0_; have BK := n1_; have GE := n2_; clear n0_ n1_ n2_; clear hb hbox hg; have hcz_0 : w9.cell? ⟨gb, 0, none⟩ = some (.int .i64 a0_0) := (blk_cell BK.out 0).trans rfl; have hfz_0 := blk_frozen BK.out 0; have hcz_1 : w9.cell? ⟨gb, 1, none⟩ = some (.int .i64 a0_1) := (blk_cell BK.out 1).trans rfl; have hfz_1 := blk_frozen BK.out 1; have hcz_2 : w9.cell? ⟨gb, 2, none⟩ = some (.int .i64 a0_2) := (blk_cell BK.out 2).trans rfl; have hfz_2 := blk_frozen BK.out 2; have hcz_3 : w9.cell? ⟨gb, 3, none⟩ = some (.int .i64 a0_3) := (blk_cell BK.out 3).trans rfl; have hfz_3 := blk_frozen BK.out 3; have hcz_4 : w9.cell? ⟨gb, 4, none⟩ = some (.int .i64 a0_4) := (blk_cell BK.out 4).trans rfl; have hfz_4 := blk_frozen BK.out 4; have hcz_5 : w9.cell? ⟨gb, 5, none⟩ = some (.int .i64 a0_5) := (blk_cell BK.out 5).trans rfl; have hfz_5 := blk_frozen BK.out 5; have hcz_6 : w9.cell? ⟨gb, 6, none⟩ = some (.int .i64 a0_6) := (blk_cell BK.out 6).trans rfl; have hfz_6 := blk_frozen BK.out 6))
 go_quiet (first | (go_at_call 35; (with_reducible refine (vec_works_9.calls a1 a2 t _ A7.out).mono ?_); rintro e w' ⟨rfl, ⟨nd, rfl⟩⟩; (try first | exact ⟨rfl, _, World.drewN_drewN _ _ _⟩ | exact ⟨rfl, _, Eq.trans (World.drewN_drewN _ _ _) (congrArg (World.drewN _) (Nat.add_assoc _ _ _))⟩)) | (go_at_call 14; (with_reducible refine (vec_Mask.calls a0_1 m _ A8.out).mono ?_); rintro e w' ⟨rfl, ⟨nd, rfl⟩⟩; (try first | exact ⟨rfl, _, World.drewN_drewN _ _ _⟩ | exact ⟨rfl, _, Eq.trans (World.drewN_drewN _ _ _) (congrArg (World.drewN _) (Nat.add_assoc _ _ _))⟩)))
 go_wp2
 go_ret
 exact ⟨by first | rfl | (simp [errW_none, errW_some] <;> rfl) | (simp [*, errW_none, errW_some] <;> rfl), by repeat (first | (with_reducible first | exact HB.out | apply below_alloc | apply pw_below_drewN | apply below_drew1) | exact HB.out)⟩
set_option maxHeartbeats 8000000 in
set_option maxRecDepth 100000 in
theorem vec_Do.by_10 (a0_0 a0_1 a0_2 a0_3 a0_4 a0_5 a0_6 a1 a2 a3 a4 : Int) (t : Int) (m : Int) (bk : Nat) (w : World) (hk : w.heap[bk]? = some (.cells #[.func (.func 36) #[] #[]] 50 (0, 0))) (h1 : vec_works_10.f a1 a2 = some t) (h2 : vec_Mask.f a0_1 = some m) :
  Calls Try.prog 44 #[.agg #[.int .i64 a0_0, .int .i64 a0_1, .int .i64 a0_2, .int .i64 a0_3, .int .i64 a0_4, .int .i64 a0_5, .int .i64 a0_6], .int .i64 a1, .int .i64 a2, .int .i64 a3, .int .i64 a4, .pointer (some ⟨bk, 0, none⟩)] w fun e w' => e = .returned (.int .i64 (Go.bits .and .i64 t m)) ∧ Below w.heap.size w w' := by
 have hu_ := Try.underlying28
 have HB := Aside0.mk (Below.refl w.heap.size w)
 have HK := Aside0.mk hk
 have hl := blk_lt hk
 clear hk
 have A7 := Aside0.mk h1
 have A8 := Aside0.mk h2
 clear h1 h2
 go_enter Try.func44, Try.ntmps44
 go_wp2_with (((with_reducible refine gate_dst (N := 6) rfl ?_); refine box_event ?hg (N := 6) ?hd (cs := #[.int .i64 a0_0, .int .i64 a0_1, .int .i64 a0_2, .int .i64 a0_3, .int .i64 a0_4, .int .i64 a0_5, .int .i64 a0_6]) (t := 28) ?hr ?_; (case hd => rfl); (case hg => rfl); (case hr => first | (go_simp; done) | (go_simp; rfl)); intro gb hg w9 hbox hb; have n0_ := Aside0.mk (below_step (by repeat (first | (with_reducible first | exact HB.out | apply below_alloc | apply pw_below_drewN | apply below_drew1) | exact HB.out)) hb); have n1_ := Aside0.mk (hbox); have n2_ := Aside0.mk ((by rw [hg]; exact (below_size (by repeat (first | (with_reducible first | exact HB.out | apply below_alloc | apply pw_below_drewN | apply below_drew1) | exact HB.out)))) : w.heap.size ≤ gb); have kb_ := Aside0.mk ((hb.block bk (Nat.lt_of_lt_of_le hl (below_size (by repeat (first | (with_reducible first | exact HB.out | apply below_alloc | apply pw_below_drewN | apply below_drew1) | exact HB.out))))).trans HK.out); have hkz : w9.cell? ⟨bk, 0, none⟩ = some (.func (.func 36) #[] #[]) := (blk_cell kb_.out 0).trans rfl; have hkf := blk_frozen kb_.out 0; clear HB; have HB := n0_; have BK := n1_; have GE := n2_; clear n0_ n1_ n2_; clear hb hbox hg; have hcz_0 : w9.cell? ⟨gb, 0, none⟩ = some (.int .i64 a0_0) := (blk_cell BK.out 0).trans rfl; have hfz_0 := blk_frozen BK.out 0; have hcz_1 : w9.cell? ⟨gb, 1, none⟩ = some (.int .i64 a0_1) := (blk_cell BK.out 1).trans rfl; have hfz_1 := blk_frozen BK.out 1; have hcz_2 : w9.cell? ⟨gb, 2, none⟩ = some (.int .i64 a0_2) := (blk_cell BK.out 2).trans rfl; have hfz_2 := blk_frozen BK.out 2; have hcz_3 : w9.cell? ⟨gb, 3, none⟩ = some (.int .i64 a0_3) := (blk_cell BK.out 3).trans rfl; have hfz_3 := blk_frozen BK.out 3; have hcz_4 : w9.cell? ⟨gb, 4, none⟩ = some (.int .i64 a0_4) := (blk_cell BK.out 4).trans rfl; have hfz_4 := blk_frozen BK.out 4; have hcz_5 : w9.cell? ⟨gb, 5, none⟩ = some (.int .i64 a0_5) := (blk_cell BK.out 5).trans rfl; have hfz_5 := blk_frozen BK.out 5; have hcz_6 : w9.cell? ⟨gb, 6, none⟩ = some (.int .i64 a0_6) := (blk_cell BK.out 6).trans rfl; have hfz_6 := blk_frozen BK.out 6))
 go_quiet (first | (go_at_call 36; (with_reducible refine (vec_works_10.calls a1 a2 t _ A7.out).mono ?_); rintro e w' ⟨rfl, ⟨nd, rfl⟩⟩; (try first | exact ⟨rfl, _, World.drewN_drewN _ _ _⟩ | exact ⟨rfl, _, Eq.trans (World.drewN_drewN _ _ _) (congrArg (World.drewN _) (Nat.add_assoc _ _ _))⟩)) | (go_at_call 14; (with_reducible refine (vec_Mask.calls a0_1 m _ A8.out).mono ?_); rintro e w' ⟨rfl, ⟨nd, rfl⟩⟩; (try first | exact ⟨rfl, _, World.drewN_drewN _ _ _⟩ | exact ⟨rfl, _, Eq.trans (World.drewN_drewN _ _ _) (congrArg (World.drewN _) (Nat.add_assoc _ _ _))⟩)))
 go_wp2
 go_ret
 exact ⟨by first | rfl | (simp [errW_none, errW_some] <;> rfl) | (simp [*, errW_none, errW_some] <;> rfl), by repeat (first | (with_reducible first | exact HB.out | apply below_alloc | apply pw_below_drewN | apply below_drew1) | exact HB.out)⟩
set_option maxHeartbeats 8000000 in
set_option maxRecDepth 100000 in
theorem vec_Do.by_3 (a0_0 a0_1 a0_2 a0_3 a0_4 a0_5 a0_6 a1 a2 a3 a4 : Int) (t : Bool) (m : Int) (bk : Nat) (w : World) (hk : w.heap[bk]? = some (.cells #[.func (.func 29) #[] #[]] 52 (0, 0))) (h1 : vec_works_3.f a1 a2 = some t) (h2 : vec_flag.f t = some m) :
  Calls Try.prog 45 #[.agg #[.int .i64 a0_0, .int .i64 a0_1, .int .i64 a0_2, .int .i64 a0_3, .int .i64 a0_4, .int .i64 a0_5, .int .i64 a0_6], .int .i64 a1, .int .i64 a2, .int .i64 a3, .int .i64 a4, .pointer (some ⟨bk, 0, none⟩)] w fun e w' => e = .returned (.int .i64 (m)) ∧ Below w.heap.size w w' := by
 have hu_ := Try.underlying28
 have HB := Aside0.mk (Below.refl w.heap.size w)
 have HK := Aside0.mk hk
 have hl := blk_lt hk
 clear hk
 have A7 := Aside0.mk h1
 have A8 := Aside0.mk h2
 clear h1 h2
 go_enter Try.func45, Try.ntmps45
 go_wp2_with (first | ((with_reducible refine gate_dst (N := 6) rfl ?_); refine box_event ?hg (N := 6) ?hd (cs := #[.int .i64 a0_0, .int .i64 a0_1, .int .i64 a0_2, .int .i64 a0_3, .int .i64 a0_4, .int .i64 a0_5, .int .i64 a0_6]) (t := 28) ?hr ?_; (case hd => rfl); (case hg => rfl); (case hr => first | (go_simp; done) | (go_simp; rfl)); intro gb hg w9 hbox hb; have n0_ := Aside0.mk (below_step (by repeat (first | (with_reducible first | exact HB.out | apply below_alloc | apply pw_below_drewN | apply below_drew1) | exact HB.out)) hb); have n1_ := Aside0.mk (hbox); have n2_ := Aside0.mk ((by rw [hg]; exact (below_size (by repeat (first | (with_reducible first | exact HB.out | apply below_alloc | apply pw_below_drewN | apply below_drew1) | exact HB.out)))) : w.heap.size ≤ gb); have kb_ := Aside0.mk ((hb.block bk (Nat.lt_of_lt_of_le hl (below_size (by repeat (first | (with_reducible first | exact HB.out | apply below_alloc | apply pw_below_drewN | apply below_drew1) | exact HB.out))))).trans HK.out); have hkz : w9.cell? ⟨bk, 0, none⟩ = some (.func (.func 29) #[] #[]) := (blk_cell kb_.out 0).trans rfl; have hkf := blk_frozen kb_.out 0; clear HB; have HB := n0_; have BK := n1_; have GE := n2_; clear n0_ n1_ n2_; clear hb hbox hg; have hcz_0 : w9.cell? ⟨gb, 0, none⟩ = some (.int .i64 a0_0) := (blk_cell BK.out 0).trans rfl; have hfz_0 := blk_frozen BK.out 0; have hcz_1 : w9.cell? ⟨gb, 1, none⟩ = some (.int .i64 a0_1) := (blk_cell BK.out 1).trans rfl; have hfz_1 := blk_frozen BK.out 1; have hcz_2 : w9.cell? ⟨gb, 2, none⟩ = some (.int .i64 a0_2) := (blk_cell BK.out 2).trans rfl; have hfz_2 := blk_frozen BK.out 2; have hcz_3 : w9.cell? ⟨gb, 3, none⟩ = some (.int .i64 a0_3) := (blk_cell BK.out 3).trans rfl; have hfz_3 := blk_frozen BK.out 3; have hcz_4 : w9.cell? ⟨gb, 4, none⟩ = some (.int .i64 a0_4) := (blk_cell BK.out 4).trans rfl; have hfz_4 := blk_frozen BK.out 4; have hcz_5 : w9.cell? ⟨gb, 5, none⟩ = some (.int .i64 a0_5) := (blk_cell BK.out 5).trans rfl; have hfz_5 := blk_frozen BK.out 5; have hcz_6 : w9.cell? ⟨gb, 6, none⟩ = some (.int .i64 a0_6) := (blk_cell BK.out 6).trans rfl; have hfz_6 := blk_frozen BK.out 6) | (go_at_call 29; (with_reducible refine (vec_works_3.calls a1 a2 t _ A7.out).mono ?_); rintro e w' ⟨rfl, ⟨nd, rfl⟩⟩; (try first | exact ⟨rfl, _, World.drewN_drewN _ _ _⟩ | exact ⟨rfl, _, Eq.trans (World.drewN_drewN _ _ _) (congrArg (World.drewN _) (Nat.add_assoc _ _ _))⟩)) | (go_at_call 24; (with_reducible refine (vec_flag.calls t m _ A8.out).mono ?_); rintro e w' ⟨rfl, ⟨nd, rfl⟩⟩; (try first | exact ⟨rfl, _, World.drewN_drewN _ _ _⟩ | exact ⟨rfl, _, Eq.trans (World.drewN_drewN _ _ _) (congrArg (World.drewN _) (Nat.add_assoc _ _ _))⟩)))
 go_ret
 exact ⟨by first | rfl | (simp [errW_none, errW_some] <;> rfl) | (simp [*, errW_none, errW_some] <;> rfl), by repeat (first | (with_reducible first | exact HB.out | apply below_alloc | apply pw_below_drewN | apply below_drew1) | exact HB.out)⟩
set_option maxHeartbeats 8000000 in
set_option maxRecDepth 100000 in
theorem vec_Do.by_11 (a0_0 a0_1 a0_2 a0_3 a0_4 a0_5 a0_6 a1 a2 a3 a4 : Int) (t : Bool) (m : Int) (bk : Nat) (w : World) (hk : w.heap[bk]? = some (.cells #[.func (.func 37) #[] #[]] 52 (0, 0))) (h1 : vec_works_11.f a1 a2 = some t) (h2 : vec_flag.f t = some m) :
  Calls Try.prog 45 #[.agg #[.int .i64 a0_0, .int .i64 a0_1, .int .i64 a0_2, .int .i64 a0_3, .int .i64 a0_4, .int .i64 a0_5, .int .i64 a0_6], .int .i64 a1, .int .i64 a2, .int .i64 a3, .int .i64 a4, .pointer (some ⟨bk, 0, none⟩)] w fun e w' => e = .returned (.int .i64 (m)) ∧ Below w.heap.size w w' := by
 have hu_ := Try.underlying28
 have HB := Aside0.mk (Below.refl w.heap.size w)
 have HK := Aside0.mk hk
 have hl := blk_lt hk
 clear hk
 have A7 := Aside0.mk h1
 have A8 := Aside0.mk h2
 clear h1 h2
 go_enter Try.func45, Try.ntmps45
 go_wp2_with (first | ((with_reducible refine gate_dst (N := 6) rfl ?_); refine box_event ?hg (N := 6) ?hd (cs := #[.int .i64 a0_0, .int .i64 a0_1, .int .i64 a0_2, .int .i64 a0_3, .int .i64 a0_4, .int .i64 a0_5, .int .i64 a0_6]) (t := 28) ?hr ?_; (case hd => rfl); (case hg => rfl); (case hr => first | (go_simp; done) | (go_simp; rfl)); intro gb hg w9 hbox hb; have n0_ := Aside0.mk (below_step (by repeat (first | (with_reducible first | exact HB.out | apply below_alloc | apply pw_below_drewN | apply below_drew1) | exact HB.out)) hb); have n1_ := Aside0.mk (hbox); have n2_ := Aside0.mk ((by rw [hg]; exact (below_size (by repeat (first | (with_reducible first | exact HB.out | apply below_alloc | apply pw_below_drewN | apply below_drew1) | exact HB.out)))) : w.heap.size ≤ gb); have kb_ := Aside0.mk ((hb.block bk (Nat.lt_of_lt_of_le hl (below_size (by repeat (first | (with_reducible first | exact HB.out | apply below_alloc | apply pw_below_drewN | apply below_drew1) | exact HB.out))))).trans HK.out); have hkz : w9.cell? ⟨bk, 0, none⟩ = some (.func (.func 37) #[] #[]) := (blk_cell kb_.out 0).trans rfl; have hkf := blk_frozen kb_.out 0; clear HB; have HB := n0_; have BK := n1_; have GE := n2_; clear n0_ n1_ n2_; clear hb hbox hg; have hcz_0 : w9.cell? ⟨gb, 0, none⟩ = some (.int .i64 a0_0) := (blk_cell BK.out 0).trans rfl; have hfz_0 := blk_frozen BK.out 0; have hcz_1 : w9.cell? ⟨gb, 1, none⟩ = some (.int .i64 a0_1) := (blk_cell BK.out 1).trans rfl; have hfz_1 := blk_frozen BK.out 1; have hcz_2 : w9.cell? ⟨gb, 2, none⟩ = some (.int .i64 a0_2) := (blk_cell BK.out 2).trans rfl; have hfz_2 := blk_frozen BK.out 2; have hcz_3 : w9.cell? ⟨gb, 3, none⟩ = some (.int .i64 a0_3) := (blk_cell BK.out 3).trans rfl; have hfz_3 := blk_frozen BK.out 3; have hcz_4 : w9.cell? ⟨gb, 4, none⟩ = some (.int .i64 a0_4) := (blk_cell BK.out 4).trans rfl; have hfz_4 := blk_frozen BK.out 4; have hcz_5 : w9.cell? ⟨gb, 5, none⟩ = some (.int .i64 a0_5) := (blk_cell BK.out 5).trans rfl; have hfz_5 := blk_frozen BK.out 5; have hcz_6 : w9.cell? ⟨gb, 6, none⟩ = some (.int .i64 a0_6) := (blk_cell BK.out 6).trans rfl; have hfz_6 := blk_frozen BK.out 6) | (go_at_call 37; (with_reducible refine (vec_works_11.calls a1 a2 t _ A7.out).mono ?_); rintro e w' ⟨rfl, ⟨nd, rfl⟩⟩; (try first | exact ⟨rfl, _, World.drewN_drewN _ _ _⟩ | exact ⟨rfl, _, Eq.trans (World.drewN_drewN _ _ _) (congrArg (World.drewN _) (Nat.add_assoc _ _ _))⟩)) | (go_at_call 24; (with_reducible refine (vec_flag.calls t m _ A8.out).mono ?_); rintro e w' ⟨rfl, ⟨nd, rfl⟩⟩; (try first | exact ⟨rfl, _, World.drewN_drewN _ _ _⟩ | exact ⟨rfl, _, Eq.trans (World.drewN_drewN _ _ _) (congrArg (World.drewN _) (Nat.add_assoc _ _ _))⟩)))
 go_ret
 exact ⟨by first | rfl | (simp [errW_none, errW_some] <;> rfl) | (simp [*, errW_none, errW_some] <;> rfl), by repeat (first | (with_reducible first | exact HB.out | apply below_alloc | apply pw_below_drewN | apply below_drew1) | exact HB.out)⟩
set_option maxHeartbeats 8000000 in
set_option maxRecDepth 100000 in
theorem vec_Do.by_12 (a0_0 a0_1 a0_2 a0_3 a0_4 a0_5 a0_6 a1 a2 a3 a4 : Int) (t : Bool) (m : Int) (bk : Nat) (w : World) (hk : w.heap[bk]? = some (.cells #[.func (.func 38) #[] #[]] 52 (0, 0))) (h1 : vec_works_12.f a1 a2 = some t) (h2 : vec_flag.f t = some m) :
  Calls Try.prog 45 #[.agg #[.int .i64 a0_0, .int .i64 a0_1, .int .i64 a0_2, .int .i64 a0_3, .int .i64 a0_4, .int .i64 a0_5, .int .i64 a0_6], .int .i64 a1, .int .i64 a2, .int .i64 a3, .int .i64 a4, .pointer (some ⟨bk, 0, none⟩)] w fun e w' => e = .returned (.int .i64 (m)) ∧ Below w.heap.size w w' := by
 have hu_ := Try.underlying28
 have HB := Aside0.mk (Below.refl w.heap.size w)
 have HK := Aside0.mk hk
 have hl := blk_lt hk
 clear hk
 have A7 := Aside0.mk h1
 have A8 := Aside0.mk h2
 clear h1 h2
 go_enter Try.func45, Try.ntmps45
 go_wp2_with (first | ((with_reducible refine gate_dst (N := 6) rfl ?_); refine box_event ?hg (N := 6) ?hd (cs := #[.int .i64 a0_0, .int .i64 a0_1, .int .i64 a0_2, .int .i64 a0_3, .int .i64 a0_4, .int .i64 a0_5, .int .i64 a0_6]) (t := 28) ?hr ?_; (case hd => rfl); (case hg => rfl); (case hr => first | (go_simp; done) | (go_simp; rfl)); intro gb hg w9 hbox hb; have n0_ := Aside0.mk (below_step (by repeat (first | (with_reducible first | exact HB.out | apply below_alloc | apply pw_below_drewN | apply below_drew1) | exact HB.out)) hb); have n1_ := Aside0.mk (hbox); have n2_ := Aside0.mk ((by rw [hg]; exact (below_size (by repeat (first | (with_reducible first | exact HB.out | apply below_alloc | apply pw_below_drewN | apply below_drew1) | exact HB.out)))) : w.heap.size ≤ gb); have kb_ := Aside0.mk ((hb.block bk (Nat.lt_of_lt_of_le hl (below_size (by repeat (first | (with_reducible first | exact HB.out | apply below_alloc | apply pw_below_drewN | apply below_drew1) | exact HB.out))))).trans HK.out); have hkz : w9.cell? ⟨bk, 0, none⟩ = some (.func (.func 38) #[] #[]) := (blk_cell kb_.out 0).trans rfl; have hkf := blk_frozen kb_.out 0; clear HB; have HB := n0_; have BK := n1_; have GE := n2_; clear n0_ n1_ n2_; clear hb hbox hg; have hcz_0 : w9.cell? ⟨gb, 0, none⟩ = some (.int .i64 a0_0) := (blk_cell BK.out 0).trans rfl; have hfz_0 := blk_frozen BK.out 0; have hcz_1 : w9.cell? ⟨gb, 1, none⟩ = some (.int .i64 a0_1) := (blk_cell BK.out 1).trans rfl; have hfz_1 := blk_frozen BK.out 1; have hcz_2 : w9.cell? ⟨gb, 2, none⟩ = some (.int .i64 a0_2) := (blk_cell BK.out 2).trans rfl; have hfz_2 := blk_frozen BK.out 2; have hcz_3 : w9.cell? ⟨gb, 3, none⟩ = some (.int .i64 a0_3) := (blk_cell BK.out 3).trans rfl; have hfz_3 := blk_frozen BK.out 3; have hcz_4 : w9.cell? ⟨gb, 4, none⟩ = some (.int .i64 a0_4) := (blk_cell BK.out 4).trans rfl; have hfz_4 := blk_frozen BK.out 4; have hcz_5 : w9.cell? ⟨gb, 5, none⟩ = some (.int .i64 a0_5) := (blk_cell BK.out 5).trans rfl; have hfz_5 := blk_frozen BK.out 5; have hcz_6 : w9.cell? ⟨gb, 6, none⟩ = some (.int .i64 a0_6) := (blk_cell BK.out 6).trans rfl; have hfz_6 := blk_frozen BK.out 6) | (go_at_call 38; (with_reducible refine (vec_works_12.calls a1 a2 t _ A7.out).mono ?_); rintro e w' ⟨rfl, ⟨nd, rfl⟩⟩; (try first | exact ⟨rfl, _, World.drewN_drewN _ _ _⟩ | exact ⟨rfl, _, Eq.trans (World.drewN_drewN _ _ _) (congrArg (World.drewN _) (Nat.add_assoc _ _ _))⟩)) | (go_at_call 24; (with_reducible refine (vec_flag.calls t m _ A8.out).mono ?_); rintro e w' ⟨rfl, ⟨nd, rfl⟩⟩; (try first | exact ⟨rfl, _, World.drewN_drewN _ _ _⟩ | exact ⟨rfl, _, Eq.trans (World.drewN_drewN _ _ _) (congrArg (World.drewN _) (Nat.add_assoc _ _ _))⟩)))
 go_ret
 exact ⟨by first | rfl | (simp [errW_none, errW_some] <;> rfl) | (simp [*, errW_none, errW_some] <;> rfl), by repeat (first | (with_reducible first | exact HB.out | apply below_alloc | apply pw_below_drewN | apply below_drew1) | exact HB.out)⟩
set_option maxHeartbeats 8000000 in
set_option maxRecDepth 100000 in
theorem vec_Do.by_13 (a0_0 a0_1 a0_2 a0_3 a0_4 a0_5 a0_6 a1 a2 a3 a4 : Int) (t : Bool) (m : Int) (bk : Nat) (w : World) (hk : w.heap[bk]? = some (.cells #[.func (.func 39) #[] #[]] 52 (0, 0))) (h1 : vec_works_13.f a1 a2 = some t) (h2 : vec_flag.f t = some m) :
  Calls Try.prog 45 #[.agg #[.int .i64 a0_0, .int .i64 a0_1, .int .i64 a0_2, .int .i64 a0_3, .int .i64 a0_4, .int .i64 a0_5, .int .i64 a0_6], .int .i64 a1, .int .i64 a2, .int .i64 a3, .int .i64 a4, .pointer (some ⟨bk, 0, none⟩)] w fun e w' => e = .returned (.int .i64 (m)) ∧ Below w.heap.size w w' := by
 have hu_ := Try.underlying28
 have HB := Aside0.mk (Below.refl w.heap.size w)
 have HK := Aside0.mk hk
 have hl := blk_lt hk
 clear hk
 have A7 := Aside0.mk h1
 have A8 := Aside0.mk h2
 clear h1 h2
 go_enter Try.func45, Try.ntmps45
 go_wp2_with (first | ((with_reducible refine gate_dst (N := 6) rfl ?_); refine box_event ?hg (N := 6) ?hd (cs := #[.int .i64 a0_0, .int .i64 a0_1, .int .i64 a0_2, .int .i64 a0_3, .int .i64 a0_4, .int .i64 a0_5, .int .i64 a0_6]) (t := 28) ?hr ?_; (case hd => rfl); (case hg => rfl); (case hr => first | (go_simp; done) | (go_simp; rfl)); intro gb hg w9 hbox hb; have n0_ := Aside0.mk (below_step (by repeat (first | (with_reducible first | exact HB.out | apply below_alloc | apply pw_below_drewN | apply below_drew1) | exact HB.out)) hb); have n1_ := Aside0.mk (hbox); have n2_ := Aside0.mk ((by rw [hg]; exact (below_size (by repeat (first | (with_reducible first | exact HB.out | apply below_alloc | apply pw_below_drewN | apply below_drew1) | exact HB.out)))) : w.heap.size ≤ gb); have kb_ := Aside0.mk ((hb.block bk (Nat.lt_of_lt_of_le hl (below_size (by repeat (first | (with_reducible first | exact HB.out | apply below_alloc | apply pw_below_drewN | apply below_drew1) | exact HB.out))))).trans HK.out); have hkz : w9.cell? ⟨bk, 0, none⟩ = some (.func (.func 39) #[] #[]) := (blk_cell kb_.out 0).trans rfl; have hkf := blk_frozen kb_.out 0; clear HB; have HB := n0_; have BK := n1_; have GE := n2_; clear n0_ n1_ n2_; clear hb hbox hg; have hcz_0 : w9.cell? ⟨gb, 0, none⟩ = some (.int .i64 a0_0) := (blk_cell BK.out 0).trans rfl; have hfz_0 := blk_frozen BK.out 0; have hcz_1 : w9.cell? ⟨gb, 1, none⟩ = some (.int .i64 a0_1) := (blk_cell BK.out 1).trans rfl; have hfz_1 := blk_frozen BK.out 1; have hcz_2 : w9.cell? ⟨gb, 2, none⟩ = some (.int .i64 a0_2) := (blk_cell BK.out 2).trans rfl; have hfz_2 := blk_frozen BK.out 2; have hcz_3 : w9.cell? ⟨gb, 3, none⟩ = some (.int .i64 a0_3) := (blk_cell BK.out 3).trans rfl; have hfz_3 := blk_frozen BK.out 3; have hcz_4 : w9.cell? ⟨gb, 4, none⟩ = some (.int .i64 a0_4) := (blk_cell BK.out 4).trans rfl; have hfz_4 := blk_frozen BK.out 4; have hcz_5 : w9.cell? ⟨gb, 5, none⟩ = some (.int .i64 a0_5) := (blk_cell BK.out 5).trans rfl; have hfz_5 := blk_frozen BK.out 5; have hcz_6 : w9.cell? ⟨gb, 6, none⟩ = some (.int .i64 a0_6) := (blk_cell BK.out 6).trans rfl; have hfz_6 := blk_frozen BK.out 6) | (go_at_call 39; (with_reducible refine (vec_works_13.calls a1 a2 t _ A7.out).mono ?_); rintro e w' ⟨rfl, ⟨nd, rfl⟩⟩; (try first | exact ⟨rfl, _, World.drewN_drewN _ _ _⟩ | exact ⟨rfl, _, Eq.trans (World.drewN_drewN _ _ _) (congrArg (World.drewN _) (Nat.add_assoc _ _ _))⟩)) | (go_at_call 24; (with_reducible refine (vec_flag.calls t m _ A8.out).mono ?_); rintro e w' ⟨rfl, ⟨nd, rfl⟩⟩; (try first | exact ⟨rfl, _, World.drewN_drewN _ _ _⟩ | exact ⟨rfl, _, Eq.trans (World.drewN_drewN _ _ _) (congrArg (World.drewN _) (Nat.add_assoc _ _ _))⟩)))
 go_ret
 exact ⟨by first | rfl | (simp [errW_none, errW_some] <;> rfl) | (simp [*, errW_none, errW_some] <;> rfl), by repeat (first | (with_reducible first | exact HB.out | apply below_alloc | apply pw_below_drewN | apply below_drew1) | exact HB.out)⟩
set_option maxHeartbeats 8000000 in
set_option maxRecDepth 100000 in
theorem vec_Do.by_14 (a0_0 a0_1 a0_2 a0_3 a0_4 a0_5 a0_6 a1 a2 a3 a4 : Int) (t : Bool) (m : Int) (bk : Nat) (w : World) (hk : w.heap[bk]? = some (.cells #[.func (.func 40) #[] #[]] 52 (0, 0))) (h1 : vec_works_14.f a1 a2 = some t) (h2 : vec_flag.f t = some m) :
  Calls Try.prog 45 #[.agg #[.int .i64 a0_0, .int .i64 a0_1, .int .i64 a0_2, .int .i64 a0_3, .int .i64 a0_4, .int .i64 a0_5, .int .i64 a0_6], .int .i64 a1, .int .i64 a2, .int .i64 a3, .int .i64 a4, .pointer (some ⟨bk, 0, none⟩)] w fun e w' => e = .returned (.int .i64 (m)) ∧ Below w.heap.size w w' := by
 have hu_ := Try.underlying28
 have HB := Aside0.mk (Below.refl w.heap.size w)
 have HK := Aside0.mk hk
 have hl := blk_lt hk
 clear hk
 have A7 := Aside0.mk h1
 have A8 := Aside0.mk h2
 clear h1 h2
 go_enter Try.func45, Try.ntmps45
 go_wp2_with (first | ((with_reducible refine gate_dst (N := 6) rfl ?_); refine box_event ?hg (N := 6) ?hd (cs := #[.int .i64 a0_0, .int .i64 a0_1, .int .i64 a0_2, .int .i64 a0_3, .int .i64 a0_4, .int .i64 a0_5, .int .i64 a0_6]) (t := 28) ?hr ?_; (case hd => rfl); (case hg => rfl); (case hr => first | (go_simp; done) | (go_simp; rfl)); intro gb hg w9 hbox hb; have n0_ := Aside0.mk (below_step (by repeat (first | (with_reducible first | exact HB.out | apply below_alloc | apply pw_below_drewN | apply below_drew1) | exact HB.out)) hb); have n1_ := Aside0.mk (hbox); have n2_ := Aside0.mk ((by rw [hg]; exact (below_size (by repeat (first | (with_reducible first | exact HB.out | apply below_alloc | apply pw_below_drewN | apply below_drew1) | exact HB.out)))) : w.heap.size ≤ gb); have kb_ := Aside0.mk ((hb.block bk (Nat.lt_of_lt_of_le hl (below_size (by repeat (first | (with_reducible first | exact HB.out | apply below_alloc | apply pw_below_drewN | apply below_drew1) | exact HB.out))))).trans HK.out); have hkz : w9.cell? ⟨bk, 0, none⟩ = some (.func (.func 40) #[] #[]) := (blk_cell kb_.out 0).trans rfl; have hkf := blk_frozen kb_.out 0; clear HB; have HB := n0_; have BK := n1_; have GE := n2_; clear n0_ n1_ n2_; clear hb hbox hg; have hcz_0 : w9.cell? ⟨gb, 0, none⟩ = some (.int .i64 a0_0) := (blk_cell BK.out 0).trans rfl; have hfz_0 := blk_frozen BK.out 0; have hcz_1 : w9.cell? ⟨gb, 1, none⟩ = some (.int .i64 a0_1) := (blk_cell BK.out 1).trans rfl; have hfz_1 := blk_frozen BK.out 1; have hcz_2 : w9.cell? ⟨gb, 2, none⟩ = some (.int .i64 a0_2) := (blk_cell BK.out 2).trans rfl; have hfz_2 := blk_frozen BK.out 2; have hcz_3 : w9.cell? ⟨gb, 3, none⟩ = some (.int .i64 a0_3) := (blk_cell BK.out 3).trans rfl; have hfz_3 := blk_frozen BK.out 3; have hcz_4 : w9.cell? ⟨gb, 4, none⟩ = some (.int .i64 a0_4) := (blk_cell BK.out 4).trans rfl; have hfz_4 := blk_frozen BK.out 4; have hcz_5 : w9.cell? ⟨gb, 5, none⟩ = some (.int .i64 a0_5) := (blk_cell BK.out 5).trans rfl; have hfz_5 := blk_frozen BK.out 5; have hcz_6 : w9.cell? ⟨gb, 6, none⟩ = some (.int .i64 a0_6) := (blk_cell BK.out 6).trans rfl; have hfz_6 := blk_frozen BK.out 6) | (go_at_call 40; (with_reducible refine (vec_works_14.calls a1 a2 t _ A7.out).mono ?_); rintro e w' ⟨rfl, ⟨nd, rfl⟩⟩; (try first | exact ⟨rfl, _, World.drewN_drewN _ _ _⟩ | exact ⟨rfl, _, Eq.trans (World.drewN_drewN _ _ _) (congrArg (World.drewN _) (Nat.add_assoc _ _ _))⟩)) | (go_at_call 24; (with_reducible refine (vec_flag.calls t m _ A8.out).mono ?_); rintro e w' ⟨rfl, ⟨nd, rfl⟩⟩; (try first | exact ⟨rfl, _, World.drewN_drewN _ _ _⟩ | exact ⟨rfl, _, Eq.trans (World.drewN_drewN _ _ _) (congrArg (World.drewN _) (Nat.add_assoc _ _ _))⟩)))
 go_ret
 exact ⟨by first | rfl | (simp [errW_none, errW_some] <;> rfl) | (simp [*, errW_none, errW_some] <;> rfl), by repeat (first | (with_reducible first | exact HB.out | apply below_alloc | apply pw_below_drewN | apply below_drew1) | exact HB.out)⟩
set_option maxHeartbeats 8000000 in
set_option maxRecDepth 100000 in
theorem vec_Do.two (G : FuncId) (w : World) : Calls Try.prog 26 #[.func (.func G) #[] #[]] w fun e w' => ∃ b, e = .returned (.func (.func 44) #[] #[.pointer (some ⟨b, 0, none⟩)]) ∧ w'.heap[b]? = some (.cells #[.func (.func G) #[] #[]] 50 (0, 0)) ∧ w.heap.size ≤ b ∧ Below w.heap.size w w' := by
 have hmf : ∀ (fn : Fn) (first cap : Array Value) (w : World), (Instr.makeFunc fn first cap).run Try.prog w = .ok (.func fn first cap) w := fun _ _ _ _ => rfl
 have hu_ := Try.underlying50
 have HB := Aside0.mk (Below.refl w.heap.size w)
 go_enter Try.func26, Try.ntmps26
 go_wp2_with (first | ((with_reducible refine gate_dst (N := 1) rfl ?_); refine box_event ?hg (N := 1) ?hd (cs := #[.func (.func G) #[] #[]]) (t := 50) ?hr ?_; (case hd => rfl); (case hg => rfl); (case hr => first | (go_simp; done) | (go_simp; rfl)); intro gb hg w9 hbox hb; have n0_ := Aside0.mk (below_step (by repeat (first | (with_reducible first | exact HB.out | apply below_alloc | apply pw_below_drewN | apply below_drew1) | exact HB.out)) hb); have n1_ := Aside0.mk (hbox); have n2_ := Aside0.mk ((by rw [hg]; exact (below_size (by repeat (first | (with_reducible first | exact HB.out | apply below_alloc | apply pw_below_drewN | apply below_drew1) | exact HB.out)))) : w.heap.size ≤ gb); clear HB; have HB := n0_; have BK := n1_; have GE := n2_; clear n0_ n1_ n2_; clear hb hbox hg))
 repeat (go_quiet (first | ((with_reducible refine gate_dst (N := 1) rfl ?_); refine box_event ?hg (N := 1) ?hd (cs := #[.func (.func G) #[] #[]]) (t := 50) ?hr ?_; (case hd => rfl); (case hg => rfl); (case hr => first | (go_simp; done) | (go_simp; rfl)); intro gb hg w9 hbox hb; have n0_ := Aside0.mk (below_step (by repeat (first | (with_reducible first | exact HB.out | apply below_alloc | apply pw_below_drewN | apply below_drew1) | exact HB.out)) hb); have n1_ := Aside0.mk (hbox); have n2_ := Aside0.mk ((by rw [hg]; exact (below_size (by repeat (first | (with_reducible first | exact HB.out | apply below_alloc | apply pw_below_drewN | apply below_drew1) | exact HB.out)))) : w.heap.size ≤ gb); clear HB; have HB := n0_; have BK := n1_; have GE := n2_; clear n0_ n1_ n2_; clear hb hbox hg)); try go_wp2_with (first | ((with_reducible refine gate_dst (N := 1) rfl ?_); refine box_event ?hg (N := 1) ?hd (cs := #[.func (.func G) #[] #[]]) (t := 50) ?hr ?_; (case hd => rfl); (case hg => rfl); (case hr => first | (go_simp; done) | (go_simp; rfl)); intro gb hg w9 hbox hb; have n0_ := Aside0.mk (below_step (by repeat (first | (with_reducible first | exact HB.out | apply below_alloc | apply pw_below_drewN | apply below_drew1) | exact HB.out)) hb); have n1_ := Aside0.mk (hbox); have n2_ := Aside0.mk ((by rw [hg]; exact (below_size (by repeat (first | (with_reducible first | exact HB.out | apply below_alloc | apply pw_below_drewN | apply below_drew1) | exact HB.out)))) : w.heap.size ≤ gb); clear HB; have HB := n0_; have BK := n1_; have GE := n2_; clear n0_ n1_ n2_; clear hb hbox hg)))
 go_ret
 exact ⟨_, rfl, by (with_reducible repeat (first | refine blk_drewN ?_ _ | refine blk_drew ?_)); exact BK.out, GE.out, by repeat (first | (with_reducible first | exact HB.out | apply pw_below_drewN | apply below_drew1) | exact HB.out)⟩
set_option maxHeartbeats 8000000 in
set_option maxRecDepth 100000 in
theorem vec_Do.asked (G : FuncId) (w : World) : Calls Try.prog 28 #[.func (.func G) #[] #[]] w fun e w' => ∃ b, e = .returned (.func (.func 45) #[] #[.pointer (some ⟨b, 0, none⟩)]) ∧ w'.heap[b]? = some (.cells #[.func (.func G) #[] #[]] 52 (0, 0)) ∧ w.heap.size ≤ b ∧ Below w.heap.size w w' := by
 have hmf : ∀ (fn : Fn) (first cap : Array Value) (w : World), (Instr.makeFunc fn first cap).run Try.prog w = .ok (.func fn first cap) w := fun _ _ _ _ => rfl
 have hu_ := Try.underlying52
 have HB := Aside0.mk (Below.refl w.heap.size w)
 go_enter Try.func28, Try.ntmps28
 go_wp2_with (first | ((with_reducible refine gate_dst (N := 1) rfl ?_); refine box_event ?hg (N := 1) ?hd (cs := #[.func (.func G) #[] #[]]) (t := 52) ?hr ?_; (case hd => rfl); (case hg => rfl); (case hr => first | (go_simp; done) | (go_simp; rfl)); intro gb hg w9 hbox hb; have n0_ := Aside0.mk (below_step (by repeat (first | (with_reducible first | exact HB.out | apply below_alloc | apply pw_below_drewN | apply below_drew1) | exact HB.out)) hb); have n1_ := Aside0.mk (hbox); have n2_ := Aside0.mk ((by rw [hg]; exact (below_size (by repeat (first | (with_reducible first | exact HB.out | apply below_alloc | apply pw_below_drewN | apply below_drew1) | exact HB.out)))) : w.heap.size ≤ gb); clear HB; have HB := n0_; have BK := n1_; have GE := n2_; clear n0_ n1_ n2_; clear hb hbox hg))
 repeat (go_quiet (first | ((with_reducible refine gate_dst (N := 1) rfl ?_); refine box_event ?hg (N := 1) ?hd (cs := #[.func (.func G) #[] #[]]) (t := 52) ?hr ?_; (case hd => rfl); (case hg => rfl); (case hr => first | (go_simp; done) | (go_simp; rfl)); intro gb hg w9 hbox hb; have n0_ := Aside0.mk (below_step (by repeat (first | (with_reducible first | exact HB.out | apply below_alloc | apply pw_below_drewN | apply below_drew1) | exact HB.out)) hb); have n1_ := Aside0.mk (hbox); have n2_ := Aside0.mk ((by rw [hg]; exact (below_size (by repeat (first | (with_reducible first | exact HB.out | apply below_alloc | apply pw_below_drewN | apply below_drew1) | exact HB.out)))) : w.heap.size ≤ gb); clear HB; have HB := n0_; have BK := n1_; have GE := n2_; clear n0_ n1_ n2_; clear hb hbox hg)); try go_wp2_with (first | ((with_reducible refine gate_dst (N := 1) rfl ?_); refine box_event ?hg (N := 1) ?hd (cs := #[.func (.func G) #[] #[]]) (t := 52) ?hr ?_; (case hd => rfl); (case hg => rfl); (case hr => first | (go_simp; done) | (go_simp; rfl)); intro gb hg w9 hbox hb; have n0_ := Aside0.mk (below_step (by repeat (first | (with_reducible first | exact HB.out | apply below_alloc | apply pw_below_drewN | apply below_drew1) | exact HB.out)) hb); have n1_ := Aside0.mk (hbox); have n2_ := Aside0.mk ((by rw [hg]; exact (below_size (by repeat (first | (with_reducible first | exact HB.out | apply below_alloc | apply pw_below_drewN | apply below_drew1) | exact HB.out)))) : w.heap.size ≤ gb); clear HB; have HB := n0_; have BK := n1_; have GE := n2_; clear n0_ n1_ n2_; clear hb hbox hg)))
 go_ret
 exact ⟨_, rfl, by (with_reducible repeat (first | refine blk_drewN ?_ _ | refine blk_drew ?_)); exact BK.out, GE.out, by repeat (first | (with_reducible first | exact HB.out | apply pw_below_drewN | apply below_drew1) | exact HB.out)⟩
def vec_Do.kvs (b2 b3 b5 b6 b7 b8 b9 b10 b11 b12 b13 b14 : Nat) : List (Value × Value) := [(.int .i64 1, .func (.func 25) #[] #[]), (.int .i64 3, .func (.func 44) #[] #[.pointer (some ⟨b2, 0, none⟩)]), (.int .i64 4, .func (.func 45) #[] #[.pointer (some ⟨b3, 0, none⟩)]), (.int .i64 5, .func (.func 30) #[] #[]), (.int .i64 6, .func (.func 44) #[] #[.pointer (some ⟨b5, 0, none⟩)]), (.int .i64 7, .func (.func 44) #[] #[.pointer (some ⟨b6, 0, none⟩)]), (.int .i64 8, .func (.func 44) #[] #[.pointer (some ⟨b7, 0, none⟩)]), (.int .i64 9, .func (.func 44) #[] #[.pointer (some ⟨b8, 0, none⟩)]), (.int .i64 10, .func (.func 44) #[] #[.pointer (some ⟨b9, 0, none⟩)]), (.int .i64 11, .func (.func 44) #[] #[.pointer (some ⟨b10, 0, none⟩)]), (.int .i64 12, .func (.func 45) #[] #[.pointer (some ⟨b11, 0, none⟩)]), (.int .i64 13, .func (.func 45) #[] #[.pointer (some ⟨b12, 0, none⟩)]), (.int .i64 14, .func (.func 45) #[] #[.pointer (some ⟨b13, 0, none⟩)]), (.int .i64 15, .func (.func 45) #[] #[.pointer (some ⟨b14, 0, none⟩)]), (.int .i64 16, .func (.func 41) #[] #[]), (.int .i64 17, .func (.func 42) #[] #[]), (.int .i64 18, .func (.func 43) #[] #[])]
def vec_Do.fls (b2 b3 b5 b6 b7 b8 b9 b10 b11 b12 b13 b14 : Nat) : List (Nat × FuncId × TypeId) := [(b2, 27, 50), (b3, 29, 52), (b5, 31, 50), (b6, 32, 50), (b7, 33, 50), (b8, 34, 50), (b9, 35, 50), (b10, 36, 50), (b11, 37, 52), (b12, 38, 52), (b13, 39, 52), (b14, 40, 52)]
/-- What works hands back. -/
def vec_Do.Made (w : World) (e : Ending) (w' : World) : Prop := ∃ g b2 b3 b5 b6 b7 b8 b9 b10 b11 b12 b13 b14, e = .returned (.map (some g)) ∧ vec_Do.St w g (vec_Do.kvs b2 b3 b5 b6 b7 b8 b9 b10 b11 b12 b13 b14) (vec_Do.fls b2 b3 b5 b6 b7 b8 b9 b10 b11 b12 b13 b14) w'
set_option maxHeartbeats 8000000 in
set_option maxRecDepth 100000 in
theorem vec_Do.works (w : World) : Calls Try.prog 21 #[] w fun e w' => vec_Do.Made w e w' := by
 have hmf : ∀ (fn : Fn) (first cap : Array Value) (w : World), (Instr.makeFunc fn first cap).run Try.prog w = .ok (.func fn first cap) w := fun _ _ _ _ => rfl
 have hu_ := Try.underlying46
 go_enter Try.func21, Try.ntmps21
 go_wp2_with (first | (refine vec_Do.ins_event HS.out rfl _ _ _ _ _ rfl rfl rfl rfl (by rfl) (by simp) ?_; intro w8 hs_; clear HS; have HS := Aside0.mk hs_; clear hs_) | (go_at_call 26; refine (vec_Do.two _ _).mono ?_; rintro e w8 ⟨b, rfl, hc_, hn_, hb_⟩; have hs_ := HS.out.call hb_ hn_ hc_; clear HS hb_ hn_ hc_; have HS := Aside0.mk hs_; clear hs_) | (go_at_call 28; refine (vec_Do.asked _ _).mono ?_; rintro e w8 ⟨b, rfl, hc_, hn_, hb_⟩; have hs_ := HS.out.call hb_ hn_ hc_; clear HS hb_ hn_ hc_; have HS := Aside0.mk hs_; clear hs_) | ((with_reducible refine gate_dst (N := 1) rfl ?_); refine vec_Do.map_event ?hg (N := 1) ?hd ?hr ?_; (case hd => rfl); (case hg => rfl); (case hr => first | (go_simp; done) | (go_simp; rfl)); intro g w8 hs_; have HS := Aside0.mk hs_; clear hs_))
 repeat (go_quiet (first | (refine vec_Do.ins_event HS.out rfl _ _ _ _ _ rfl rfl rfl rfl (by rfl) (by simp) ?_; intro w8 hs_; clear HS; have HS := Aside0.mk hs_; clear hs_) | (go_at_call 26; refine (vec_Do.two _ _).mono ?_; rintro e w8 ⟨b, rfl, hc_, hn_, hb_⟩; have hs_ := HS.out.call hb_ hn_ hc_; clear HS hb_ hn_ hc_; have HS := Aside0.mk hs_; clear hs_) | (go_at_call 28; refine (vec_Do.asked _ _).mono ?_; rintro e w8 ⟨b, rfl, hc_, hn_, hb_⟩; have hs_ := HS.out.call hb_ hn_ hc_; clear HS hb_ hn_ hc_; have HS := Aside0.mk hs_; clear hs_) | ((with_reducible refine gate_dst (N := 1) rfl ?_); refine vec_Do.map_event ?hg (N := 1) ?hd ?hr ?_; (case hd => rfl); (case hg => rfl); (case hr => first | (go_simp; done) | (go_simp; rfl)); intro g w8 hs_; have HS := Aside0.mk hs_; clear hs_)); try go_wp2_with (first | (refine vec_Do.ins_event HS.out rfl _ _ _ _ _ rfl rfl rfl rfl (by rfl) (by simp) ?_; intro w8 hs_; clear HS; have HS := Aside0.mk hs_; clear hs_) | (go_at_call 26; refine (vec_Do.two _ _).mono ?_; rintro e w8 ⟨b, rfl, hc_, hn_, hb_⟩; have hs_ := HS.out.call hb_ hn_ hc_; clear HS hb_ hn_ hc_; have HS := Aside0.mk hs_; clear hs_) | (go_at_call 28; refine (vec_Do.asked _ _).mono ?_; rintro e w8 ⟨b, rfl, hc_, hn_, hb_⟩; have hs_ := HS.out.call hb_ hn_ hc_; clear HS hb_ hn_ hc_; have HS := Aside0.mk hs_; clear hs_) | ((with_reducible refine gate_dst (N := 1) rfl ?_); refine vec_Do.map_event ?hg (N := 1) ?hd ?hr ?_; (case hd => rfl); (case hg => rfl); (case hr => first | (go_simp; done) | (go_simp; rfl)); intro g w8 hs_; have HS := Aside0.mk hs_; clear hs_)))
 go_ret
 exact ⟨_, _, _, _, _, _, _, _, _, _, _, _, _, rfl, HS.out⟩
def vec_Do.f (a0_0 a0_1 a0_2 a0_3 a0_4 a0_5 a0_6 a1 a2 a3 a4 : Int) : Option (Int) := if (Lit.int .i64 a0_0).wf = true then (if a0_0 = 1 then (vec_works_1.f 1 a0_1 a0_2 a0_3 a0_4 a0_5 a0_6 a1 a2 a3 a4) else (if a0_0 = 3 then ((vec_works_2.f a1 a2).bind fun t => (vec_Mask.f a0_1).bind fun m => some (Go.bits .and .i64 t m)) else (if a0_0 = 4 then ((vec_works_3.f a1 a2).bind fun t => vec_flag.f t) else (if a0_0 = 5 then (vec_works_4.f 5 a0_1 a0_2 a0_3 a0_4 a0_5 a0_6 a1 a2 a3 a4) else (if a0_0 = 6 then ((vec_works_5.f a1 a2).bind fun t => (vec_Mask.f a0_1).bind fun m => some (Go.bits .and .i64 t m)) else (if a0_0 = 7 then ((vec_works_6.f a1 a2).bind fun t => (vec_Mask.f a0_1).bind fun m => some (Go.bits .and .i64 t m)) else (if a0_0 = 8 then ((vec_works_7.f a1 a2).bind fun t => (vec_Mask.f a0_1).bind fun m => some (Go.bits .and .i64 t m)) else (if a0_0 = 9 then ((vec_works_8.f a1 a2).bind fun t => (vec_Mask.f a0_1).bind fun m => some (Go.bits .and .i64 t m)) else (if a0_0 = 10 then ((vec_works_9.f a1 a2).bind fun t => (vec_Mask.f a0_1).bind fun m => some (Go.bits .and .i64 t m)) else (if a0_0 = 11 then ((vec_works_10.f a1 a2).bind fun t => (vec_Mask.f a0_1).bind fun m => some (Go.bits .and .i64 t m)) else (if a0_0 = 12 then ((vec_works_11.f a1 a2).bind fun t => vec_flag.f t) else (if a0_0 = 13 then ((vec_works_12.f a1 a2).bind fun t => vec_flag.f t) else (if a0_0 = 14 then ((vec_works_13.f a1 a2).bind fun t => vec_flag.f t) else (if a0_0 = 15 then ((vec_works_14.f a1 a2).bind fun t => vec_flag.f t) else (if a0_0 = 16 then (vec_works_15.f 16 a0_1 a0_2 a0_3 a0_4 a0_5 a0_6 a1 a2 a3 a4) else (if a0_0 = 17 then (vec_works_16.f 17 a0_1 a0_2 a0_3 a0_4 a0_5 a0_6 a1 a2 a3 a4) else (if a0_0 = 18 then (vec_works_17.f 18 a0_1 a0_2 a0_3 a0_4 a0_5 a0_6 a1 a2 a3 a4) else (some 0)))))))))))))))))) else none
set_option maxHeartbeats 8000000 in
set_option maxRecDepth 100000 in
theorem vec_Do.run (a0_0 a0_1 a0_2 a0_3 a0_4 a0_5 a0_6 a1 a2 a3 a4 : Int) (r : Int) (w : World) {F : FuncId} {fn : Func} (hf : Try.prog.funcs[F]? = some fn) (hname : (fn.name == "runtime.NumGoroutine") = false) (hb : fn.body.isSome = true)
  (hit : ∀ w0 g b2 b3 b5 b6 b7 b8 b9 b10 b11 b12 b13 b14 w8, vec_Do.St w0 g (vec_Do.kvs b2 b3 b5 b6 b7 b8 b9 b10 b11 b12 b13 b14) (vec_Do.fls b2 b3 b5 b6 b7 b8 b9 b10 b11 b12 b13 b14) w8 → ∃ cap, (Instr.lookup 46 (.map (some g)) (.int .i64 a0_0) true).run Try.prog w8 = .ok (.tuple #[.func (.func F) #[] cap, .bool true]) w8 ∧ Calls Try.prog F (#[.agg #[.int .i64 a0_0, .int .i64 a0_1, .int .i64 a0_2, .int .i64 a0_3, .int .i64 a0_4, .int .i64 a0_5, .int .i64 a0_6], .int .i64 a1, .int .i64 a2, .int .i64 a3, .int .i64 a4] ++ cap) w8 fun e w' => e = .returned (.int .i64 r) ∧ Below w8.heap.size w8 w') :
  Calls Try.prog 12 #[.agg #[.int .i64 a0_0, .int .i64 a0_1, .int .i64 a0_2, .int .i64 a0_3, .int .i64 a0_4, .int .i64 a0_5, .int .i64 a0_6], .int .i64 a1, .int .i64 a2, .int .i64 a3, .int .i64 a4] w fun e w' => e = .returned (.int .i64 r) ∧ Below w.heap.size w w' := by
 have hu_ := Try.underlying28
 have HB := Aside0.mk (Below.refl w.heap.size w)
 go_enter Try.func12, Try.ntmps12
 go_wp2_with (((with_reducible refine gate_dst (N := 5) rfl ?_); refine box_event ?hg (N := 5) ?hd (cs := #[.int .i64 a0_0, .int .i64 a0_1, .int .i64 a0_2, .int .i64 a0_3, .int .i64 a0_4, .int .i64 a0_5, .int .i64 a0_6]) (t := 28) ?hr ?_; (case hd => rfl); (case hg => rfl); (case hr => first | (go_simp; done) | (go_simp; rfl)); intro gb hg w9 hbox hb; have n0_ := Aside0.mk (below_step (by repeat (first | (with_reducible first | exact HB.out | apply below_alloc | apply pw_below_drewN | apply below_drew1) | exact HB.out)) hb); have n1_ := Aside0.mk (hbox); have n2_ := Aside0.mk ((by rw [hg]; exact (below_size (by repeat (first | (with_reducible first | exact HB.out | apply below_alloc | apply pw_below_drewN | apply below_drew1) | exact HB.out)))) : w.heap.size ≤ gb); clear HB; have HB := n0_; have BK := n1_; have GE := n2_; clear n0_ n1_ n2_; clear hb hbox hg; have hcz_0 : w9.cell? ⟨gb, 0, none⟩ = some (.int .i64 a0_0) := (blk_cell BK.out 0).trans rfl; have hfz_0 := blk_frozen BK.out 0; have hcz_1 : w9.cell? ⟨gb, 1, none⟩ = some (.int .i64 a0_1) := (blk_cell BK.out 1).trans rfl; have hfz_1 := blk_frozen BK.out 1; have hcz_2 : w9.cell? ⟨gb, 2, none⟩ = some (.int .i64 a0_2) := (blk_cell BK.out 2).trans rfl; have hfz_2 := blk_frozen BK.out 2; have hcz_3 : w9.cell? ⟨gb, 3, none⟩ = some (.int .i64 a0_3) := (blk_cell BK.out 3).trans rfl; have hfz_3 := blk_frozen BK.out 3; have hcz_4 : w9.cell? ⟨gb, 4, none⟩ = some (.int .i64 a0_4) := (blk_cell BK.out 4).trans rfl; have hfz_4 := blk_frozen BK.out 4; have hcz_5 : w9.cell? ⟨gb, 5, none⟩ = some (.int .i64 a0_5) := (blk_cell BK.out 5).trans rfl; have hfz_5 := blk_frozen BK.out 5; have hcz_6 : w9.cell? ⟨gb, 6, none⟩ = some (.int .i64 a0_6) := (blk_cell BK.out 6).trans rfl; have hfz_6 := blk_frozen BK.out 6))
 go_region_with ((go_at_call 21; refine (vec_Do.works _).mono ?_; rintro e w8 ⟨g, b2, b3, b5, b6, b7, b8, b9, b10, b11, b12, b13, b14, rfl, hs_⟩; have n0_ := Aside0.mk (blk_below (g := gb) (o := .cells #[.int .i64 a0_0, .int .i64 a0_1, .int .i64 a0_2, .int .i64 a0_3, .int .i64 a0_4, .int .i64 a0_5, .int .i64 a0_6] 28 (0, 0)) (by (with_reducible repeat (first | refine blk_drewN ?_ _ | refine blk_drew ?_ | refine blk_alloc ?_ _)); exact BK.out) hs_.below); have n1_ := Aside0.mk (below_step (by repeat (first | (with_reducible first | exact HB.out | apply below_alloc | apply pw_below_drewN | apply below_drew1) | exact HB.out)) hs_.below); clear BK; clear HB; have BK := n0_; have HB := n1_; clear n0_ n1_; obtain ⟨cap, hlk, hgo⟩ := hit _ _ _ _ _ _ _ _ _ _ _ _ _ _ _ hs_; have hent := enters_ hf hname hb (#[.agg #[.int .i64 a0_0, .int .i64 a0_1, .int .i64 a0_2, .int .i64 a0_3, .int .i64 a0_4, .int .i64 a0_5, .int .i64 a0_6], .int .i64 a1, .int .i64 a2, .int .i64 a3, .int .i64 a4] ++ cap) w8; clear hs_; have hcy_0 : w8.cell? ⟨gb, 0, none⟩ = some (.int .i64 a0_0) := (blk_cell BK.out 0).trans rfl; have hfy_0 := blk_frozen BK.out 0; have hcy_1 : w8.cell? ⟨gb, 1, none⟩ = some (.int .i64 a0_1) := (blk_cell BK.out 1).trans rfl; have hfy_1 := blk_frozen BK.out 1; have hcy_2 : w8.cell? ⟨gb, 2, none⟩ = some (.int .i64 a0_2) := (blk_cell BK.out 2).trans rfl; have hfy_2 := blk_frozen BK.out 2; have hcy_3 : w8.cell? ⟨gb, 3, none⟩ = some (.int .i64 a0_3) := (blk_cell BK.out 3).trans rfl; have hfy_3 := blk_frozen BK.out 3; have hcy_4 : w8.cell? ⟨gb, 4, none⟩ = some (.int .i64 a0_4) := (blk_cell BK.out 4).trans rfl; have hfy_4 := blk_frozen BK.out 4; have hcy_5 : w8.cell? ⟨gb, 5, none⟩ = some (.int .i64 a0_5) := (blk_cell BK.out 5).trans rfl; have hfy_5 := blk_frozen BK.out 5; have hcy_6 : w8.cell? ⟨gb, 6, none⟩ = some (.int .i64 a0_6) := (blk_cell BK.out 6).trans rfl; have hfy_6 := blk_frozen BK.out 6))
 all_goals go_wp2_with (((with_reducible refine hgo.mono ?_); rintro e w3 ⟨rfl, hb⟩; have n1_ := Aside0.mk (below_step (by repeat (first | (with_reducible first | exact HB.out | apply below_alloc | apply pw_below_drewN | apply below_drew1) | exact HB.out)) hb); clear HB; have HB := n1_; clear n1_ hb))
 all_goals go_ret
 all_goals exact ⟨by first | rfl | (simp [errW_none, errW_some] <;> rfl) | (simp [*, errW_none, errW_some] <;> rfl), by repeat (first | (with_reducible first | exact HB.out | apply below_alloc | apply pw_below_drewN | apply below_drew1) | exact HB.out)⟩
set_option maxHeartbeats 8000000 in
set_option maxRecDepth 100000 in
theorem vec_Do.run0 (a0_0 a0_1 a0_2 a0_3 a0_4 a0_5 a0_6 a1 a2 a3 a4 : Int) (r : Int) (w : World) (h0 : r = 0) (miss : ∀ w0 g b2 b3 b5 b6 b7 b8 b9 b10 b11 b12 b13 b14 w8, vec_Do.St w0 g (vec_Do.kvs b2 b3 b5 b6 b7 b8 b9 b10 b11 b12 b13 b14) (vec_Do.fls b2 b3 b5 b6 b7 b8 b9 b10 b11 b12 b13 b14) w8 → (Instr.lookup 46 (.map (some g)) (.int .i64 a0_0) true).run Try.prog w8 = .ok (.tuple #[.nilFunc, .bool false]) w8) :
  Calls Try.prog 12 #[.agg #[.int .i64 a0_0, .int .i64 a0_1, .int .i64 a0_2, .int .i64 a0_3, .int .i64 a0_4, .int .i64 a0_5, .int .i64 a0_6], .int .i64 a1, .int .i64 a2, .int .i64 a3, .int .i64 a4] w fun e w' => e = .returned (.int .i64 r) ∧ Below w.heap.size w w' := by
 subst h0
 have hu_ := Try.underlying28
 have HB := Aside0.mk (Below.refl w.heap.size w)
 go_enter Try.func12, Try.ntmps12
 go_wp2_with (((with_reducible refine gate_dst (N := 5) rfl ?_); refine box_event ?hg (N := 5) ?hd (cs := #[.int .i64 a0_0, .int .i64 a0_1, .int .i64 a0_2, .int .i64 a0_3, .int .i64 a0_4, .int .i64 a0_5, .int .i64 a0_6]) (t := 28) ?hr ?_; (case hd => rfl); (case hg => rfl); (case hr => first | (go_simp; done) | (go_simp; rfl)); intro gb hg w9 hbox hb; have n0_ := Aside0.mk (below_step (by repeat (first | (with_reducible first | exact HB.out | apply below_alloc | apply pw_below_drewN | apply below_drew1) | exact HB.out)) hb); have n1_ := Aside0.mk (hbox); have n2_ := Aside0.mk ((by rw [hg]; exact (below_size (by repeat (first | (with_reducible first | exact HB.out | apply below_alloc | apply pw_below_drewN | apply below_drew1) | exact HB.out)))) : w.heap.size ≤ gb); clear HB; have HB := n0_; have BK := n1_; have GE := n2_; clear n0_ n1_ n2_; clear hb hbox hg; have hcz_0 : w9.cell? ⟨gb, 0, none⟩ = some (.int .i64 a0_0) := (blk_cell BK.out 0).trans rfl; have hfz_0 := blk_frozen BK.out 0; have hcz_1 : w9.cell? ⟨gb, 1, none⟩ = some (.int .i64 a0_1) := (blk_cell BK.out 1).trans rfl; have hfz_1 := blk_frozen BK.out 1; have hcz_2 : w9.cell? ⟨gb, 2, none⟩ = some (.int .i64 a0_2) := (blk_cell BK.out 2).trans rfl; have hfz_2 := blk_frozen BK.out 2; have hcz_3 : w9.cell? ⟨gb, 3, none⟩ = some (.int .i64 a0_3) := (blk_cell BK.out 3).trans rfl; have hfz_3 := blk_frozen BK.out 3; have hcz_4 : w9.cell? ⟨gb, 4, none⟩ = some (.int .i64 a0_4) := (blk_cell BK.out 4).trans rfl; have hfz_4 := blk_frozen BK.out 4; have hcz_5 : w9.cell? ⟨gb, 5, none⟩ = some (.int .i64 a0_5) := (blk_cell BK.out 5).trans rfl; have hfz_5 := blk_frozen BK.out 5; have hcz_6 : w9.cell? ⟨gb, 6, none⟩ = some (.int .i64 a0_6) := (blk_cell BK.out 6).trans rfl; have hfz_6 := blk_frozen BK.out 6))
 go_region_with ((go_at_call 21; refine (vec_Do.works _).mono ?_; rintro e w8 ⟨g, b2, b3, b5, b6, b7, b8, b9, b10, b11, b12, b13, b14, rfl, hs_⟩; have n0_ := Aside0.mk (blk_below (g := gb) (o := .cells #[.int .i64 a0_0, .int .i64 a0_1, .int .i64 a0_2, .int .i64 a0_3, .int .i64 a0_4, .int .i64 a0_5, .int .i64 a0_6] 28 (0, 0)) (by (with_reducible repeat (first | refine blk_drewN ?_ _ | refine blk_drew ?_ | refine blk_alloc ?_ _)); exact BK.out) hs_.below); have n1_ := Aside0.mk (below_step (by repeat (first | (with_reducible first | exact HB.out | apply below_alloc | apply pw_below_drewN | apply below_drew1) | exact HB.out)) hs_.below); clear BK; clear HB; have BK := n0_; have HB := n1_; clear n0_ n1_; have hlk := miss _ _ _ _ _ _ _ _ _ _ _ _ _ _ _ hs_; clear hs_; have hcy_0 : w8.cell? ⟨gb, 0, none⟩ = some (.int .i64 a0_0) := (blk_cell BK.out 0).trans rfl; have hfy_0 := blk_frozen BK.out 0; have hcy_1 : w8.cell? ⟨gb, 1, none⟩ = some (.int .i64 a0_1) := (blk_cell BK.out 1).trans rfl; have hfy_1 := blk_frozen BK.out 1; have hcy_2 : w8.cell? ⟨gb, 2, none⟩ = some (.int .i64 a0_2) := (blk_cell BK.out 2).trans rfl; have hfy_2 := blk_frozen BK.out 2; have hcy_3 : w8.cell? ⟨gb, 3, none⟩ = some (.int .i64 a0_3) := (blk_cell BK.out 3).trans rfl; have hfy_3 := blk_frozen BK.out 3; have hcy_4 : w8.cell? ⟨gb, 4, none⟩ = some (.int .i64 a0_4) := (blk_cell BK.out 4).trans rfl; have hfy_4 := blk_frozen BK.out 4; have hcy_5 : w8.cell? ⟨gb, 5, none⟩ = some (.int .i64 a0_5) := (blk_cell BK.out 5).trans rfl; have hfy_5 := blk_frozen BK.out 5; have hcy_6 : w8.cell? ⟨gb, 6, none⟩ = some (.int .i64 a0_6) := (blk_cell BK.out 6).trans rfl; have hfy_6 := blk_frozen BK.out 6))
 all_goals go_wp2_with (fail)
 all_goals go_ret
 all_goals exact ⟨by first | rfl | (simp [errW_none, errW_some] <;> rfl) | (simp [*, errW_none, errW_some] <;> rfl), by repeat (first | (with_reducible first | exact HB.out | apply below_alloc | apply pw_below_drewN | apply below_drew1) | exact HB.out)⟩
theorem vec_Do.calls_1 (a0_1 a0_2 a0_3 a0_4 a0_5 a0_6 a1 a2 a3 a4 : Int) (r : Int) (w : World) (h : (vec_works_1.f 1 a0_1 a0_2 a0_3 a0_4 a0_5 a0_6 a1 a2 a3 a4) = some r) :
  Calls Try.prog 12 #[.agg #[.int .i64 1, .int .i64 a0_1, .int .i64 a0_2, .int .i64 a0_3, .int .i64 a0_4, .int .i64 a0_5, .int .i64 a0_6], .int .i64 a1, .int .i64 a2, .int .i64 a3, .int .i64 a4] w fun e w' => e = .returned (.int .i64 r) ∧ Below w.heap.size w w' := by
 exact vec_Do.run 1 a0_1 a0_2 a0_3 a0_4 a0_5 a0_6 a1 a2 a3 a4 _ w Try.func25 (by kernel_rfl) rfl fun _ _ b2 b3 b5 b6 b7 b8 b9 b10 b11 b12 b13 b14 _ hs => ⟨#[], hs.tm.hit (by rfl) (by simp [vec_Do.kvs]) (by simp [vec_Do.kvs]), calls_of_args (by rfl) ((vec_works_1.calls 1 a0_1 a0_2 a0_3 a0_4 a0_5 a0_6 a1 a2 a3 a4 r _ h).mono fun e w' h' => h')⟩
theorem vec_Do.calls_2 (a0_1 a0_2 a0_3 a0_4 a0_5 a0_6 a1 a2 a3 a4 : Int) (r : Int) (w : World) (h : ((vec_works_2.f a1 a2).bind fun t => (vec_Mask.f a0_1).bind fun m => some (Go.bits .and .i64 t m)) = some r) :
  Calls Try.prog 12 #[.agg #[.int .i64 3, .int .i64 a0_1, .int .i64 a0_2, .int .i64 a0_3, .int .i64 a0_4, .int .i64 a0_5, .int .i64 a0_6], .int .i64 a1, .int .i64 a2, .int .i64 a3, .int .i64 a4] w fun e w' => e = .returned (.int .i64 r) ∧ Below w.heap.size w w' := by
 replace h := Option.bind_eq_some_iff.mp h
 obtain ⟨t, h1, h⟩ := h
 replace h := Option.bind_eq_some_iff.mp h
 obtain ⟨m, h2, h⟩ := h
 obtain rfl := Option.some.inj h
 exact vec_Do.run 3 a0_1 a0_2 a0_3 a0_4 a0_5 a0_6 a1 a2 a3 a4 _ w Try.func44 (by kernel_rfl) rfl fun _ _ b2 b3 b5 b6 b7 b8 b9 b10 b11 b12 b13 b14 _ hs => ⟨#[.pointer (some ⟨b2, 0, none⟩)], hs.tm.hit (by rfl) (by simp [vec_Do.kvs]) (by simp [vec_Do.kvs]), calls_of_args (by rfl) ((vec_Do.by_2 3 a0_1 a0_2 a0_3 a0_4 a0_5 a0_6 a1 a2 a3 a4 t m b2 _ (hs.fns (b2, 27, 50) (by simp [vec_Do.fls])).2 h1 h2).mono fun e w' h' => h')⟩
theorem vec_Do.calls_3 (a0_1 a0_2 a0_3 a0_4 a0_5 a0_6 a1 a2 a3 a4 : Int) (r : Int) (w : World) (h : ((vec_works_3.f a1 a2).bind fun t => vec_flag.f t) = some r) :
  Calls Try.prog 12 #[.agg #[.int .i64 4, .int .i64 a0_1, .int .i64 a0_2, .int .i64 a0_3, .int .i64 a0_4, .int .i64 a0_5, .int .i64 a0_6], .int .i64 a1, .int .i64 a2, .int .i64 a3, .int .i64 a4] w fun e w' => e = .returned (.int .i64 r) ∧ Below w.heap.size w w' := by
 replace h := Option.bind_eq_some_iff.mp h
 obtain ⟨t, h1, h⟩ := h
 exact vec_Do.run 4 a0_1 a0_2 a0_3 a0_4 a0_5 a0_6 a1 a2 a3 a4 _ w Try.func45 (by kernel_rfl) rfl fun _ _ b2 b3 b5 b6 b7 b8 b9 b10 b11 b12 b13 b14 _ hs => ⟨#[.pointer (some ⟨b3, 0, none⟩)], hs.tm.hit (by rfl) (by simp [vec_Do.kvs]) (by simp [vec_Do.kvs]), calls_of_args (by rfl) ((vec_Do.by_3 4 a0_1 a0_2 a0_3 a0_4 a0_5 a0_6 a1 a2 a3 a4 t r b3 _ (hs.fns (b3, 29, 52) (by simp [vec_Do.fls])).2 h1 h).mono fun e w' h' => h')⟩
theorem vec_Do.calls_4 (a0_1 a0_2 a0_3 a0_4 a0_5 a0_6 a1 a2 a3 a4 : Int) (r : Int) (w : World) (h : (vec_works_4.f 5 a0_1 a0_2 a0_3 a0_4 a0_5 a0_6 a1 a2 a3 a4) = some r) :
  Calls Try.prog 12 #[.agg #[.int .i64 5, .int .i64 a0_1, .int .i64 a0_2, .int .i64 a0_3, .int .i64 a0_4, .int .i64 a0_5, .int .i64 a0_6], .int .i64 a1, .int .i64 a2, .int .i64 a3, .int .i64 a4] w fun e w' => e = .returned (.int .i64 r) ∧ Below w.heap.size w w' := by
 exact vec_Do.run 5 a0_1 a0_2 a0_3 a0_4 a0_5 a0_6 a1 a2 a3 a4 _ w Try.func30 (by kernel_rfl) rfl fun _ _ b2 b3 b5 b6 b7 b8 b9 b10 b11 b12 b13 b14 _ hs => ⟨#[], hs.tm.hit (by rfl) (by simp [vec_Do.kvs]) (by simp [vec_Do.kvs]), calls_of_args (by rfl) ((vec_works_4.calls 5 a0_1 a0_2 a0_3 a0_4 a0_5 a0_6 a1 a2 a3 a4 r _ h).mono fun e w' h' => h')⟩
theorem vec_Do.calls_5 (a0_1 a0_2 a0_3 a0_4 a0_5 a0_6 a1 a2 a3 a4 : Int) (r : Int) (w : World) (h : ((vec_works_5.f a1 a2).bind fun t => (vec_Mask.f a0_1).bind fun m => some (Go.bits .and .i64 t m)) = some r) :
  Calls Try.prog 12 #[.agg #[.int .i64 6, .int .i64 a0_1, .int .i64 a0_2, .int .i64 a0_3, .int .i64 a0_4, .int .i64 a0_5, .int .i64 a0_6], .int .i64 a1, .int .i64 a2, .int .i64 a3, .int .i64 a4] w fun e w' => e = .returned (.int .i64 r) ∧ Below w.heap.size w w' := by
 replace h := Option.bind_eq_some_iff.mp h
 obtain ⟨t, h1, h⟩ := h
 replace h := Option.bind_eq_some_iff.mp h
 obtain ⟨m, h2, h⟩ := h
 obtain rfl := Option.some.inj h
 exact vec_Do.run 6 a0_1 a0_2 a0_3 a0_4 a0_5 a0_6 a1 a2 a3 a4 _ w Try.func44 (by kernel_rfl) rfl fun _ _ b2 b3 b5 b6 b7 b8 b9 b10 b11 b12 b13 b14 _ hs => ⟨#[.pointer (some ⟨b5, 0, none⟩)], hs.tm.hit (by rfl) (by simp [vec_Do.kvs]) (by simp [vec_Do.kvs]), calls_of_args (by rfl) ((vec_Do.by_5 6 a0_1 a0_2 a0_3 a0_4 a0_5 a0_6 a1 a2 a3 a4 t m b5 _ (hs.fns (b5, 31, 50) (by simp [vec_Do.fls])).2 h1 h2).mono fun e w' h' => h')⟩
theorem vec_Do.calls_6 (a0_1 a0_2 a0_3 a0_4 a0_5 a0_6 a1 a2 a3 a4 : Int) (r : Int) (w : World) (h : ((vec_works_6.f a1 a2).bind fun t => (vec_Mask.f a0_1).bind fun m => some (Go.bits .and .i64 t m)) = some r) :
  Calls Try.prog 12 #[.agg #[.int .i64 7, .int .i64 a0_1, .int .i64 a0_2, .int .i64 a0_3, .int .i64 a0_4, .int .i64 a0_5, .int .i64 a0_6], .int .i64 a1, .int .i64 a2, .int .i64 a3, .int .i64 a4] w fun e w' => e = .returned (.int .i64 r) ∧ Below w.heap.size w w' := by
 replace h := Option.bind_eq_some_iff.mp h
 obtain ⟨t, h1, h⟩ := h
 replace h := Option.bind_eq_some_iff.mp h
 obtain ⟨m, h2, h⟩ := h
 obtain rfl := Option.some.inj h
 exact vec_Do.run 7 a0_1 a0_2 a0_3 a0_4 a0_5 a0_6 a1 a2 a3 a4 _ w Try.func44 (by kernel_rfl) rfl fun _ _ b2 b3 b5 b6 b7 b8 b9 b10 b11 b12 b13 b14 _ hs => ⟨#[.pointer (some ⟨b6, 0, none⟩)], hs.tm.hit (by rfl) (by simp [vec_Do.kvs]) (by simp [vec_Do.kvs]), calls_of_args (by rfl) ((vec_Do.by_6 7 a0_1 a0_2 a0_3 a0_4 a0_5 a0_6 a1 a2 a3 a4 t m b6 _ (hs.fns (b6, 32, 50) (by simp [vec_Do.fls])).2 h1 h2).mono fun e w' h' => h')⟩
theorem vec_Do.calls_7 (a0_1 a0_2 a0_3 a0_4 a0_5 a0_6 a1 a2 a3 a4 : Int) (r : Int) (w : World) (h : ((vec_works_7.f a1 a2).bind fun t => (vec_Mask.f a0_1).bind fun m => some (Go.bits .and .i64 t m)) = some r) :
  Calls Try.prog 12 #[.agg #[.int .i64 8, .int .i64 a0_1, .int .i64 a0_2, .int .i64 a0_3, .int .i64 a0_4, .int .i64 a0_5, .int .i64 a0_6], .int .i64 a1, .int .i64 a2, .int .i64 a3, .int .i64 a4] w fun e w' => e = .returned (.int .i64 r) ∧ Below w.heap.size w w' := by
 replace h := Option.bind_eq_some_iff.mp h
 obtain ⟨t, h1, h⟩ := h
 replace h := Option.bind_eq_some_iff.mp h
 obtain ⟨m, h2, h⟩ := h
 obtain rfl := Option.some.inj h
 exact vec_Do.run 8 a0_1 a0_2 a0_3 a0_4 a0_5 a0_6 a1 a2 a3 a4 _ w Try.func44 (by kernel_rfl) rfl fun _ _ b2 b3 b5 b6 b7 b8 b9 b10 b11 b12 b13 b14 _ hs => ⟨#[.pointer (some ⟨b7, 0, none⟩)], hs.tm.hit (by rfl) (by simp [vec_Do.kvs]) (by simp [vec_Do.kvs]), calls_of_args (by rfl) ((vec_Do.by_7 8 a0_1 a0_2 a0_3 a0_4 a0_5 a0_6 a1 a2 a3 a4 t m b7 _ (hs.fns (b7, 33, 50) (by simp [vec_Do.fls])).2 h1 h2).mono fun e w' h' => h')⟩
theorem vec_Do.calls_8 (a0_1 a0_2 a0_3 a0_4 a0_5 a0_6 a1 a2 a3 a4 : Int) (r : Int) (w : World) (h : ((vec_works_8.f a1 a2).bind fun t => (vec_Mask.f a0_1).bind fun m => some (Go.bits .and .i64 t m)) = some r) :
  Calls Try.prog 12 #[.agg #[.int .i64 9, .int .i64 a0_1, .int .i64 a0_2, .int .i64 a0_3, .int .i64 a0_4, .int .i64 a0_5, .int .i64 a0_6], .int .i64 a1, .int .i64 a2, .int .i64 a3, .int .i64 a4] w fun e w' => e = .returned (.int .i64 r) ∧ Below w.heap.size w w' := by
 replace h := Option.bind_eq_some_iff.mp h
 obtain ⟨t, h1, h⟩ := h
 replace h := Option.bind_eq_some_iff.mp h
 obtain ⟨m, h2, h⟩ := h
 obtain rfl := Option.some.inj h
 exact vec_Do.run 9 a0_1 a0_2 a0_3 a0_4 a0_5 a0_6 a1 a2 a3 a4 _ w Try.func44 (by kernel_rfl) rfl fun _ _ b2 b3 b5 b6 b7 b8 b9 b10 b11 b12 b13 b14 _ hs => ⟨#[.pointer (some ⟨b8, 0, none⟩)], hs.tm.hit (by rfl) (by simp [vec_Do.kvs]) (by simp [vec_Do.kvs]), calls_of_args (by rfl) ((vec_Do.by_8 9 a0_1 a0_2 a0_3 a0_4 a0_5 a0_6 a1 a2 a3 a4 t m b8 _ (hs.fns (b8, 34, 50) (by simp [vec_Do.fls])).2 h1 h2).mono fun e w' h' => h')⟩
theorem vec_Do.calls_9 (a0_1 a0_2 a0_3 a0_4 a0_5 a0_6 a1 a2 a3 a4 : Int) (r : Int) (w : World) (h : ((vec_works_9.f a1 a2).bind fun t => (vec_Mask.f a0_1).bind fun m => some (Go.bits .and .i64 t m)) = some r) :
  Calls Try.prog 12 #[.agg #[.int .i64 10, .int .i64 a0_1, .int .i64 a0_2, .int .i64 a0_3, .int .i64 a0_4, .int .i64 a0_5, .int .i64 a0_6], .int .i64 a1, .int .i64 a2, .int .i64 a3, .int .i64 a4] w fun e w' => e = .returned (.int .i64 r) ∧ Below w.heap.size w w' := by
 replace h := Option.bind_eq_some_iff.mp h
 obtain ⟨t, h1, h⟩ := h
 replace h := Option.bind_eq_some_iff.mp h
 obtain ⟨m, h2, h⟩ := h
 obtain rfl := Option.some.inj h
 exact vec_Do.run 10 a0_1 a0_2 a0_3 a0_4 a0_5 a0_6 a1 a2 a3 a4 _ w Try.func44 (by kernel_rfl) rfl fun _ _ b2 b3 b5 b6 b7 b8 b9 b10 b11 b12 b13 b14 _ hs => ⟨#[.pointer (some ⟨b9, 0, none⟩)], hs.tm.hit (by rfl) (by simp [vec_Do.kvs]) (by simp [vec_Do.kvs]), calls_of_args (by rfl) ((vec_Do.by_9 10 a0_1 a0_2 a0_3 a0_4 a0_5 a0_6 a1 a2 a3 a4 t m b9 _ (hs.fns (b9, 35, 50) (by simp [vec_Do.fls])).2 h1 h2).mono fun e w' h' => h')⟩
theorem vec_Do.calls_10 (a0_1 a0_2 a0_3 a0_4 a0_5 a0_6 a1 a2 a3 a4 : Int) (r : Int) (w : World) (h : ((vec_works_10.f a1 a2).bind fun t => (vec_Mask.f a0_1).bind fun m => some (Go.bits .and .i64 t m)) = some r) :
  Calls Try.prog 12 #[.agg #[.int .i64 11, .int .i64 a0_1, .int .i64 a0_2, .int .i64 a0_3, .int .i64 a0_4, .int .i64 a0_5, .int .i64 a0_6], .int .i64 a1, .int .i64 a2, .int .i64 a3, .int .i64 a4] w fun e w' => e = .returned (.int .i64 r) ∧ Below w.heap.size w w' := by
 replace h := Option.bind_eq_some_iff.mp h
 obtain ⟨t, h1, h⟩ := h
 replace h := Option.bind_eq_some_iff.mp h
 obtain ⟨m, h2, h⟩ := h
 obtain rfl := Option.some.inj h
 exact vec_Do.run 11 a0_1 a0_2 a0_3 a0_4 a0_5 a0_6 a1 a2 a3 a4 _ w Try.func44 (by kernel_rfl) rfl fun _ _ b2 b3 b5 b6 b7 b8 b9 b10 b11 b12 b13 b14 _ hs => ⟨#[.pointer (some ⟨b10, 0, none⟩)], hs.tm.hit (by rfl) (by simp [vec_Do.kvs]) (by simp [vec_Do.kvs]), calls_of_args (by rfl) ((vec_Do.by_10 11 a0_1 a0_2 a0_3 a0_4 a0_5 a0_6 a1 a2 a3 a4 t m b10 _ (hs.fns (b10, 36, 50) (by simp [vec_Do.fls])).2 h1 h2).mono fun e w' h' => h')⟩
theorem vec_Do.calls_11 (a0_1 a0_2 a0_3 a0_4 a0_5 a0_6 a1 a2 a3 a4 : Int) (r : Int) (w : World) (h : ((vec_works_11.f a1 a2).bind fun t => vec_flag.f t) = some r) :
  Calls Try.prog 12 #[.agg #[.int .i64 12, .int .i64 a0_1, .int .i64 a0_2, .int .i64 a0_3, .int .i64 a0_4, .int .i64 a0_5, .int .i64 a0_6], .int .i64 a1, .int .i64 a2, .int .i64 a3, .int .i64 a4] w fun e w' => e = .returned (.int .i64 r) ∧ Below w.heap.size w w' := by
 replace h := Option.bind_eq_some_iff.mp h
 obtain ⟨t, h1, h⟩ := h
 exact vec_Do.run 12 a0_1 a0_2 a0_3 a0_4 a0_5 a0_6 a1 a2 a3 a4 _ w Try.func45 (by kernel_rfl) rfl fun _ _ b2 b3 b5 b6 b7 b8 b9 b10 b11 b12 b13 b14 _ hs => ⟨#[.pointer (some ⟨b11, 0, none⟩)], hs.tm.hit (by rfl) (by simp [vec_Do.kvs]) (by simp [vec_Do.kvs]), calls_of_args (by rfl) ((vec_Do.by_11 12 a0_1 a0_2 a0_3 a0_4 a0_5 a0_6 a1 a2 a3 a4 t r b11 _ (hs.fns (b11, 37, 52) (by simp [vec_Do.fls])).2 h1 h).mono fun e w' h' => h')⟩
theorem vec_Do.calls_12 (a0_1 a0_2 a0_3 a0_4 a0_5 a0_6 a1 a2 a3 a4 : Int) (r : Int) (w : World) (h : ((vec_works_12.f a1 a2).bind fun t => vec_flag.f t) = some r) :
  Calls Try.prog 12 #[.agg #[.int .i64 13, .int .i64 a0_1, .int .i64 a0_2, .int .i64 a0_3, .int .i64 a0_4, .int .i64 a0_5, .int .i64 a0_6], .int .i64 a1, .int .i64 a2, .int .i64 a3, .int .i64 a4] w fun e w' => e = .returned (.int .i64 r) ∧ Below w.heap.size w w' := by
 replace h := Option.bind_eq_some_iff.mp h
 obtain ⟨t, h1, h⟩ := h
 exact vec_Do.run 13 a0_1 a0_2 a0_3 a0_4 a0_5 a0_6 a1 a2 a3 a4 _ w Try.func45 (by kernel_rfl) rfl fun _ _ b2 b3 b5 b6 b7 b8 b9 b10 b11 b12 b13 b14 _ hs => ⟨#[.pointer (some ⟨b12, 0, none⟩)], hs.tm.hit (by rfl) (by simp [vec_Do.kvs]) (by simp [vec_Do.kvs]), calls_of_args (by rfl) ((vec_Do.by_12 13 a0_1 a0_2 a0_3 a0_4 a0_5 a0_6 a1 a2 a3 a4 t r b12 _ (hs.fns (b12, 38, 52) (by simp [vec_Do.fls])).2 h1 h).mono fun e w' h' => h')⟩
theorem vec_Do.calls_13 (a0_1 a0_2 a0_3 a0_4 a0_5 a0_6 a1 a2 a3 a4 : Int) (r : Int) (w : World) (h : ((vec_works_13.f a1 a2).bind fun t => vec_flag.f t) = some r) :
  Calls Try.prog 12 #[.agg #[.int .i64 14, .int .i64 a0_1, .int .i64 a0_2, .int .i64 a0_3, .int .i64 a0_4, .int .i64 a0_5, .int .i64 a0_6], .int .i64 a1, .int .i64 a2, .int .i64 a3, .int .i64 a4] w fun e w' => e = .returned (.int .i64 r) ∧ Below w.heap.size w w' := by
 replace h := Option.bind_eq_some_iff.mp h
 obtain ⟨t, h1, h⟩ := h
 exact vec_Do.run 14 a0_1 a0_2 a0_3 a0_4 a0_5 a0_6 a1 a2 a3 a4 _ w Try.func45 (by kernel_rfl) rfl fun _ _ b2 b3 b5 b6 b7 b8 b9 b10 b11 b12 b13 b14 _ hs => ⟨#[.pointer (some ⟨b13, 0, none⟩)], hs.tm.hit (by rfl) (by simp [vec_Do.kvs]) (by simp [vec_Do.kvs]), calls_of_args (by rfl) ((vec_Do.by_13 14 a0_1 a0_2 a0_3 a0_4 a0_5 a0_6 a1 a2 a3 a4 t r b13 _ (hs.fns (b13, 39, 52) (by simp [vec_Do.fls])).2 h1 h).mono fun e w' h' => h')⟩
theorem vec_Do.calls_14 (a0_1 a0_2 a0_3 a0_4 a0_5 a0_6 a1 a2 a3 a4 : Int) (r : Int) (w : World) (h : ((vec_works_14.f a1 a2).bind fun t => vec_flag.f t) = some r) :
  Calls Try.prog 12 #[.agg #[.int .i64 15, .int .i64 a0_1, .int .i64 a0_2, .int .i64 a0_3, .int .i64 a0_4, .int .i64 a0_5, .int .i64 a0_6], .int .i64 a1, .int .i64 a2, .int .i64 a3, .int .i64 a4] w fun e w' => e = .returned (.int .i64 r) ∧ Below w.heap.size w w' := by
 replace h := Option.bind_eq_some_iff.mp h
 obtain ⟨t, h1, h⟩ := h
 exact vec_Do.run 15 a0_1 a0_2 a0_3 a0_4 a0_5 a0_6 a1 a2 a3 a4 _ w Try.func45 (by kernel_rfl) rfl fun _ _ b2 b3 b5 b6 b7 b8 b9 b10 b11 b12 b13 b14 _ hs => ⟨#[.pointer (some ⟨b14, 0, none⟩)], hs.tm.hit (by rfl) (by simp [vec_Do.kvs]) (by simp [vec_Do.kvs]), calls_of_args (by rfl) ((vec_Do.by_14 15 a0_1 a0_2 a0_3 a0_4 a0_5 a0_6 a1 a2 a3 a4 t r b14 _ (hs.fns (b14, 40, 52) (by simp [vec_Do.fls])).2 h1 h).mono fun e w' h' => h')⟩
theorem vec_Do.calls_15 (a0_1 a0_2 a0_3 a0_4 a0_5 a0_6 a1 a2 a3 a4 : Int) (r : Int) (w : World) (h : (vec_works_15.f 16 a0_1 a0_2 a0_3 a0_4 a0_5 a0_6 a1 a2 a3 a4) = some r) :
  Calls Try.prog 12 #[.agg #[.int .i64 16, .int .i64 a0_1, .int .i64 a0_2, .int .i64 a0_3, .int .i64 a0_4, .int .i64 a0_5, .int .i64 a0_6], .int .i64 a1, .int .i64 a2, .int .i64 a3, .int .i64 a4] w fun e w' => e = .returned (.int .i64 r) ∧ Below w.heap.size w w' := by
 exact vec_Do.run 16 a0_1 a0_2 a0_3 a0_4 a0_5 a0_6 a1 a2 a3 a4 _ w Try.func41 (by kernel_rfl) rfl fun _ _ b2 b3 b5 b6 b7 b8 b9 b10 b11 b12 b13 b14 _ hs => ⟨#[], hs.tm.hit (by rfl) (by simp [vec_Do.kvs]) (by simp [vec_Do.kvs]), calls_of_args (by rfl) ((vec_works_15.calls 16 a0_1 a0_2 a0_3 a0_4 a0_5 a0_6 a1 a2 a3 a4 r _ h).mono fun e w' h' => h')⟩
theorem vec_Do.calls_16 (a0_1 a0_2 a0_3 a0_4 a0_5 a0_6 a1 a2 a3 a4 : Int) (r : Int) (w : World) (h : (vec_works_16.f 17 a0_1 a0_2 a0_3 a0_4 a0_5 a0_6 a1 a2 a3 a4) = some r) :
  Calls Try.prog 12 #[.agg #[.int .i64 17, .int .i64 a0_1, .int .i64 a0_2, .int .i64 a0_3, .int .i64 a0_4, .int .i64 a0_5, .int .i64 a0_6], .int .i64 a1, .int .i64 a2, .int .i64 a3, .int .i64 a4] w fun e w' => e = .returned (.int .i64 r) ∧ Below w.heap.size w w' := by
 exact vec_Do.run 17 a0_1 a0_2 a0_3 a0_4 a0_5 a0_6 a1 a2 a3 a4 _ w Try.func42 (by kernel_rfl) rfl fun _ _ b2 b3 b5 b6 b7 b8 b9 b10 b11 b12 b13 b14 _ hs => ⟨#[], hs.tm.hit (by rfl) (by simp [vec_Do.kvs]) (by simp [vec_Do.kvs]), calls_of_args (by rfl) ((vec_works_16.calls 17 a0_1 a0_2 a0_3 a0_4 a0_5 a0_6 a1 a2 a3 a4 r _ h).mono fun e w' h' => h')⟩
theorem vec_Do.calls_17 (a0_1 a0_2 a0_3 a0_4 a0_5 a0_6 a1 a2 a3 a4 : Int) (r : Int) (w : World) (h : (vec_works_17.f 18 a0_1 a0_2 a0_3 a0_4 a0_5 a0_6 a1 a2 a3 a4) = some r) :
  Calls Try.prog 12 #[.agg #[.int .i64 18, .int .i64 a0_1, .int .i64 a0_2, .int .i64 a0_3, .int .i64 a0_4, .int .i64 a0_5, .int .i64 a0_6], .int .i64 a1, .int .i64 a2, .int .i64 a3, .int .i64 a4] w fun e w' => e = .returned (.int .i64 r) ∧ Below w.heap.size w w' := by
 exact vec_Do.run 18 a0_1 a0_2 a0_3 a0_4 a0_5 a0_6 a1 a2 a3 a4 _ w Try.func43 (by kernel_rfl) rfl fun _ _ b2 b3 b5 b6 b7 b8 b9 b10 b11 b12 b13 b14 _ hs => ⟨#[], hs.tm.hit (by rfl) (by simp [vec_Do.kvs]) (by simp [vec_Do.kvs]), calls_of_args (by rfl) ((vec_works_17.calls 18 a0_1 a0_2 a0_3 a0_4 a0_5 a0_6 a1 a2 a3 a4 r _ h).mono fun e w' h' => h')⟩
theorem vec_Do.calls (a0_0 a0_1 a0_2 a0_3 a0_4 a0_5 a0_6 a1 a2 a3 a4 : Int) (r : Int) (w : World) (h : vec_Do.f a0_0 a0_1 a0_2 a0_3 a0_4 a0_5 a0_6 a1 a2 a3 a4 = some r) :
  Calls Try.prog 12 #[.agg #[.int .i64 a0_0, .int .i64 a0_1, .int .i64 a0_2, .int .i64 a0_3, .int .i64 a0_4, .int .i64 a0_5, .int .i64 a0_6], .int .i64 a1, .int .i64 a2, .int .i64 a3, .int .i64 a4] w fun e w' => e = .returned (.int .i64 r) ∧ Below w.heap.size w w' := by
 unfold vec_Do.f at h
 by_cases hw : (Lit.int .i64 a0_0).wf = true
 ·rw [if_pos hw] at h
  by_cases c1 : a0_0 = 1
  ·rw [if_pos c1] at h
   subst c1
   exact vec_Do.calls_1 a0_1 a0_2 a0_3 a0_4 a0_5 a0_6 a1 a2 a3 a4 r w h
  rw [if_neg c1] at h
  by_cases c2 : a0_0 = 3
  ·rw [if_pos c2] at h
   subst c2
   exact vec_Do.calls_2 a0_1 a0_2 a0_3 a0_4 a0_5 a0_6 a1 a2 a3 a4 r w h
  rw [if_neg c2] at h
  by_cases c3 : a0_0 = 4
  ·rw [if_pos c3] at h
   subst c3
   exact vec_Do.calls_3 a0_1 a0_2 a0_3 a0_4 a0_5 a0_6 a1 a2 a3 a4 r w h
  rw [if_neg c3] at h
  by_cases c4 : a0_0 = 5
  ·rw [if_pos c4] at h
   subst c4
   exact vec_Do.calls_4 a0_1 a0_2 a0_3 a0_4 a0_5 a0_6 a1 a2 a3 a4 r w h
  rw [if_neg c4] at h
  by_cases c5 : a0_0 = 6
  ·rw [if_pos c5] at h
   subst c5
   exact vec_Do.calls_5 a0_1 a0_2 a0_3 a0_4 a0_5 a0_6 a1 a2 a3 a4 r w h
  rw [if_neg c5] at h
  by_cases c6 : a0_0 = 7
  ·rw [if_pos c6] at h
   subst c6
   exact vec_Do.calls_6 a0_1 a0_2 a0_3 a0_4 a0_5 a0_6 a1 a2 a3 a4 r w h
  rw [if_neg c6] at h
  by_cases c7 : a0_0 = 8
  ·rw [if_pos c7] at h
   subst c7
   exact vec_Do.calls_7 a0_1 a0_2 a0_3 a0_4 a0_5 a0_6 a1 a2 a3 a4 r w h
  rw [if_neg c7] at h
  by_cases c8 : a0_0 = 9
  ·rw [if_pos c8] at h
   subst c8
   exact vec_Do.calls_8 a0_1 a0_2 a0_3 a0_4 a0_5 a0_6 a1 a2 a3 a4 r w h
  rw [if_neg c8] at h
  by_cases c9 : a0_0 = 10
  ·rw [if_pos c9] at h
   subst c9
   exact vec_Do.calls_9 a0_1 a0_2 a0_3 a0_4 a0_5 a0_6 a1 a2 a3 a4 r w h
  rw [if_neg c9] at h
  by_cases c10 : a0_0 = 11
  ·rw [if_pos c10] at h
   subst c10
   exact vec_Do.calls_10 a0_1 a0_2 a0_3 a0_4 a0_5 a0_6 a1 a2 a3 a4 r w h
  rw [if_neg c10] at h
  by_cases c11 : a0_0 = 12
  ·rw [if_pos c11] at h
   subst c11
   exact vec_Do.calls_11 a0_1 a0_2 a0_3 a0_4 a0_5 a0_6 a1 a2 a3 a4 r w h
  rw [if_neg c11] at h
  by_cases c12 : a0_0 = 13
  ·rw [if_pos c12] at h
   subst c12
   exact vec_Do.calls_12 a0_1 a0_2 a0_3 a0_4 a0_5 a0_6 a1 a2 a3 a4 r w h
  rw [if_neg c12] at h
  by_cases c13 : a0_0 = 14
  ·rw [if_pos c13] at h
   subst c13
   exact vec_Do.calls_13 a0_1 a0_2 a0_3 a0_4 a0_5 a0_6 a1 a2 a3 a4 r w h
  rw [if_neg c13] at h
  by_cases c14 : a0_0 = 15
  ·rw [if_pos c14] at h
   subst c14
   exact vec_Do.calls_14 a0_1 a0_2 a0_3 a0_4 a0_5 a0_6 a1 a2 a3 a4 r w h
  rw [if_neg c14] at h
  by_cases c15 : a0_0 = 16
  ·rw [if_pos c15] at h
   subst c15
   exact vec_Do.calls_15 a0_1 a0_2 a0_3 a0_4 a0_5 a0_6 a1 a2 a3 a4 r w h
  rw [if_neg c15] at h
  by_cases c16 : a0_0 = 17
  ·rw [if_pos c16] at h
   subst c16
   exact vec_Do.calls_16 a0_1 a0_2 a0_3 a0_4 a0_5 a0_6 a1 a2 a3 a4 r w h
  rw [if_neg c16] at h
  by_cases c17 : a0_0 = 18
  ·rw [if_pos c17] at h
   subst c17
   exact vec_Do.calls_17 a0_1 a0_2 a0_3 a0_4 a0_5 a0_6 a1 a2 a3 a4 r w h
  rw [if_neg c17] at h
  refine vec_Do.run0 a0_0 a0_1 a0_2 a0_3 a0_4 a0_5 a0_6 a1 a2 a3 a4 r w (Option.some.inj h).symm fun _ _ b2 b3 b5 b6 b7 b8 b9 b10 b11 b12 b13 b14 _ hs => hs.tm.miss hw ?_
  intro p hp
  unfold vec_Do.kvs at hp
  simp only [List.mem_cons, List.not_mem_nil, or_false] at hp
  rcases hp with rfl | rfl | rfl | rfl | rfl | rfl | rfl | rfl | rfl | rfl | rfl | rfl | rfl | rfl | rfl | rfl | rfl <;> simp only [ne_eq, Value.int.injEq, true_and] <;> omega
 ·rw [if_neg hw] at h
  cases h


end Go.Proofs.Ytcfipamdinfomaa.Xb
