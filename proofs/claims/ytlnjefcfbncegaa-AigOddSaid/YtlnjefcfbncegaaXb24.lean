/- Slimmed by this session: what nothing names is struck out. -/
import Derived.Test.YtlnjefcfbncegaaXb0
import Derived.Test.YtlnjefcfbncegaaXb21
import Derived.Test.YtlnjefcfbncegaaXb22
import Derived.Test.YtlnjefcfbncegaaXb23
namespace Go.Proofs.Ytlnjefcfbncegaa.Xb
open Go.RowKit Go.Proofs.YtlnjefcfbncegaaW.PrintWords Go.Proofs.YtlnjefcfbncegaaW.PrintLast Go.Proofs.YtlnjefcfbncegaaW.PrintMore
attribute [local go_sem] max2_int min2_int max_two min_two max_three min_three max_four min_four
set_option linter.unusedVariables false
set_option linter.unusedSimpArgs false
abbrev b1_24 := @blk_drewN
abbrev b2_24 := @blk_alloc
abbrev b3_24 := @blk_drew
abbrev b4_24 := @below_set
abbrev aM_24 := @Aside0.mk
abbrev v1_24 := @Kd.V_alloc
abbrev v2_24 := @Kd.V_drewN
abbrev v3_24 := @Kd.V_drew
abbrev b5_24 := @blk_below
abbrev v4_24 := @Kd.V_mono
abbrev v5_24 := @Kd.V_far
abbrev b6_24 := @pw_below_drewN
abbrev b7_24 := @below_drew1
abbrev b8_24 := @below_alloc
abbrev b9_24 := @below_step
abbrev b0_24 := @below_size
abbrev v6_24 := @Kd.V_below
abbrev l1_24 := @List.setIfInBounds_toArray
abbrev l2_24 := @List.set_cons_zero
abbrev l3_24 := @List.set_cons_succ
abbrev f1_24 := @Kd.freshB
theorem cells2_24 {w : World} {g : Nat} {t : TypeId} {x0 x1 : Value} (h : w.heap[g]? = some (.cells #[x0, x1] t (0, 0))) : w.cell? ⟨g, 0, none⟩ = some x0 ∧ w.cell? ⟨g, 1, none⟩ = some x1 ∧ w.frozen? ⟨g, 0, none⟩ = false ∧ w.frozen? ⟨g, 1, none⟩ = false := ⟨(blk_cell h 0).trans rfl, (blk_cell h 1).trans rfl, blk_frozen h 0, blk_frozen h 1⟩
def proofmarkref13_Mux.f (k : Nat) (a0_0 : Int) (l0_1 : List (S50)) (a1 : Int) (a2 : Int) (a3 : Int) : Option (Int × (List (S50)) × Int) := (proofmarkref13_And.f k a0_0 l0_1 a1 a2).bind fun bt254 => ((proofmarkref13_turn.f a1).bind fun t260 => ((proofmarkref13_And.f k bt254.1 bt254.2.1 t260 a3).bind fun bt261 => ((proofmarkref13_Or.f k bt261.1 bt261.2.1 bt254.2.2 bt261.2.2).bind fun bt267 => (some (bt267.1, bt267.2.1, bt267.2.2)))))
theorem proofmarkref13_Mux.mono : ∀ a0 a1 a2 a3 a4 k, LeO (proofmarkref13_Mux.f k a0 a1 a2 a3 a4) (proofmarkref13_Mux.f (k + 1) a0 a1 a2 a3 a4) := by
 intro a0 a1 a2 a3 a4 k
 unfold proofmarkref13_Mux.f
 repeat' first
   | (with_reducible exact proofmarkref13_And.mono _ _ _ _ _)
   | (with_reducible exact proofmarkref13_Or.mono _ _ _ _ _)
   | (with_reducible exact LeO.refl _)
   | (with_reducible exact LeO.none _)
   | (with_reducible refine LeO.ite ?_ ?_)
   | (with_reducible refine LeO.bind ?_ (fun _ => ?_))
   | exact proofmarkref13_And.mono _ _ _ _ _
   | exact proofmarkref13_Or.mono _ _ _ _ _
   | exact LeO.none _
   | refine LeO.ite ?_ ?_
   | refine LeO.bind ?_ (fun _ => ?_)
def proofmarkref13_Mux.T2 : Bool × List (List Nat × List Nat) := (true, [([], []), ([], []), ([1], [1]), ([], []), ([0, 2, 3, 2], [0, 2, 3]), ([4], [4]), ([5], [5]), ([5], [5]), ([], []), ([8, 6, 4, 0, 1, 2, 3, 4, 5, 6, 8], [6, 8]), ([7, 9, 0, 1, 2, 3, 4, 5, 6, 7, 8, 9], [7])])
def proofmarkref13_Mux.B2 : List Nat := [0, 0, 2, 0, 15, 31, 63, 63, 0, 383, 1023]
theorem proofmarkref13_Mux.tab2 : rtab .any (opsOf Try.f24 2) = proofmarkref13_Mux.T2 := by kernel_rfl
theorem proofmarkref13_Mux.bits2 : waitsOk proofmarkref13_Mux.T2.2 proofmarkref13_Mux.B2 = true := by kernel_rfl
set_option maxHeartbeats 8000000 in
set_option maxRecDepth 100000 in
theorem proofmarkref13_Mux.calls (k : Nat) (a0_0 : Int) (P0_1_ : Nat → Prop) (A0_1 : Option Addr) (c0_1 : Nat) (l0_1 : List (S50)) (a1 : Int) (a2 : Int) (a3 : Int) (r1 : Int) (r2 : List (S50)) (r3 : Int) (w : World) (hs0_1 : Kd.V k50 50 w w.heap.size (fun k_ => P0_1_ k_) (.slice A0_1 l0_1.length c0_1) l0_1) (h : proofmarkref13_Mux.f k a0_0 l0_1 a1 a2 a3 = some (r1, r2, r3)) :
  Calls Try.prog 24 #[.agg #[.int .i64 a0_0, .slice A0_1 l0_1.length c0_1], .int .i64 a1, .int .i64 a2, .int .i64 a3] w fun e w' => ∃ v1_ : Value, e = .returned (.tuple #[.agg #[.int .i64 r1, v1_], .int .i64 r3]) ∧ Kd.V k50 50 w' w.heap.size (fun k_ => (P0_1_ k_ ∨ w.heap.size ≤ k_)) v1_ r2 ∧ Below w.heap.size w w' := by
 have hu24 := Try.underlying24
 have HO0_1 := aM_24 (show Kd.V k50 50 w w.heap.size (fun k_ => (P0_1_ k_ ∨ w.heap.size ≤ k_)) (.slice A0_1 l0_1.length c0_1) l0_1 from v4_24 hs0_1 (fun k_ hk => .inl hk))
 have HB := aM_24 (Below.refl w.heap.size w)
 have H : ((proofmarkref13_And.f k a0_0 l0_1 a1 a2).bind fun bt254 => ((proofmarkref13_turn.f a1).bind fun t260 => ((proofmarkref13_And.f k bt254.1 bt254.2.1 t260 a3).bind fun bt261 => ((proofmarkref13_Or.f k bt261.1 bt261.2.1 bt254.2.2 bt261.2.2).bind fun bt267 => (some (bt267.1, bt267.2.1, bt267.2.2)))))) = some (r1, r2, r3) := h
 clear h
 replace H := Option.bind_eq_some_iff.mp H
 obtain ⟨⟨t254, t255, t258⟩, A50, H⟩ := H
 replace H : ((proofmarkref13_turn.f a1).bind fun t260 => ((proofmarkref13_And.f k t254 t255 t260 a3).bind fun bt261 => ((proofmarkref13_Or.f k bt261.1 bt261.2.1 t258 bt261.2.2).bind fun bt267 => (some (bt267.1, bt267.2.1, bt267.2.2))))) = some (r1, r2, r3) := H
 have A5 := aM_24 A50
 clear A50
 replace H := Option.bind_eq_some_iff.mp H
 obtain ⟨t260, A60, H⟩ := H
 replace H : ((proofmarkref13_And.f k t254 t255 t260 a3).bind fun bt261 => ((proofmarkref13_Or.f k bt261.1 bt261.2.1 t258 bt261.2.2).bind fun bt267 => (some (bt267.1, bt267.2.1, bt267.2.2)))) = some (r1, r2, r3) := H
 have A6 := aM_24 A60
 clear A60
 replace H := Option.bind_eq_some_iff.mp H
 obtain ⟨⟨t261, t262, t265⟩, A70, H⟩ := H
 replace H : ((proofmarkref13_Or.f k t261 t262 t258 t265).bind fun bt267 => (some (bt267.1, bt267.2.1, bt267.2.2))) = some (r1, r2, r3) := H
 have A7 := aM_24 A70
 clear A70
 replace H := Option.bind_eq_some_iff.mp H
 obtain ⟨⟨t267, t268, t271⟩, A80, H⟩ := H
 replace H : (some (t267, t268, t271)) = some (r1, r2, r3) := H
 have A8 := aM_24 A80
 clear A80
 simp only [Option.some.injEq, Prod.mk.injEq] at H
 obtain ⟨rfl, rfl, rfl⟩ := H
 go_enter Try.func24, Try.ntmps24
 try go_wp2_with (first | ((with_reducible refine gate_dst (N := 4) rfl ?_); refine box_event ?hg (N := 4) ?hd (cs := #[.int .i64 a0_0, .slice A0_1 l0_1.length c0_1]) (t := 24) ?hr ?_; (case hd => rfl); (case hg => rfl); (case hr => first | (go_simp; done) | (go_simp; rfl)); intro gb252 hg w9 hbox hb; have n0_ := aM_24 (v6_24 (Kd.V_elderB (by (with_reducible repeat (first | apply v1_24 | apply v2_24 | apply v3_24)); exact HO0_1.out) gb252 (Nat.le_of_eq hg.symm)) hb); have n1_ := aM_24 (b9_24 (by repeat (first | (with_reducible first | exact HB.out | apply b8_24 | apply b6_24 | apply b7_24) | exact HB.out)) hb); have n2_ := aM_24 (hbox); have n3_ := aM_24 ((by rw [hg]; exact (b0_24 (by repeat (first | (with_reducible first | exact HB.out | apply b8_24 | apply b6_24 | apply b7_24) | exact HB.out))) : w.heap.size ≤ gb252)); have n4_ := aM_24 ((by rw [hg]; exact (b0_24 (by repeat (first | (with_reducible first | exact HB.out | apply b8_24 | apply b6_24 | apply b7_24) | exact HB.out))) : w.heap.size ≤ gb252)); clear HO0_1 HB; have HO0_1 := n0_; have HB := n1_; have BK252 := n2_; have GW252 := n3_; have GE252 := n4_; clear n0_ n1_ n2_ n3_ n4_; clear hb hbox hg) | ((with_reducible refine gate_dst (N := 8) rfl ?_); refine box_event ?hg (N := 8) ?hd (cs := #[.int .i64 0, .slice none 0 0]) (t := 24) ?hr ?_; (case hd => rfl); (case hg => rfl); (case hr => first | (go_simp; done) | (go_simp; rfl)); intro gb253 hg w10 hbox hb; have n0_ := aM_24 (v6_24 (Kd.V_elderB (by (with_reducible repeat (first | apply v1_24 | apply v2_24 | apply v3_24)); exact HO0_1.out) gb253 (Nat.le_of_eq hg.symm)) hb); have n1_ := aM_24 (b5_24 (by exact BK252.out) hb); have n2_ := aM_24 (b9_24 (by repeat (first | (with_reducible first | exact HB.out | apply b8_24 | apply b6_24 | apply b7_24 | refine b4_24 ?_ GE252.out) | exact HB.out)) hb); have n3_ := aM_24 (hbox); have n4_ := aM_24 ((by rw [hg]; exact (b0_24 (by repeat (first | (with_reducible first | exact HB.out | apply b8_24 | apply b6_24 | apply b7_24 | refine b4_24 ?_ GE252.out) | exact HB.out))) : w.heap.size ≤ gb253)); have n5_ := aM_24 ((by rw [hg]; exact (b0_24 (by repeat (first | (with_reducible first | exact HB.out | apply b8_24 | apply b6_24 | apply b7_24 | refine b4_24 ?_ GE252.out) | exact HB.out))) : w.heap.size ≤ gb253)); have n6_ := aM_24 ((by rw [hg]; exact Nat.ne_of_lt (blk_lt (by exact BK252.out)) : gb252 ≠ gb253)); have n7_ := aM_24 ((by rw [hg]; exact Nat.ne_of_gt (blk_lt (by exact BK252.out)) : gb253 ≠ gb252)); clear HO0_1 BK252 HB; have HO0_1 := n0_; have BK252 := n1_; have HB := n2_; have BK253 := n3_; have GW253 := n4_; have GE253 := n5_; have NB252_253 := n6_; have NB253_252 := n7_; clear n0_ n1_ n2_ n3_ n4_ n5_ n6_ n7_; clear hb hbox hg; have hnb11 := NB252_253.out; have hnc11 := NB253_252.out; obtain ⟨hcz12_0, hcz12_1, hfz12_0, hfz12_1⟩ := cells2_24 BK252.out) | ((with_reducible refine gate_callee (f := 17) rfl ?_); refine goesL_ (some 20) rfl rfl Try.func17 (by kernel_rfl) rfl #[.agg #[.int .i64 a0_0, .slice A0_1 l0_1.length c0_1], .int .i64 a1, .int .i64 a2] rfl (by (try simp only [List.map_toArray, List.map_cons, List.map_nil]); first | done | rfl | (simp only [List.length_drop, List.length_take]; rfl)) ?_; (with_reducible refine (proofmarkref13_And.calls k a0_0 (fun k_ => (((P0_1_ k_ ∨ w.heap.size ≤ k_) ∧ k_ ≠ gb252) ∧ k_ ≠ gb253)) _ _ l0_1 a1 a2 t254 t255 t258 _ ?side1 A5.out).mono ?_); (case side1 => exact HO0_1.out); rintro e w13 ⟨v256, rfl, ho0, hb⟩; refine ⟨_, rfl, ?_⟩; have n0_ := aM_24 (v6_24 (by (with_reducible repeat (first | apply v1_24 | apply v2_24 | apply v3_24)); exact HO0_1.out) hb); have n1_ := aM_24 (Kd.V_lower (v4_24 (ok' := fun k_ => (P0_1_ k_ ∨ w.heap.size ≤ k_) ∧ k_ ≠ gb252 ∧ k_ ≠ gb253) ho0 (fun k_ hk_ => ⟨Or.elim hk_ (fun hs_ => hs_.1.1) (fun hn_ => (.inr (Nat.le_trans (b0_24 (by repeat (first | (with_reducible first | exact HB.out | apply b8_24 | apply b6_24 | apply b7_24 | refine b4_24 ?_ GE252.out | refine b4_24 ?_ GE253.out) | exact HB.out))) hn_))), Or.elim hk_ (fun hs_ => hs_.1.2) (fun hn_ => (f1_24 (g := gb252) (o := .cells #[.int .i64 a0_0, .slice A0_1 l0_1.length c0_1] 24 (0, 0)) (by exact BK252.out) k_ hn_)), Or.elim hk_ (fun hs_ => hs_.2) (fun hn_ => (f1_24 (g := gb253) (o := .cells #[.int .i64 0, .slice none 0 0] 24 (0, 0)) (by exact BK253.out) k_ hn_))⟩)) (b0_24 (by repeat (first | (with_reducible first | exact HB.out | apply b8_24 | apply b6_24 | apply b7_24 | refine b4_24 ?_ GE252.out | refine b4_24 ?_ GE253.out) | exact HB.out)))); have n2_ := aM_24 (b5_24 (by exact BK252.out) hb); have n3_ := aM_24 (b5_24 (by exact BK253.out) hb); have n4_ := aM_24 (b9_24 (by repeat (first | (with_reducible first | exact HB.out | apply b8_24 | apply b6_24 | apply b7_24 | refine b4_24 ?_ GE252.out | refine b4_24 ?_ GE253.out) | exact HB.out)) hb); clear HO0_1 BK252 BK253 HB; have HO0_1 := n0_; have HO257 := n1_; have BK252 := n2_; have BK253 := n3_; have HB := n4_; clear n0_ n1_ n2_ n3_ n4_; (try clear hb); (try clear hb2); (try clear hk); (try clear hi); (try clear ho0)) | ((with_reducible refine gate_dst (N := 10) rfl ?_); refine box_event ?hg (N := 10) ?hd (cs := #[.int .i64 0, .slice none 0 0]) (t := 24) ?hr ?_; (case hd => rfl); (case hg => rfl); (case hr => first | (go_simp; done) | (go_simp; rfl)); intro gb259 hg w14 hbox hb; have n0_ := aM_24 (v6_24 (Kd.V_elderB (by (with_reducible repeat (first | apply v1_24 | apply v2_24 | apply v3_24)); exact HO0_1.out) gb259 (Nat.le_of_eq hg.symm)) hb); have n1_ := aM_24 (v6_24 (Kd.V_elderB (by (with_reducible repeat (first | apply v1_24 | apply v2_24 | apply v3_24)); exact HO257.out) gb259 (Nat.le_of_eq hg.symm)) hb); have n2_ := aM_24 (b5_24 (by exact BK252.out) hb); have n3_ := aM_24 (b5_24 (by exact BK253.out) hb); have n4_ := aM_24 (b9_24 (by repeat (first | (with_reducible first | exact HB.out | apply b8_24 | apply b6_24 | apply b7_24 | refine b4_24 ?_ GE252.out | refine b4_24 ?_ GE253.out) | exact HB.out)) hb); have n5_ := aM_24 (hbox); have n6_ := aM_24 ((by rw [hg]; exact (b0_24 (by repeat (first | (with_reducible first | exact HB.out | apply b8_24 | apply b6_24 | apply b7_24 | refine b4_24 ?_ GE252.out | refine b4_24 ?_ GE253.out) | exact HB.out))) : w.heap.size ≤ gb259)); have n7_ := aM_24 ((by rw [hg]; exact (b0_24 (by repeat (first | (with_reducible first | exact HB.out | apply b8_24 | apply b6_24 | apply b7_24 | refine b4_24 ?_ GE252.out | refine b4_24 ?_ GE253.out) | exact HB.out))) : w.heap.size ≤ gb259)); have n8_ := aM_24 ((by rw [hg]; exact Nat.ne_of_lt (blk_lt (by exact BK252.out)) : gb252 ≠ gb259)); have n9_ := aM_24 ((by rw [hg]; exact Nat.ne_of_gt (blk_lt (by exact BK252.out)) : gb259 ≠ gb252)); have n10_ := aM_24 ((by rw [hg]; exact Nat.ne_of_lt (blk_lt (by exact BK253.out)) : gb253 ≠ gb259)); have n11_ := aM_24 ((by rw [hg]; exact Nat.ne_of_gt (blk_lt (by exact BK253.out)) : gb259 ≠ gb253)); clear HO0_1 HO257 BK252 BK253 HB; have HO0_1 := n0_; have HO257 := n1_; have BK252 := n2_; have BK253 := n3_; have HB := n4_; have BK259 := n5_; have GW259 := n6_; have GE259 := n7_; have NB252_259 := n8_; have NB259_252 := n9_; have NB253_259 := n10_; have NB259_253 := n11_; clear n0_ n1_ n2_ n3_ n4_ n5_ n6_ n7_ n8_ n9_ n10_ n11_; clear hb hbox hg; have hnb15 := NB259_252.out; have hnc15 := NB252_259.out; have hnb16 := NB259_253.out; have hnc16 := NB253_259.out; obtain ⟨hcz17_0, hcz17_1, hfz17_0, hfz17_1⟩ := cells2_24 BK259.out; obtain ⟨Ao18, co18, eo18⟩ := Kd.V_slice HO257.out; subst eo18))
 have n0_ : Aside0 (Kd.V k50 50 ((w14.setCell ⟨gb259, 0, none⟩ (.int .i64 t254)).setCell ⟨gb259, 1, none⟩ (.slice Ao18 t255.length co18)) w.heap.size (fun k_ => (P0_1_ k_ ∨ w.heap.size ≤ k_) ∧ k_ ≠ gb252 ∧ k_ ≠ gb253 ∧ k_ ≠ gb259) (.slice A0_1 l0_1.length c0_1) l0_1) := ⟨by (with_reducible repeat (first | apply v1_24 | apply v2_24 | apply v3_24)); exact v4_24 (v5_24 (p := ⟨gb259, 1, none⟩) (v5_24 (p := ⟨gb259, 0, none⟩) (v4_24 HO0_1.out (fun k_ hk => (⟨hk, hk.2⟩ : _ ∧ k_ ≠ gb259))) (fun _ hk => hk.2) (.int .i64 t254)) (fun _ hk => hk.2) (.slice Ao18 t255.length co18)) (fun _ hk => ⟨hk.1.1.1.1, ⟨hk.1.1.1.2, ⟨hk.1.1.2, hk.1.2⟩⟩⟩)⟩
 have n1_ : Aside0 (Kd.V k50 50 ((w14.setCell ⟨gb259, 0, none⟩ (.int .i64 t254)).setCell ⟨gb259, 1, none⟩ (.slice Ao18 t255.length co18)) w.heap.size (fun k_ => (P0_1_ k_ ∨ w.heap.size ≤ k_) ∧ k_ ≠ gb252 ∧ k_ ≠ gb253 ∧ k_ ≠ gb259) (.slice Ao18 t255.length co18) t255) := ⟨by (with_reducible repeat (first | apply v1_24 | apply v2_24 | apply v3_24)); exact v4_24 (v5_24 (p := ⟨gb259, 1, none⟩) (v5_24 (p := ⟨gb259, 0, none⟩) (v4_24 HO257.out (fun k_ hk => (⟨hk, hk.2⟩ : _ ∧ k_ ≠ gb259))) (fun _ hk => hk.2) (.int .i64 t254)) (fun _ hk => hk.2) (.slice Ao18 t255.length co18)) (fun _ hk => ⟨hk.1.1.1, ⟨hk.1.1.2.1, ⟨hk.1.1.2.2, hk.1.2⟩⟩⟩)⟩
 have n2_ : Aside0 (((w14.setCell ⟨gb259, 0, none⟩ (.int .i64 t254)).setCell ⟨gb259, 1, none⟩ (.slice Ao18 t255.length co18)).heap[gb252]? = some (.cells #[.int .i64 a0_0, .slice A0_1 l0_1.length c0_1] 24 (0, 0))) := ⟨by (with_reducible repeat (first | refine b1_24 ?_ _ | refine b3_24 ?_ | refine b2_24 ?_ _)); refine blk_far ?_ NB252_259.out _; (with_reducible repeat (first | refine b1_24 ?_ _ | refine b3_24 ?_ | refine b2_24 ?_ _)); refine blk_far ?_ NB252_259.out _; (with_reducible repeat (first | refine b1_24 ?_ _ | refine b3_24 ?_ | refine b2_24 ?_ _)); exact BK252.out⟩
 have n3_ : Aside0 (((w14.setCell ⟨gb259, 0, none⟩ (.int .i64 t254)).setCell ⟨gb259, 1, none⟩ (.slice Ao18 t255.length co18)).heap[gb253]? = some (.cells #[.int .i64 0, .slice none 0 0] 24 (0, 0))) := ⟨by (with_reducible repeat (first | refine b1_24 ?_ _ | refine b3_24 ?_ | refine b2_24 ?_ _)); refine blk_far ?_ NB253_259.out _; (with_reducible repeat (first | refine b1_24 ?_ _ | refine b3_24 ?_ | refine b2_24 ?_ _)); refine blk_far ?_ NB253_259.out _; (with_reducible repeat (first | refine b1_24 ?_ _ | refine b3_24 ?_ | refine b2_24 ?_ _)); exact BK253.out⟩
 have n4_ : Aside0 (((w14.setCell ⟨gb259, 0, none⟩ (.int .i64 t254)).setCell ⟨gb259, 1, none⟩ (.slice Ao18 t255.length co18)).heap[gb259]? = some (.cells #[.int .i64 t254, .slice Ao18 t255.length co18] 24 (0, 0))) := ⟨by (with_reducible repeat (first | refine b1_24 ?_ _ | refine b3_24 ?_ | refine b2_24 ?_ _)); refine blk_put (cs := #[.int .i64 t254, .slice none 0 0]) ?_ 1 _ rfl; (with_reducible repeat (first | refine b1_24 ?_ _ | refine b3_24 ?_ | refine b2_24 ?_ _)); refine blk_put (cs := #[.int .i64 0, .slice none 0 0]) ?_ 0 _ rfl; (with_reducible repeat (first | refine b1_24 ?_ _ | refine b3_24 ?_ | refine b2_24 ?_ _)); exact BK259.out⟩
 have n5_ : Aside0 (Below w.heap.size w ((w14.setCell ⟨gb259, 0, none⟩ (.int .i64 t254)).setCell ⟨gb259, 1, none⟩ (.slice Ao18 t255.length co18))) := ⟨by repeat (first | (with_reducible first | exact HB.out | apply b8_24 | apply b6_24 | apply b7_24 | refine b4_24 ?_ GE252.out | refine b4_24 ?_ GE253.out | refine b4_24 ?_ GE259.out) | exact HB.out)⟩
 (try clear HO0_1)
 (try clear HO257)
 (try clear BK252)
 (try clear BK253)
 (try clear BK259)
 (try clear HB)
 generalize ((w14.setCell ⟨gb259, 0, none⟩ (.int .i64 t254)).setCell ⟨gb259, 1, none⟩ (.slice Ao18 t255.length co18)) = w19 at n0_ n1_ n2_ n3_ n4_ n5_ ⊢
 have HO0_1 := n0_
 have HO257 := n1_
 have BK252 := n2_
 have BK253 := n3_
 have BK259 := n4_
 have HB := n5_
 clear n0_ n1_ n2_ n3_ n4_ n5_
 have n0_ := aM_24 (v3_24 HO0_1.out)
 have n1_ := aM_24 (v3_24 HO257.out)
 have n2_ := aM_24 (b3_24 BK252.out)
 have n3_ := aM_24 (b3_24 BK253.out)
 have n4_ := aM_24 (b3_24 BK259.out)
 have n5_ := aM_24 (b7_24 HB.out)
 clear HO0_1 HO257 BK252 BK253 BK259 HB
 have HO0_1 := n0_
 have HO257 := n1_
 have BK252 := n2_
 have BK253 := n3_
 have BK259 := n4_
 have HB := n5_
 clear n0_ n1_ n2_ n3_ n4_ n5_
 refine start_ (n := 11) (S := fun w' => w'.cell? ⟨gb259, 0, none⟩ = some (.int .i64 t254) ∧ w'.cell? ⟨gb259, 1, none⟩ = some (.slice Ao18 t255.length co18)) (ds := []) #[false, false, false, false, false, false, false, false, false, false, false] (by kernel_rfl) rfl rfl ⟨(blk_cell BK259.out 0).trans rfl, (blk_cell BK259.out 1).trans rfl⟩ (fun hHeld => ?_); refine with_tabW proofmarkref13_Mux.tab2 proofmarkref13_Mux.bits2 (fun HT_ HW_ => ?_)
 generalize w19.drew = w20 at HO0_1 HO257 BK252 BK253 BK259 HB hHeld ⊢
 refine pure_ (i := 1) (N := some 25) (v := ?_) (a' := ?_) #[false, true, false, false, false, false, false, false, false, false, false] rfl rfl (any_of HT_.out (by kernel_rfl)) (fun _ _ _ h => h) (Or.inl ⟨by rfl, ?_⟩) ?_ ?_
 rotate_left
 ·intro w'
  go_simp
  with_reducible rfl
 rotate_left
 ·simp only [Act.put, l1_24, l2_24, l3_24, i64_w, i32_w]
  rfl
 refine pure_ (i := 3) (N := some 27) (v := ?_) (a' := ?_) #[false, true, false, true, false, false, false, false, false, false, false] rfl rfl (any_of HT_.out (by kernel_rfl)) (fun _ _ _ h => h) (Or.inl ⟨by rfl, ?_⟩) ?_ ?_
 rotate_left
 ·intro w'
  go_simp
  with_reducible rfl
 rotate_left
 ·simp only [Act.put, l1_24, l2_24, l3_24, i64_w, i32_w]
  rfl
 refine take_ (i := 0) (N := some 24) (v := ?_) (a' := ?_) #[true, true, false, true, false, false, false, false, false, false, false] rfl rfl (take_ofW HT_.out HW_.out (by kernel_rfl)) (fun _ _ _ h => h) (Or.inl ⟨by rfl, ?_⟩) hHeld ?_ ?_
 rotate_left
 ·rintro w' ⟨s0, s1⟩
  go_simp
  with_reducible rfl
 rotate_left
 ·simp only [Act.put, l1_24, l2_24, l3_24, i64_w, i32_w]
  rfl
 refine join_ (σ := Value × Nat) 2 #[true, true, true, true, true, true, true, true, true, false, false] (fun s_ => [(26, .int .i64 t260), (28, .tuple #[.agg #[.int .i64 t261, s_.1], .int .i64 t265]), (12, .pointer (some ⟨s_.2, 0, none⟩)), (23, .tuple #[.agg #[.int .i64 t261, s_.1], .int .i64 t265]), (29, .agg #[.int .i64 t261, s_.1]), (30, .int .i64 t265)]) (fun s_ w' => (w'.cell? ⟨gb259, 0, none⟩ = some (.int .i64 t254) ∧ w'.cell? ⟨gb259, 1, none⟩ = some (.slice Ao18 t255.length co18)) ∧ (Kd.V k50 50 w' w.heap.size (fun k_ => (P0_1_ k_ ∨ w.heap.size ≤ k_) ∧ k_ ≠ gb252 ∧ k_ ≠ gb253 ∧ k_ ≠ gb259 ∧ k_ ≠ s_.2) (.slice A0_1 l0_1.length c0_1) l0_1) ∧ (Kd.V k50 50 w' w.heap.size (fun k_ => (P0_1_ k_ ∨ w.heap.size ≤ k_) ∧ k_ ≠ gb252 ∧ k_ ≠ gb253 ∧ k_ ≠ gb259 ∧ k_ ≠ s_.2) (.slice Ao18 t255.length co18) t255) ∧ (Kd.V k50 50 w' w.heap.size (fun k_ => (P0_1_ k_ ∨ w.heap.size ≤ k_) ∧ k_ ≠ gb252 ∧ k_ ≠ gb253 ∧ k_ ≠ gb259 ∧ k_ ≠ s_.2) s_.1 t262) ∧ (w'.heap[gb252]? = some (.cells #[.int .i64 a0_0, .slice A0_1 l0_1.length c0_1] 24 (0, 0))) ∧ (w'.heap[gb253]? = some (.cells #[.int .i64 0, .slice none 0 0] 24 (0, 0))) ∧ (w'.heap[gb259]? = some (.cells #[.int .i64 t254, .slice Ao18 t255.length co18] 24 (0, 0))) ∧ (w'.heap[s_.2]? = some (.cells #[.int .i64 0, .slice none 0 0] 24 (0, 0))) ∧ (w.heap.size ≤ s_.2) ∧ (w.heap.size ≤ s_.2) ∧ (gb252 ≠ s_.2) ∧ (s_.2 ≠ gb252) ∧ (gb253 ≠ s_.2) ∧ (s_.2 ≠ gb253) ∧ (gb259 ≠ s_.2) ∧ (s_.2 ≠ gb259) ∧ (Below w.heap.size w w')) ?_ ?_
 rotate_left
 ·intro hCont
  refine two_ (i := 2) (j := 8) (Ni := some 26) (Nj := some 12) #[true, true, true, true, false, false, false, false, false, false, false] #[true, true, false, true, false, false, false, false, true, false, false] rfl rfl rfl rfl (two_of HT_.out (by kernel_rfl)) (by decide) (by decide) (fun K hK => ?_) (fun K hK => ?_)
  ·skip
   refine goes_ Try.func38 (by kernel_rfl) rfl #[.int .i64 a1] (by rfl) rfl rfl (by (try simp only [List.map_toArray, List.map_cons, List.map_nil]); first | done | rfl | (simp only [List.length_drop, List.length_take]; rfl)) ?_
   with_reducible refine (proofmarkref13_turn.calls a1 t260 _ A6.out).mono ?_
   rintro e w' ⟨rfl, ⟨nd, rfl⟩⟩
   refine ⟨_, rfl, ?_⟩
   refine hK.out _ _ ⟨(blk_cell BK259.out 0).trans rfl, (blk_cell BK259.out 1).trans rfl⟩ (fun hHeld => ?_)
   clear hK K
   refine norm_ (a' := ?_) ?_ ?_
   rotate_left
   ·show Act.put _ (some 26) _ = _
    simp only [Act.put, l1_24, l2_24, l3_24, i64_w, i32_w]
    rfl
   refine two_ (i := 4) (j := 8) (Ni := some 28) (Nj := some 12) #[true, true, true, true, true, false, false, false, false, false, false] #[true, true, true, true, false, false, false, false, true, false, false] rfl rfl rfl rfl (two_of HT_.out (by kernel_rfl)) (by decide) (by decide) (fun K hK => ?_) (fun K hK => ?_)
   ·skip
    refine goes_ Try.func17 (by kernel_rfl) rfl #[.agg #[.int .i64 t254, .slice Ao18 t255.length co18], .int .i64 t260, .int .i64 a3] (by rfl) rfl rfl (by (try simp only [List.map_toArray, List.map_cons, List.map_nil]); first | done | rfl | (simp only [List.length_drop, List.length_take]; rfl)) ?_
    with_reducible refine (proofmarkref13_And.calls k t254 (fun k_ => ((P0_1_ k_ ∨ w.heap.size ≤ k_) ∧ (k_ ≠ gb252 ∧ (k_ ≠ gb253 ∧ k_ ≠ gb259)))) _ _ t255 t260 a3 t261 t262 t265 _ ?side1 A7.out).mono ?_
    (case side1 => exact HO257.out)
    rintro e w21 ⟨v263, rfl, ho0, hb⟩
    refine ⟨_, rfl, ?_⟩
    have n0_ := aM_24 (v6_24 (by (with_reducible repeat (first | apply v1_24 | apply v2_24 | apply v3_24)); exact HO0_1.out) hb)
    have n1_ := aM_24 (v6_24 (by (with_reducible repeat (first | apply v1_24 | apply v2_24 | apply v3_24)); exact HO257.out) hb)
    have n2_ := aM_24 (Kd.V_lower (v4_24 (ok' := fun k_ => (P0_1_ k_ ∨ w.heap.size ≤ k_) ∧ k_ ≠ gb252 ∧ k_ ≠ gb253 ∧ k_ ≠ gb259) ho0 (fun k_ hk_ => ⟨Or.elim hk_ (fun hs_ => hs_.1) (fun hn_ => (.inr (Nat.le_trans (b0_24 (by repeat (first | (with_reducible first | exact HB.out | apply b8_24 | apply b6_24 | apply b7_24 | refine b4_24 ?_ GE252.out | refine b4_24 ?_ GE253.out | refine b4_24 ?_ GE259.out) | exact HB.out))) hn_))), Or.elim hk_ (fun hs_ => hs_.2.1) (fun hn_ => (f1_24 (g := gb252) (o := .cells #[.int .i64 a0_0, .slice A0_1 l0_1.length c0_1] 24 (0, 0)) (by exact BK252.out) k_ hn_)), Or.elim hk_ (fun hs_ => hs_.2.2.1) (fun hn_ => (f1_24 (g := gb253) (o := .cells #[.int .i64 0, .slice none 0 0] 24 (0, 0)) (by exact BK253.out) k_ hn_)), Or.elim hk_ (fun hs_ => hs_.2.2.2) (fun hn_ => (f1_24 (g := gb259) (o := .cells #[.int .i64 t254, .slice Ao18 t255.length co18] 24 (0, 0)) (by exact BK259.out) k_ hn_))⟩)) (b0_24 (by repeat (first | (with_reducible first | exact HB.out | apply b8_24 | apply b6_24 | apply b7_24 | refine b4_24 ?_ GE252.out | refine b4_24 ?_ GE253.out | refine b4_24 ?_ GE259.out) | exact HB.out))))
    have n3_ := aM_24 (b5_24 (by exact BK252.out) hb)
    have n4_ := aM_24 (b5_24 (by exact BK253.out) hb)
    have n5_ := aM_24 (b5_24 (by exact BK259.out) hb)
    have n6_ := aM_24 (b9_24 (by repeat (first | (with_reducible first | exact HB.out | apply b8_24 | apply b6_24 | apply b7_24 | refine b4_24 ?_ GE252.out | refine b4_24 ?_ GE253.out | refine b4_24 ?_ GE259.out) | exact HB.out)) hb)
    clear HO0_1 HO257 BK252 BK253 BK259 HB
    have HO0_1 := n0_
    have HO257 := n1_
    have HO264 := n2_
    have BK252 := n3_
    have BK253 := n4_
    have BK259 := n5_
    have HB := n6_
    clear n0_ n1_ n2_ n3_ n4_ n5_ n6_
    (try clear hb)
    (try clear hb2)
    (try clear hk)
    (try clear hi)
    (try clear ho0)
    refine hK.out _ _ ⟨(blk_cell BK259.out 0).trans rfl, (blk_cell BK259.out 1).trans rfl⟩ (fun hHeld => ?_)
    clear hK K
    refine norm_ (a' := ?_) ?_ ?_
    rotate_left
    ·show Act.put _ (some 28) _ = _
     simp only [Act.put, l1_24, l2_24, l3_24, i64_w, i32_w]
     rfl
    refine pure_ (i := 5) (N := some 23) (v := ?_) (a' := ?_) #[true, true, true, true, true, true, false, false, false, false, false] rfl rfl (any_of HT_.out (by kernel_rfl)) (fun _ _ _ h => h) (Or.inl ⟨by rfl, ?_⟩) ?_ ?_
    rotate_left
    ·intro w'
     go_simp
     with_reducible rfl
    rotate_left
    ·simp only [Act.put, l1_24, l2_24, l3_24, i64_w, i32_w]
     rfl
    refine pure_ (i := 6) (N := some 29) (v := ?_) (a' := ?_) #[true, true, true, true, true, true, true, false, false, false, false] rfl rfl (any_of HT_.out (by kernel_rfl)) (fun _ _ _ h => h) (Or.inl ⟨by rfl, ?_⟩) ?_ ?_
    rotate_left
    ·intro w'
     go_simp
     with_reducible rfl
    rotate_left
    ·simp only [Act.put, l1_24, l2_24, l3_24, i64_w, i32_w]
     rfl
    refine pure_ (i := 7) (N := some 30) (v := ?_) (a' := ?_) #[true, true, true, true, true, true, true, true, false, false, false] rfl rfl (any_of HT_.out (by kernel_rfl)) (fun _ _ _ h => h) (Or.inl ⟨by rfl, ?_⟩) ?_ ?_
    rotate_left
    ·intro w'
     go_simp
     with_reducible rfl
    rotate_left
    ·simp only [Act.put, l1_24, l2_24, l3_24, i64_w, i32_w]
     rfl
    refine one_ (i := 8) (N := some 12) #[true, true, true, true, true, true, true, true, true, false, false] rfl rfl (one_of HT_.out (by kernel_rfl)) (by decide) (fun K hK => ?_)
    refine box_step ?hg (N := 12) ?hd (cs := #[.int .i64 0, .slice none 0 0]) (t := 24) ?hr ?_; (case hd => rfl); (case hg => rfl); (case hr => first | (go_simp; done) | (go_simp; rfl))
    intro gb266 hg w22 hbox hb
    have n0_ := aM_24 (v6_24 (Kd.V_elderB (by (with_reducible repeat (first | apply v1_24 | apply v2_24 | apply v3_24)); exact HO0_1.out) gb266 (Nat.le_of_eq hg.symm)) hb)
    have n1_ := aM_24 (v6_24 (Kd.V_elderB (by (with_reducible repeat (first | apply v1_24 | apply v2_24 | apply v3_24)); exact HO257.out) gb266 (Nat.le_of_eq hg.symm)) hb)
    have n2_ := aM_24 (v6_24 (Kd.V_elderB (by (with_reducible repeat (first | apply v1_24 | apply v2_24 | apply v3_24)); exact HO264.out) gb266 (Nat.le_of_eq hg.symm)) hb)
    have n3_ := aM_24 (b5_24 (by exact BK252.out) hb)
    have n4_ := aM_24 (b5_24 (by exact BK253.out) hb)
    have n5_ := aM_24 (b5_24 (by exact BK259.out) hb)
    have n6_ := aM_24 (b9_24 (by repeat (first | (with_reducible first | exact HB.out | apply b8_24 | apply b6_24 | apply b7_24 | refine b4_24 ?_ GE252.out | refine b4_24 ?_ GE253.out | refine b4_24 ?_ GE259.out) | exact HB.out)) hb)
    have n7_ := aM_24 (hbox)
    have n8_ := aM_24 ((by rw [hg]; exact (b0_24 (by repeat (first | (with_reducible first | exact HB.out | apply b8_24 | apply b6_24 | apply b7_24 | refine b4_24 ?_ GE252.out | refine b4_24 ?_ GE253.out | refine b4_24 ?_ GE259.out) | exact HB.out))) : w.heap.size ≤ gb266))
    have n9_ := aM_24 ((by rw [hg]; exact (b0_24 (by repeat (first | (with_reducible first | exact HB.out | apply b8_24 | apply b6_24 | apply b7_24 | refine b4_24 ?_ GE252.out | refine b4_24 ?_ GE253.out | refine b4_24 ?_ GE259.out) | exact HB.out))) : w.heap.size ≤ gb266))
    have n10_ := aM_24 ((by rw [hg]; exact Nat.ne_of_lt (blk_lt (by exact BK252.out)) : gb252 ≠ gb266))
    have n11_ := aM_24 ((by rw [hg]; exact Nat.ne_of_gt (blk_lt (by exact BK252.out)) : gb266 ≠ gb252))
    have n12_ := aM_24 ((by rw [hg]; exact Nat.ne_of_lt (blk_lt (by exact BK253.out)) : gb253 ≠ gb266))
    have n13_ := aM_24 ((by rw [hg]; exact Nat.ne_of_gt (blk_lt (by exact BK253.out)) : gb266 ≠ gb253))
    have n14_ := aM_24 ((by rw [hg]; exact Nat.ne_of_lt (blk_lt (by exact BK259.out)) : gb259 ≠ gb266))
    have n15_ := aM_24 ((by rw [hg]; exact Nat.ne_of_gt (blk_lt (by exact BK259.out)) : gb266 ≠ gb259))
    clear HO0_1 HO257 HO264 BK252 BK253 BK259 HB
    have HO0_1 := n0_
    have HO257 := n1_
    have HO264 := n2_
    have BK252 := n3_
    have BK253 := n4_
    have BK259 := n5_
    have HB := n6_
    have BK266 := n7_
    have GW266 := n8_
    have GE266 := n9_
    have NB252_266 := n10_
    have NB266_252 := n11_
    have NB253_266 := n12_
    have NB266_253 := n13_
    have NB259_266 := n14_
    have NB266_259 := n15_
    clear n0_ n1_ n2_ n3_ n4_ n5_ n6_ n7_ n8_ n9_ n10_ n11_ n12_ n13_ n14_ n15_
    clear hb hbox hg
    refine hK.out _ _ ⟨(blk_cell BK259.out 0).trans rfl, (blk_cell BK259.out 1).trans rfl⟩ (fun hHeld => ?_)
    clear hK K
    refine norm_ (a' := ?_) ?_ ?_
    rotate_left
    ·show Act.put _ (some 12) _ = _
     simp only [Act.put, l1_24, l2_24, l3_24, i64_w, i32_w]
     rfl
    exact norm_ (by simp only [putAll, Act.put, l1_24, l2_24, l3_24]) (hCont (v263, gb266) _ ⟨hHeld, (by (with_reducible repeat (first | apply v1_24 | apply v2_24 | apply v3_24)); exact v4_24 HO0_1.out (fun _ hk => ⟨hk.1.1, ⟨hk.1.2.1, ⟨hk.1.2.2.1, ⟨hk.1.2.2.2, hk.2⟩⟩⟩⟩)), (by (with_reducible repeat (first | apply v1_24 | apply v2_24 | apply v3_24)); exact v4_24 HO257.out (fun _ hk => ⟨hk.1.1, ⟨hk.1.2.1, ⟨hk.1.2.2.1, ⟨hk.1.2.2.2, hk.2⟩⟩⟩⟩)), (by (with_reducible repeat (first | apply v1_24 | apply v2_24 | apply v3_24)); exact v4_24 HO264.out (fun _ hk => ⟨hk.1.1, ⟨hk.1.2.1, ⟨hk.1.2.2.1, ⟨hk.1.2.2.2, hk.2⟩⟩⟩⟩)), (by exact BK252.out), (by exact BK253.out), (by exact BK259.out), (by exact BK266.out), GW266.out, GE266.out, NB252_266.out, NB266_252.out, NB253_266.out, NB266_253.out, NB259_266.out, NB266_259.out, (by repeat (first | (with_reducible first | exact HB.out | apply b8_24 | apply b6_24 | apply b7_24 | refine b4_24 ?_ GE252.out | refine b4_24 ?_ GE253.out | refine b4_24 ?_ GE259.out | refine b4_24 ?_ GE266.out) | exact HB.out))⟩)
   ·skip
    refine box_step ?hg (N := 12) ?hd (cs := #[.int .i64 0, .slice none 0 0]) (t := 24) ?hr ?_; (case hd => rfl); (case hg => rfl); (case hr => first | (go_simp; done) | (go_simp; rfl))
    intro gb266 hg w21 hbox hb
    have n0_ := aM_24 (v6_24 (Kd.V_elderB (by (with_reducible repeat (first | apply v1_24 | apply v2_24 | apply v3_24)); exact HO0_1.out) gb266 (Nat.le_of_eq hg.symm)) hb)
    have n1_ := aM_24 (v6_24 (Kd.V_elderB (by (with_reducible repeat (first | apply v1_24 | apply v2_24 | apply v3_24)); exact HO257.out) gb266 (Nat.le_of_eq hg.symm)) hb)
    have n2_ := aM_24 (b5_24 (by exact BK252.out) hb)
    have n3_ := aM_24 (b5_24 (by exact BK253.out) hb)
    have n4_ := aM_24 (b5_24 (by exact BK259.out) hb)
    have n5_ := aM_24 (b9_24 (by repeat (first | (with_reducible first | exact HB.out | apply b8_24 | apply b6_24 | apply b7_24 | refine b4_24 ?_ GE252.out | refine b4_24 ?_ GE253.out | refine b4_24 ?_ GE259.out) | exact HB.out)) hb)
    have n6_ := aM_24 (hbox)
    have n7_ := aM_24 ((by rw [hg]; exact (b0_24 (by repeat (first | (with_reducible first | exact HB.out | apply b8_24 | apply b6_24 | apply b7_24 | refine b4_24 ?_ GE252.out | refine b4_24 ?_ GE253.out | refine b4_24 ?_ GE259.out) | exact HB.out))) : w.heap.size ≤ gb266))
    have n8_ := aM_24 ((by rw [hg]; exact (b0_24 (by repeat (first | (with_reducible first | exact HB.out | apply b8_24 | apply b6_24 | apply b7_24 | refine b4_24 ?_ GE252.out | refine b4_24 ?_ GE253.out | refine b4_24 ?_ GE259.out) | exact HB.out))) : w.heap.size ≤ gb266))
    have n9_ := aM_24 ((by rw [hg]; exact Nat.ne_of_lt (blk_lt (by exact BK252.out)) : gb252 ≠ gb266))
    have n10_ := aM_24 ((by rw [hg]; exact Nat.ne_of_gt (blk_lt (by exact BK252.out)) : gb266 ≠ gb252))
    have n11_ := aM_24 ((by rw [hg]; exact Nat.ne_of_lt (blk_lt (by exact BK253.out)) : gb253 ≠ gb266))
    have n12_ := aM_24 ((by rw [hg]; exact Nat.ne_of_gt (blk_lt (by exact BK253.out)) : gb266 ≠ gb253))
    have n13_ := aM_24 ((by rw [hg]; exact Nat.ne_of_lt (blk_lt (by exact BK259.out)) : gb259 ≠ gb266))
    have n14_ := aM_24 ((by rw [hg]; exact Nat.ne_of_gt (blk_lt (by exact BK259.out)) : gb266 ≠ gb259))
    clear HO0_1 HO257 BK252 BK253 BK259 HB
    have HO0_1 := n0_
    have HO257 := n1_
    have BK252 := n2_
    have BK253 := n3_
    have BK259 := n4_
    have HB := n5_
    have BK266 := n6_
    have GW266 := n7_
    have GE266 := n8_
    have NB252_266 := n9_
    have NB266_252 := n10_
    have NB253_266 := n11_
    have NB266_253 := n12_
    have NB259_266 := n13_
    have NB266_259 := n14_
    clear n0_ n1_ n2_ n3_ n4_ n5_ n6_ n7_ n8_ n9_ n10_ n11_ n12_ n13_ n14_
    clear hb hbox hg
    refine hK.out _ _ ⟨(blk_cell BK259.out 0).trans rfl, (blk_cell BK259.out 1).trans rfl⟩ (fun hHeld => ?_)
    clear hK K
    refine norm_ (a' := ?_) ?_ ?_
    rotate_left
    ·show Act.put _ (some 12) _ = _
     simp only [Act.put, l1_24, l2_24, l3_24, i64_w, i32_w]
     rfl
    refine one_ (i := 4) (N := some 28) #[true, true, true, true, true, false, false, false, true, false, false] rfl rfl (one_of HT_.out (by kernel_rfl)) (by decide) (fun K hK => ?_)
    refine goes_ Try.func17 (by kernel_rfl) rfl #[.agg #[.int .i64 t254, .slice Ao18 t255.length co18], .int .i64 t260, .int .i64 a3] (by rfl) rfl rfl (by (try simp only [List.map_toArray, List.map_cons, List.map_nil]); first | done | rfl | (simp only [List.length_drop, List.length_take]; rfl)) ?_
    with_reducible refine (proofmarkref13_And.calls k t254 (fun k_ => (((P0_1_ k_ ∨ w.heap.size ≤ k_) ∧ (k_ ≠ gb252 ∧ (k_ ≠ gb253 ∧ k_ ≠ gb259))) ∧ k_ ≠ gb266)) _ _ t255 t260 a3 t261 t262 t265 _ ?side1 A7.out).mono ?_
    (case side1 => exact HO257.out)
    rintro e w22 ⟨v263, rfl, ho0, hb⟩
    refine ⟨_, rfl, ?_⟩
    have n0_ := aM_24 (v6_24 (by (with_reducible repeat (first | apply v1_24 | apply v2_24 | apply v3_24)); exact HO0_1.out) hb)
    have n1_ := aM_24 (v6_24 (by (with_reducible repeat (first | apply v1_24 | apply v2_24 | apply v3_24)); exact HO257.out) hb)
    have n2_ := aM_24 (Kd.V_lower (v4_24 (ok' := fun k_ => (P0_1_ k_ ∨ w.heap.size ≤ k_) ∧ k_ ≠ gb252 ∧ k_ ≠ gb253 ∧ k_ ≠ gb259 ∧ k_ ≠ gb266) ho0 (fun k_ hk_ => ⟨Or.elim hk_ (fun hs_ => hs_.1.1) (fun hn_ => (.inr (Nat.le_trans (b0_24 (by repeat (first | (with_reducible first | exact HB.out | apply b8_24 | apply b6_24 | apply b7_24 | refine b4_24 ?_ GE252.out | refine b4_24 ?_ GE253.out | refine b4_24 ?_ GE259.out | refine b4_24 ?_ GE266.out) | exact HB.out))) hn_))), Or.elim hk_ (fun hs_ => hs_.1.2.1) (fun hn_ => (f1_24 (g := gb252) (o := .cells #[.int .i64 a0_0, .slice A0_1 l0_1.length c0_1] 24 (0, 0)) (by exact BK252.out) k_ hn_)), Or.elim hk_ (fun hs_ => hs_.1.2.2.1) (fun hn_ => (f1_24 (g := gb253) (o := .cells #[.int .i64 0, .slice none 0 0] 24 (0, 0)) (by exact BK253.out) k_ hn_)), Or.elim hk_ (fun hs_ => hs_.1.2.2.2) (fun hn_ => (f1_24 (g := gb259) (o := .cells #[.int .i64 t254, .slice Ao18 t255.length co18] 24 (0, 0)) (by exact BK259.out) k_ hn_)), Or.elim hk_ (fun hs_ => hs_.2) (fun hn_ => (f1_24 (g := gb266) (o := .cells #[.int .i64 0, .slice none 0 0] 24 (0, 0)) (by exact BK266.out) k_ hn_))⟩)) (b0_24 (by repeat (first | (with_reducible first | exact HB.out | apply b8_24 | apply b6_24 | apply b7_24 | refine b4_24 ?_ GE252.out | refine b4_24 ?_ GE253.out | refine b4_24 ?_ GE259.out | refine b4_24 ?_ GE266.out) | exact HB.out))))
    have n3_ := aM_24 (b5_24 (by exact BK252.out) hb)
    have n4_ := aM_24 (b5_24 (by exact BK253.out) hb)
    have n5_ := aM_24 (b5_24 (by exact BK259.out) hb)
    have n6_ := aM_24 (b5_24 (by exact BK266.out) hb)
    have n7_ := aM_24 (b9_24 (by repeat (first | (with_reducible first | exact HB.out | apply b8_24 | apply b6_24 | apply b7_24 | refine b4_24 ?_ GE252.out | refine b4_24 ?_ GE253.out | refine b4_24 ?_ GE259.out | refine b4_24 ?_ GE266.out) | exact HB.out)) hb)
    clear HO0_1 HO257 BK252 BK253 BK259 BK266 HB
    have HO0_1 := n0_
    have HO257 := n1_
    have HO264 := n2_
    have BK252 := n3_
    have BK253 := n4_
    have BK259 := n5_
    have BK266 := n6_
    have HB := n7_
    clear n0_ n1_ n2_ n3_ n4_ n5_ n6_ n7_
    (try clear hb)
    (try clear hb2)
    (try clear hk)
    (try clear hi)
    (try clear ho0)
    refine hK.out _ _ ⟨(blk_cell BK259.out 0).trans rfl, (blk_cell BK259.out 1).trans rfl⟩ (fun hHeld => ?_)
    clear hK K
    refine norm_ (a' := ?_) ?_ ?_
    rotate_left
    ·show Act.put _ (some 28) _ = _
     simp only [Act.put, l1_24, l2_24, l3_24, i64_w, i32_w]
     rfl
    refine pure_ (i := 5) (N := some 23) (v := ?_) (a' := ?_) #[true, true, true, true, true, true, false, false, true, false, false] rfl rfl (any_of HT_.out (by kernel_rfl)) (fun _ _ _ h => h) (Or.inl ⟨by rfl, ?_⟩) ?_ ?_
    rotate_left
    ·intro w'
     go_simp
     with_reducible rfl
    rotate_left
    ·simp only [Act.put, l1_24, l2_24, l3_24, i64_w, i32_w]
     rfl
    refine pure_ (i := 6) (N := some 29) (v := ?_) (a' := ?_) #[true, true, true, true, true, true, true, false, true, false, false] rfl rfl (any_of HT_.out (by kernel_rfl)) (fun _ _ _ h => h) (Or.inl ⟨by rfl, ?_⟩) ?_ ?_
    rotate_left
    ·intro w'
     go_simp
     with_reducible rfl
    rotate_left
    ·simp only [Act.put, l1_24, l2_24, l3_24, i64_w, i32_w]
     rfl
    refine pure_ (i := 7) (N := some 30) (v := ?_) (a' := ?_) #[true, true, true, true, true, true, true, true, true, false, false] rfl rfl (any_of HT_.out (by kernel_rfl)) (fun _ _ _ h => h) (Or.inl ⟨by rfl, ?_⟩) ?_ ?_
    rotate_left
    ·intro w'
     go_simp
     with_reducible rfl
    rotate_left
    ·simp only [Act.put, l1_24, l2_24, l3_24, i64_w, i32_w]
     rfl
    exact norm_ (by simp only [putAll, Act.put, l1_24, l2_24, l3_24]) (hCont (v263, gb266) _ ⟨hHeld, (by (with_reducible repeat (first | apply v1_24 | apply v2_24 | apply v3_24)); exact v4_24 HO0_1.out (fun _ hk => ⟨hk.1.1, ⟨hk.1.2.1, ⟨hk.1.2.2.1, ⟨hk.1.2.2.2, hk.2⟩⟩⟩⟩)), (by (with_reducible repeat (first | apply v1_24 | apply v2_24 | apply v3_24)); exact v4_24 HO257.out (fun _ hk => ⟨hk.1.1, ⟨hk.1.2.1, ⟨hk.1.2.2.1, ⟨hk.1.2.2.2, hk.2⟩⟩⟩⟩)), (by (with_reducible repeat (first | apply v1_24 | apply v2_24 | apply v3_24)); exact HO264.out), (by exact BK252.out), (by exact BK253.out), (by exact BK259.out), (by exact BK266.out), GW266.out, GE266.out, NB252_266.out, NB266_252.out, NB253_266.out, NB266_253.out, NB259_266.out, NB266_259.out, (by repeat (first | (with_reducible first | exact HB.out | apply b8_24 | apply b6_24 | apply b7_24 | refine b4_24 ?_ GE252.out | refine b4_24 ?_ GE253.out | refine b4_24 ?_ GE259.out | refine b4_24 ?_ GE266.out) | exact HB.out))⟩)
  ·skip
   refine box_step ?hg (N := 12) ?hd (cs := #[.int .i64 0, .slice none 0 0]) (t := 24) ?hr ?_; (case hd => rfl); (case hg => rfl); (case hr => first | (go_simp; done) | (go_simp; rfl))
   intro gb266 hg w21 hbox hb
   have n0_ := aM_24 (v6_24 (Kd.V_elderB (by (with_reducible repeat (first | apply v1_24 | apply v2_24 | apply v3_24)); exact HO0_1.out) gb266 (Nat.le_of_eq hg.symm)) hb)
   have n1_ := aM_24 (v6_24 (Kd.V_elderB (by (with_reducible repeat (first | apply v1_24 | apply v2_24 | apply v3_24)); exact HO257.out) gb266 (Nat.le_of_eq hg.symm)) hb)
   have n2_ := aM_24 (b5_24 (by exact BK252.out) hb)
   have n3_ := aM_24 (b5_24 (by exact BK253.out) hb)
   have n4_ := aM_24 (b5_24 (by exact BK259.out) hb)
   have n5_ := aM_24 (b9_24 (by repeat (first | (with_reducible first | exact HB.out | apply b8_24 | apply b6_24 | apply b7_24 | refine b4_24 ?_ GE252.out | refine b4_24 ?_ GE253.out | refine b4_24 ?_ GE259.out) | exact HB.out)) hb)
   have n6_ := aM_24 (hbox)
   have n7_ := aM_24 ((by rw [hg]; exact (b0_24 (by repeat (first | (with_reducible first | exact HB.out | apply b8_24 | apply b6_24 | apply b7_24 | refine b4_24 ?_ GE252.out | refine b4_24 ?_ GE253.out | refine b4_24 ?_ GE259.out) | exact HB.out))) : w.heap.size ≤ gb266))
   have n8_ := aM_24 ((by rw [hg]; exact (b0_24 (by repeat (first | (with_reducible first | exact HB.out | apply b8_24 | apply b6_24 | apply b7_24 | refine b4_24 ?_ GE252.out | refine b4_24 ?_ GE253.out | refine b4_24 ?_ GE259.out) | exact HB.out))) : w.heap.size ≤ gb266))
   have n9_ := aM_24 ((by rw [hg]; exact Nat.ne_of_lt (blk_lt (by exact BK252.out)) : gb252 ≠ gb266))
   have n10_ := aM_24 ((by rw [hg]; exact Nat.ne_of_gt (blk_lt (by exact BK252.out)) : gb266 ≠ gb252))
   have n11_ := aM_24 ((by rw [hg]; exact Nat.ne_of_lt (blk_lt (by exact BK253.out)) : gb253 ≠ gb266))
   have n12_ := aM_24 ((by rw [hg]; exact Nat.ne_of_gt (blk_lt (by exact BK253.out)) : gb266 ≠ gb253))
   have n13_ := aM_24 ((by rw [hg]; exact Nat.ne_of_lt (blk_lt (by exact BK259.out)) : gb259 ≠ gb266))
   have n14_ := aM_24 ((by rw [hg]; exact Nat.ne_of_gt (blk_lt (by exact BK259.out)) : gb266 ≠ gb259))
   clear HO0_1 HO257 BK252 BK253 BK259 HB
   have HO0_1 := n0_
   have HO257 := n1_
   have BK252 := n2_
   have BK253 := n3_
   have BK259 := n4_
   have HB := n5_
   have BK266 := n6_
   have GW266 := n7_
   have GE266 := n8_
   have NB252_266 := n9_
   have NB266_252 := n10_
   have NB253_266 := n11_
   have NB266_253 := n12_
   have NB259_266 := n13_
   have NB266_259 := n14_
   clear n0_ n1_ n2_ n3_ n4_ n5_ n6_ n7_ n8_ n9_ n10_ n11_ n12_ n13_ n14_
   clear hb hbox hg
   refine hK.out _ _ ⟨(blk_cell BK259.out 0).trans rfl, (blk_cell BK259.out 1).trans rfl⟩ (fun hHeld => ?_)
   clear hK K
   refine norm_ (a' := ?_) ?_ ?_
   rotate_left
   ·show Act.put _ (some 12) _ = _
    simp only [Act.put, l1_24, l2_24, l3_24, i64_w, i32_w]
    rfl
   refine one_ (i := 2) (N := some 26) #[true, true, true, true, false, false, false, false, true, false, false] rfl rfl (one_of HT_.out (by kernel_rfl)) (by decide) (fun K hK => ?_)
   refine goes_ Try.func38 (by kernel_rfl) rfl #[.int .i64 a1] (by rfl) rfl rfl (by (try simp only [List.map_toArray, List.map_cons, List.map_nil]); first | done | rfl | (simp only [List.length_drop, List.length_take]; rfl)) ?_
   with_reducible refine (proofmarkref13_turn.calls a1 t260 _ A6.out).mono ?_
   rintro e w' ⟨rfl, ⟨nd, rfl⟩⟩
   refine ⟨_, rfl, ?_⟩
   refine hK.out _ _ ⟨(blk_cell BK259.out 0).trans rfl, (blk_cell BK259.out 1).trans rfl⟩ (fun hHeld => ?_)
   clear hK K
   refine norm_ (a' := ?_) ?_ ?_
   rotate_left
   ·show Act.put _ (some 26) _ = _
    simp only [Act.put, l1_24, l2_24, l3_24, i64_w, i32_w]
    rfl
   refine one_ (i := 4) (N := some 28) #[true, true, true, true, true, false, false, false, true, false, false] rfl rfl (one_of HT_.out (by kernel_rfl)) (by decide) (fun K hK => ?_)
   refine goes_ Try.func17 (by kernel_rfl) rfl #[.agg #[.int .i64 t254, .slice Ao18 t255.length co18], .int .i64 t260, .int .i64 a3] (by rfl) rfl rfl (by (try simp only [List.map_toArray, List.map_cons, List.map_nil]); first | done | rfl | (simp only [List.length_drop, List.length_take]; rfl)) ?_
   with_reducible refine (proofmarkref13_And.calls k t254 (fun k_ => (((P0_1_ k_ ∨ w.heap.size ≤ k_) ∧ (k_ ≠ gb252 ∧ (k_ ≠ gb253 ∧ k_ ≠ gb259))) ∧ k_ ≠ gb266)) _ _ t255 t260 a3 t261 t262 t265 _ ?side1 A7.out).mono ?_
   (case side1 => exact HO257.out)
   rintro e w22 ⟨v263, rfl, ho0, hb⟩
   refine ⟨_, rfl, ?_⟩
   have n0_ := aM_24 (v6_24 (by (with_reducible repeat (first | apply v1_24 | apply v2_24 | apply v3_24)); exact HO0_1.out) hb)
   have n1_ := aM_24 (v6_24 (by (with_reducible repeat (first | apply v1_24 | apply v2_24 | apply v3_24)); exact HO257.out) hb)
   have n2_ := aM_24 (Kd.V_lower (v4_24 (ok' := fun k_ => (P0_1_ k_ ∨ w.heap.size ≤ k_) ∧ k_ ≠ gb252 ∧ k_ ≠ gb253 ∧ k_ ≠ gb259 ∧ k_ ≠ gb266) ho0 (fun k_ hk_ => ⟨Or.elim hk_ (fun hs_ => hs_.1.1) (fun hn_ => (.inr (Nat.le_trans (b0_24 (by repeat (first | (with_reducible first | exact HB.out | apply b8_24 | apply b6_24 | apply b7_24 | refine b4_24 ?_ GE252.out | refine b4_24 ?_ GE253.out | refine b4_24 ?_ GE259.out | refine b4_24 ?_ GE266.out) | exact HB.out))) hn_))), Or.elim hk_ (fun hs_ => hs_.1.2.1) (fun hn_ => (f1_24 (g := gb252) (o := .cells #[.int .i64 a0_0, .slice A0_1 l0_1.length c0_1] 24 (0, 0)) (by exact BK252.out) k_ hn_)), Or.elim hk_ (fun hs_ => hs_.1.2.2.1) (fun hn_ => (f1_24 (g := gb253) (o := .cells #[.int .i64 0, .slice none 0 0] 24 (0, 0)) (by exact BK253.out) k_ hn_)), Or.elim hk_ (fun hs_ => hs_.1.2.2.2) (fun hn_ => (f1_24 (g := gb259) (o := .cells #[.int .i64 t254, .slice Ao18 t255.length co18] 24 (0, 0)) (by exact BK259.out) k_ hn_)), Or.elim hk_ (fun hs_ => hs_.2) (fun hn_ => (f1_24 (g := gb266) (o := .cells #[.int .i64 0, .slice none 0 0] 24 (0, 0)) (by exact BK266.out) k_ hn_))⟩)) (b0_24 (by repeat (first | (with_reducible first | exact HB.out | apply b8_24 | apply b6_24 | apply b7_24 | refine b4_24 ?_ GE252.out | refine b4_24 ?_ GE253.out | refine b4_24 ?_ GE259.out | refine b4_24 ?_ GE266.out) | exact HB.out))))
   have n3_ := aM_24 (b5_24 (by exact BK252.out) hb)
   have n4_ := aM_24 (b5_24 (by exact BK253.out) hb)
   have n5_ := aM_24 (b5_24 (by exact BK259.out) hb)
   have n6_ := aM_24 (b5_24 (by exact BK266.out) hb)
   have n7_ := aM_24 (b9_24 (by repeat (first | (with_reducible first | exact HB.out | apply b8_24 | apply b6_24 | apply b7_24 | refine b4_24 ?_ GE252.out | refine b4_24 ?_ GE253.out | refine b4_24 ?_ GE259.out | refine b4_24 ?_ GE266.out) | exact HB.out)) hb)
   clear HO0_1 HO257 BK252 BK253 BK259 BK266 HB
   have HO0_1 := n0_
   have HO257 := n1_
   have HO264 := n2_
   have BK252 := n3_
   have BK253 := n4_
   have BK259 := n5_
   have BK266 := n6_
   have HB := n7_
   clear n0_ n1_ n2_ n3_ n4_ n5_ n6_ n7_
   (try clear hb)
   (try clear hb2)
   (try clear hk)
   (try clear hi)
   (try clear ho0)
   refine hK.out _ _ ⟨(blk_cell BK259.out 0).trans rfl, (blk_cell BK259.out 1).trans rfl⟩ (fun hHeld => ?_)
   clear hK K
   refine norm_ (a' := ?_) ?_ ?_
   rotate_left
   ·show Act.put _ (some 28) _ = _
    simp only [Act.put, l1_24, l2_24, l3_24, i64_w, i32_w]
    rfl
   refine pure_ (i := 5) (N := some 23) (v := ?_) (a' := ?_) #[true, true, true, true, true, true, false, false, true, false, false] rfl rfl (any_of HT_.out (by kernel_rfl)) (fun _ _ _ h => h) (Or.inl ⟨by rfl, ?_⟩) ?_ ?_
   rotate_left
   ·intro w'
    go_simp
    with_reducible rfl
   rotate_left
   ·simp only [Act.put, l1_24, l2_24, l3_24, i64_w, i32_w]
    rfl
   refine pure_ (i := 6) (N := some 29) (v := ?_) (a' := ?_) #[true, true, true, true, true, true, true, false, true, false, false] rfl rfl (any_of HT_.out (by kernel_rfl)) (fun _ _ _ h => h) (Or.inl ⟨by rfl, ?_⟩) ?_ ?_
   rotate_left
   ·intro w'
    go_simp
    with_reducible rfl
   rotate_left
   ·simp only [Act.put, l1_24, l2_24, l3_24, i64_w, i32_w]
    rfl
   refine pure_ (i := 7) (N := some 30) (v := ?_) (a' := ?_) #[true, true, true, true, true, true, true, true, true, false, false] rfl rfl (any_of HT_.out (by kernel_rfl)) (fun _ _ _ h => h) (Or.inl ⟨by rfl, ?_⟩) ?_ ?_
   rotate_left
   ·intro w'
    go_simp
    with_reducible rfl
   rotate_left
   ·simp only [Act.put, l1_24, l2_24, l3_24, i64_w, i32_w]
    rfl
   exact norm_ (by simp only [putAll, Act.put, l1_24, l2_24, l3_24]) (hCont (v263, gb266) _ ⟨hHeld, (by (with_reducible repeat (first | apply v1_24 | apply v2_24 | apply v3_24)); exact v4_24 HO0_1.out (fun _ hk => ⟨hk.1.1, ⟨hk.1.2.1, ⟨hk.1.2.2.1, ⟨hk.1.2.2.2, hk.2⟩⟩⟩⟩)), (by (with_reducible repeat (first | apply v1_24 | apply v2_24 | apply v3_24)); exact v4_24 HO257.out (fun _ hk => ⟨hk.1.1, ⟨hk.1.2.1, ⟨hk.1.2.2.1, ⟨hk.1.2.2.2, hk.2⟩⟩⟩⟩)), (by (with_reducible repeat (first | apply v1_24 | apply v2_24 | apply v3_24)); exact HO264.out), (by exact BK252.out), (by exact BK253.out), (by exact BK259.out), (by exact BK266.out), GW266.out, GE266.out, NB252_266.out, NB266_252.out, NB253_266.out, NB266_253.out, NB259_266.out, NB266_259.out, (by repeat (first | (with_reducible first | exact HB.out | apply b8_24 | apply b6_24 | apply b7_24 | refine b4_24 ?_ GE252.out | refine b4_24 ?_ GE253.out | refine b4_24 ?_ GE259.out | refine b4_24 ?_ GE266.out) | exact HB.out))⟩)
 rintro ⟨v263, gb266⟩ w23 ⟨hS_, h0_, h1_, h2_, h3_, h4_, h5_, h6_, h7_, h8_, h9_, h10_, h11_, h12_, h13_, h14_, h15_⟩
 have n0_ : Aside0 (Kd.V k50 50 w23 w.heap.size (fun k_ => (P0_1_ k_ ∨ w.heap.size ≤ k_) ∧ k_ ≠ gb252 ∧ k_ ≠ gb253 ∧ k_ ≠ gb259 ∧ k_ ≠ gb266) (.slice A0_1 l0_1.length c0_1) l0_1) := ⟨h0_⟩
 have n1_ : Aside0 (Kd.V k50 50 w23 w.heap.size (fun k_ => (P0_1_ k_ ∨ w.heap.size ≤ k_) ∧ k_ ≠ gb252 ∧ k_ ≠ gb253 ∧ k_ ≠ gb259 ∧ k_ ≠ gb266) (.slice Ao18 t255.length co18) t255) := ⟨h1_⟩
 have n2_ : Aside0 (Kd.V k50 50 w23 w.heap.size (fun k_ => (P0_1_ k_ ∨ w.heap.size ≤ k_) ∧ k_ ≠ gb252 ∧ k_ ≠ gb253 ∧ k_ ≠ gb259 ∧ k_ ≠ gb266) v263 t262) := ⟨h2_⟩
 have n3_ : Aside0 (w23.heap[gb252]? = some (.cells #[.int .i64 a0_0, .slice A0_1 l0_1.length c0_1] 24 (0, 0))) := ⟨h3_⟩
 have n4_ : Aside0 (w23.heap[gb253]? = some (.cells #[.int .i64 0, .slice none 0 0] 24 (0, 0))) := ⟨h4_⟩
 have n5_ : Aside0 (w23.heap[gb259]? = some (.cells #[.int .i64 t254, .slice Ao18 t255.length co18] 24 (0, 0))) := ⟨h5_⟩
 have n6_ : Aside0 (w23.heap[gb266]? = some (.cells #[.int .i64 0, .slice none 0 0] 24 (0, 0))) := ⟨h6_⟩
 have n7_ : Aside0 (w.heap.size ≤ gb266) := ⟨h7_⟩
 have n8_ : Aside0 (w.heap.size ≤ gb266) := ⟨h8_⟩
 have n9_ : Aside0 (gb252 ≠ gb266) := ⟨h9_⟩
 have n10_ : Aside0 (gb266 ≠ gb252) := ⟨h10_⟩
 have n11_ : Aside0 (gb253 ≠ gb266) := ⟨h11_⟩
 have n12_ : Aside0 (gb266 ≠ gb253) := ⟨h12_⟩
 have n13_ : Aside0 (gb259 ≠ gb266) := ⟨h13_⟩
 have n14_ : Aside0 (gb266 ≠ gb259) := ⟨h14_⟩
 have n15_ : Aside0 (Below w.heap.size w w23) := ⟨h15_⟩
 clear HO0_1 HO257 BK252 BK253 BK259 HB
 clear h0_ h1_ h2_ h3_ h4_ h5_ h6_ h7_ h8_ h9_ h10_ h11_ h12_ h13_ h14_ h15_
 have HO0_1 := n0_
 have HO257 := n1_
 have HO264 := n2_
 have BK252 := n3_
 have BK253 := n4_
 have BK259 := n5_
 have BK266 := n6_
 have GW266 := n7_
 have GE266 := n8_
 have NB252_266 := n9_
 have NB266_252 := n10_
 have NB253_266 := n11_
 have NB266_253 := n12_
 have NB259_266 := n13_
 have NB266_259 := n14_
 have HB := n15_
 clear n0_ n1_ n2_ n3_ n4_ n5_ n6_ n7_ n8_ n9_ n10_ n11_ n12_ n13_ n14_ n15_
 have hHeld : w23.cell? ⟨gb259, 0, none⟩ = some (.int .i64 t254) ∧ w23.cell? ⟨gb259, 1, none⟩ = some (.slice Ao18 t255.length co18) := hS_
 obtain ⟨Ao25, co25, eo25⟩ := Kd.V_slice HO264.out
 (first | subst eo25 | (injection eo25 with f1_ f2_ f3_; have f4_ := f1_.symm; have f5_ := f3_.symm; clear f1_ f2_ f3_; subst f4_; subst f5_))
 refine norm_ (a' := ?_) ?_ ?_
 rotate_left
 ·simp only [putAll, Act.put, l1_24, l2_24, l3_24]
  rfl
 refine one_ (i := 9) (N := none) #[true, true, true, true, true, true, true, true, true, true, false] rfl rfl (one_of HT_.out (by kernel_rfl)) (by decide) (fun K hK => ?_)
 have hs24 : w23.cell? ⟨gb266, 0, none⟩ = some (.int .i64 0) := (blk_cell BK266.out 0).trans rfl
 have hfs24 := blk_frozen BK266.out 0
 have hns24_0 := NB252_266.out
 have hns24_1 := NB253_266.out
 have hns24_2 := NB259_266.out
 have hms24_0 := NB266_252.out
 have hms24_1 := NB266_253.out
 have hms24_2 := NB266_259.out
 have hs26 : w23.cell? ⟨gb266, 1, none⟩ = some (.slice none 0 0) := (blk_cell BK266.out 1).trans rfl
 have hfs26 := blk_frozen BK266.out 1
 have hns26_0 := NB252_266.out
 have hns26_1 := NB253_266.out
 have hns26_2 := NB259_266.out
 have hms26_0 := NB266_252.out
 have hms26_1 := NB266_253.out
 have hms26_2 := NB266_259.out
 refine skip_ (w1 := ?_) (by rfl) rfl ?_ ?_
 rotate_left
 ·go_simp
  rfl
 refine hK.out _ _ ⟨((cell_far (p := ⟨gb266, _, none⟩) NB259_266.out _).trans (((cell_far (p := ⟨gb266, _, none⟩) NB259_266.out _).trans (hHeld.1)))), ((cell_far (p := ⟨gb266, _, none⟩) NB259_266.out _).trans (((cell_far (p := ⟨gb266, _, none⟩) NB259_266.out _).trans (hHeld.2))))⟩ (fun hHeld => ?_)
 clear hK K
 refine pure_ (i := 10) (N := some 13) (v := ?_) (a' := ?_) #[true, true, true, true, true, true, true, true, true, true, true] rfl rfl (any_of HT_.out (by kernel_rfl)) (fun _ _ _ h => h) (Or.inl ⟨by rfl, ?_⟩) ?_ ?_
 rotate_left
 ·intro w'
  go_simp
  with_reducible rfl
 rotate_left
 ·simp only [Act.put, l1_24, l2_24, l3_24, i64_w, i32_w]
  rfl
 refine done_ (done_of HT_.out (by kernel_rfl)) ?_
 have n0_ : Aside0 (Kd.V k50 50 ((w23.setCell ⟨gb266, 0, none⟩ (.int .i64 t261)).setCell ⟨gb266, 1, none⟩ (.slice Ao25 t262.length co25)) w.heap.size (fun k_ => (P0_1_ k_ ∨ w.heap.size ≤ k_) ∧ k_ ≠ gb252 ∧ k_ ≠ gb253 ∧ k_ ≠ gb259 ∧ k_ ≠ gb266) (.slice A0_1 l0_1.length c0_1) l0_1) := ⟨by (with_reducible repeat (first | apply v1_24 | apply v2_24 | apply v3_24)); exact v4_24 (v5_24 (p := ⟨gb266, 1, none⟩) (v5_24 (p := ⟨gb266, 0, none⟩) (v4_24 HO0_1.out (fun k_ hk => (⟨hk, hk.2.2.2.2⟩ : _ ∧ k_ ≠ gb266))) (fun _ hk => hk.2) (.int .i64 t261)) (fun _ hk => hk.2) (.slice Ao25 t262.length co25)) (fun _ hk => ⟨hk.1.1, ⟨hk.1.2.1, ⟨hk.1.2.2.1, ⟨hk.1.2.2.2.1, hk.1.2.2.2.2⟩⟩⟩⟩)⟩
 have n1_ : Aside0 (Kd.V k50 50 ((w23.setCell ⟨gb266, 0, none⟩ (.int .i64 t261)).setCell ⟨gb266, 1, none⟩ (.slice Ao25 t262.length co25)) w.heap.size (fun k_ => (P0_1_ k_ ∨ w.heap.size ≤ k_) ∧ k_ ≠ gb252 ∧ k_ ≠ gb253 ∧ k_ ≠ gb259 ∧ k_ ≠ gb266) (.slice Ao18 t255.length co18) t255) := ⟨by (with_reducible repeat (first | apply v1_24 | apply v2_24 | apply v3_24)); exact v4_24 (v5_24 (p := ⟨gb266, 1, none⟩) (v5_24 (p := ⟨gb266, 0, none⟩) (v4_24 HO257.out (fun k_ hk => (⟨hk, hk.2.2.2.2⟩ : _ ∧ k_ ≠ gb266))) (fun _ hk => hk.2) (.int .i64 t261)) (fun _ hk => hk.2) (.slice Ao25 t262.length co25)) (fun _ hk => ⟨hk.1.1, ⟨hk.1.2.1, ⟨hk.1.2.2.1, ⟨hk.1.2.2.2.1, hk.1.2.2.2.2⟩⟩⟩⟩)⟩
 have n2_ : Aside0 (Kd.V k50 50 ((w23.setCell ⟨gb266, 0, none⟩ (.int .i64 t261)).setCell ⟨gb266, 1, none⟩ (.slice Ao25 t262.length co25)) w.heap.size (fun k_ => (P0_1_ k_ ∨ w.heap.size ≤ k_) ∧ k_ ≠ gb252 ∧ k_ ≠ gb253 ∧ k_ ≠ gb259 ∧ k_ ≠ gb266) (.slice Ao25 t262.length co25) t262) := ⟨by (with_reducible repeat (first | apply v1_24 | apply v2_24 | apply v3_24)); exact v4_24 (v5_24 (p := ⟨gb266, 1, none⟩) (v5_24 (p := ⟨gb266, 0, none⟩) (v4_24 HO264.out (fun k_ hk => (⟨hk, hk.2.2.2.2⟩ : _ ∧ k_ ≠ gb266))) (fun _ hk => hk.2) (.int .i64 t261)) (fun _ hk => hk.2) (.slice Ao25 t262.length co25)) (fun _ hk => ⟨hk.1.1, ⟨hk.1.2.1, ⟨hk.1.2.2.1, ⟨hk.1.2.2.2.1, hk.1.2.2.2.2⟩⟩⟩⟩)⟩
 have n3_ : Aside0 (((w23.setCell ⟨gb266, 0, none⟩ (.int .i64 t261)).setCell ⟨gb266, 1, none⟩ (.slice Ao25 t262.length co25)).heap[gb252]? = some (.cells #[.int .i64 a0_0, .slice A0_1 l0_1.length c0_1] 24 (0, 0))) := ⟨by (with_reducible repeat (first | refine b1_24 ?_ _ | refine b3_24 ?_ | refine b2_24 ?_ _)); refine blk_far ?_ NB252_266.out _; (with_reducible repeat (first | refine b1_24 ?_ _ | refine b3_24 ?_ | refine b2_24 ?_ _)); refine blk_far ?_ NB252_266.out _; (with_reducible repeat (first | refine b1_24 ?_ _ | refine b3_24 ?_ | refine b2_24 ?_ _)); exact BK252.out⟩
 have n4_ : Aside0 (((w23.setCell ⟨gb266, 0, none⟩ (.int .i64 t261)).setCell ⟨gb266, 1, none⟩ (.slice Ao25 t262.length co25)).heap[gb253]? = some (.cells #[.int .i64 0, .slice none 0 0] 24 (0, 0))) := ⟨by (with_reducible repeat (first | refine b1_24 ?_ _ | refine b3_24 ?_ | refine b2_24 ?_ _)); refine blk_far ?_ NB253_266.out _; (with_reducible repeat (first | refine b1_24 ?_ _ | refine b3_24 ?_ | refine b2_24 ?_ _)); refine blk_far ?_ NB253_266.out _; (with_reducible repeat (first | refine b1_24 ?_ _ | refine b3_24 ?_ | refine b2_24 ?_ _)); exact BK253.out⟩
 have n5_ : Aside0 (((w23.setCell ⟨gb266, 0, none⟩ (.int .i64 t261)).setCell ⟨gb266, 1, none⟩ (.slice Ao25 t262.length co25)).heap[gb259]? = some (.cells #[.int .i64 t254, .slice Ao18 t255.length co18] 24 (0, 0))) := ⟨by (with_reducible repeat (first | refine b1_24 ?_ _ | refine b3_24 ?_ | refine b2_24 ?_ _)); refine blk_far ?_ NB259_266.out _; (with_reducible repeat (first | refine b1_24 ?_ _ | refine b3_24 ?_ | refine b2_24 ?_ _)); refine blk_far ?_ NB259_266.out _; (with_reducible repeat (first | refine b1_24 ?_ _ | refine b3_24 ?_ | refine b2_24 ?_ _)); exact BK259.out⟩
 have n6_ : Aside0 (((w23.setCell ⟨gb266, 0, none⟩ (.int .i64 t261)).setCell ⟨gb266, 1, none⟩ (.slice Ao25 t262.length co25)).heap[gb266]? = some (.cells #[.int .i64 t261, .slice Ao25 t262.length co25] 24 (0, 0))) := ⟨by (with_reducible repeat (first | refine b1_24 ?_ _ | refine b3_24 ?_ | refine b2_24 ?_ _)); refine blk_put (cs := #[.int .i64 t261, .slice none 0 0]) ?_ 1 _ rfl; (with_reducible repeat (first | refine b1_24 ?_ _ | refine b3_24 ?_ | refine b2_24 ?_ _)); refine blk_put (cs := #[.int .i64 0, .slice none 0 0]) ?_ 0 _ rfl; (with_reducible repeat (first | refine b1_24 ?_ _ | refine b3_24 ?_ | refine b2_24 ?_ _)); exact BK266.out⟩
 have n7_ : Aside0 (Below w.heap.size w ((w23.setCell ⟨gb266, 0, none⟩ (.int .i64 t261)).setCell ⟨gb266, 1, none⟩ (.slice Ao25 t262.length co25))) := ⟨by repeat (first | (with_reducible first | exact HB.out | apply b8_24 | apply b6_24 | apply b7_24 | refine b4_24 ?_ GE252.out | refine b4_24 ?_ GE253.out | refine b4_24 ?_ GE259.out | refine b4_24 ?_ GE266.out) | exact HB.out)⟩
 (try clear HO0_1)
 (try clear HO257)
 (try clear HO264)
 (try clear BK252)
 (try clear BK253)
 (try clear BK259)
 (try clear BK266)
 (try clear HB)
 generalize ((w23.setCell ⟨gb266, 0, none⟩ (.int .i64 t261)).setCell ⟨gb266, 1, none⟩ (.slice Ao25 t262.length co25)) = w27 at n0_ n1_ n2_ n3_ n4_ n5_ n6_ n7_ ⊢
 have HO0_1 := n0_
 have HO257 := n1_
 have HO264 := n2_
 have BK252 := n3_
 have BK253 := n4_
 have BK259 := n5_
 have BK266 := n6_
 have HB := n7_
 clear n0_ n1_ n2_ n3_ n4_ n5_ n6_ n7_
 have hnb28 := NB266_252.out
 have hnc28 := NB252_266.out
 have hnb29 := NB266_253.out
 have hnc29 := NB253_266.out
 have hnb30 := NB266_259.out
 have hnc30 := NB259_266.out
 obtain ⟨hcz31_0, hcz31_1, hfz31_0, hfz31_1⟩ := cells2_24 BK266.out
 try go_wp2_with (first | ((with_reducible refine gate_callee (f := 20) rfl ?_); refine goesL_ (some 35) rfl rfl Try.func20 (by kernel_rfl) rfl #[.agg #[.int .i64 t261, .slice Ao25 t262.length co25], .int .i64 t258, .int .i64 t265] rfl (by (try simp only [List.map_toArray, List.map_cons, List.map_nil]); first | done | rfl | (simp only [List.length_drop, List.length_take]; rfl)) ?_; (with_reducible refine (proofmarkref13_Or.calls k t261 (fun k_ => ((P0_1_ k_ ∨ w.heap.size ≤ k_) ∧ (k_ ≠ gb252 ∧ (k_ ≠ gb253 ∧ (k_ ≠ gb259 ∧ k_ ≠ gb266))))) _ _ t262 t258 t265 t267 t268 t271 _ ?side1 A8.out).mono ?_); (case side1 => exact HO264.out); rintro e w32 ⟨v269, rfl, ho0, hb⟩; refine ⟨_, rfl, ?_⟩; have n0_ := aM_24 (v6_24 (by (with_reducible repeat (first | apply v1_24 | apply v2_24 | apply v3_24)); exact HO0_1.out) hb); have n1_ := aM_24 (v6_24 (by (with_reducible repeat (first | apply v1_24 | apply v2_24 | apply v3_24)); exact HO257.out) hb); have n2_ := aM_24 (v6_24 (by (with_reducible repeat (first | apply v1_24 | apply v2_24 | apply v3_24)); exact HO264.out) hb); have n3_ := aM_24 (Kd.V_lower (v4_24 (ok' := fun k_ => (P0_1_ k_ ∨ w.heap.size ≤ k_) ∧ k_ ≠ gb252 ∧ k_ ≠ gb253 ∧ k_ ≠ gb259 ∧ k_ ≠ gb266) ho0 (fun k_ hk_ => ⟨Or.elim hk_ (fun hs_ => hs_.1) (fun hn_ => (.inr (Nat.le_trans (b0_24 (by repeat (first | (with_reducible first | exact HB.out | apply b8_24 | apply b6_24 | apply b7_24 | refine b4_24 ?_ GE252.out | refine b4_24 ?_ GE253.out | refine b4_24 ?_ GE259.out | refine b4_24 ?_ GE266.out) | exact HB.out))) hn_))), Or.elim hk_ (fun hs_ => hs_.2.1) (fun hn_ => (f1_24 (g := gb252) (o := .cells #[.int .i64 a0_0, .slice A0_1 l0_1.length c0_1] 24 (0, 0)) (by exact BK252.out) k_ hn_)), Or.elim hk_ (fun hs_ => hs_.2.2.1) (fun hn_ => (f1_24 (g := gb253) (o := .cells #[.int .i64 0, .slice none 0 0] 24 (0, 0)) (by exact BK253.out) k_ hn_)), Or.elim hk_ (fun hs_ => hs_.2.2.2.1) (fun hn_ => (f1_24 (g := gb259) (o := .cells #[.int .i64 t254, .slice Ao18 t255.length co18] 24 (0, 0)) (by exact BK259.out) k_ hn_)), Or.elim hk_ (fun hs_ => hs_.2.2.2.2) (fun hn_ => (f1_24 (g := gb266) (o := .cells #[.int .i64 t261, .slice Ao25 t262.length co25] 24 (0, 0)) (by exact BK266.out) k_ hn_))⟩)) (b0_24 (by repeat (first | (with_reducible first | exact HB.out | apply b8_24 | apply b6_24 | apply b7_24 | refine b4_24 ?_ GE252.out | refine b4_24 ?_ GE253.out | refine b4_24 ?_ GE259.out | refine b4_24 ?_ GE266.out) | exact HB.out)))); have n4_ := aM_24 (b5_24 (by exact BK252.out) hb); have n5_ := aM_24 (b5_24 (by exact BK253.out) hb); have n6_ := aM_24 (b5_24 (by exact BK259.out) hb); have n7_ := aM_24 (b5_24 (by exact BK266.out) hb); have n8_ := aM_24 (b9_24 (by repeat (first | (with_reducible first | exact HB.out | apply b8_24 | apply b6_24 | apply b7_24 | refine b4_24 ?_ GE252.out | refine b4_24 ?_ GE253.out | refine b4_24 ?_ GE259.out | refine b4_24 ?_ GE266.out) | exact HB.out)) hb); clear HO0_1 HO257 HO264 BK252 BK253 BK259 BK266 HB; have HO0_1 := n0_; have HO257 := n1_; have HO264 := n2_; have HO270 := n3_; have BK252 := n4_; have BK253 := n5_; have BK259 := n6_; have BK266 := n7_; have HB := n8_; clear n0_ n1_ n2_ n3_ n4_ n5_ n6_ n7_ n8_; (try clear hb); (try clear hb2); (try clear hk); (try clear hi); (try clear ho0)) | ((with_reducible refine gate_dst (N := 14) rfl ?_); refine box_event ?hg (N := 14) ?hd (cs := #[.int .i64 0, .slice none 0 0]) (t := 24) ?hr ?_; (case hd => rfl); (case hg => rfl); (case hr => first | (go_simp; done) | (go_simp; rfl)); intro gb272 hg w33 hbox hb; have n0_ := aM_24 (v6_24 (Kd.V_elderB (by (with_reducible repeat (first | apply v1_24 | apply v2_24 | apply v3_24)); exact HO0_1.out) gb272 (Nat.le_of_eq hg.symm)) hb); have n1_ := aM_24 (v6_24 (Kd.V_elderB (by (with_reducible repeat (first | apply v1_24 | apply v2_24 | apply v3_24)); exact HO257.out) gb272 (Nat.le_of_eq hg.symm)) hb); have n2_ := aM_24 (v6_24 (Kd.V_elderB (by (with_reducible repeat (first | apply v1_24 | apply v2_24 | apply v3_24)); exact HO264.out) gb272 (Nat.le_of_eq hg.symm)) hb); have n3_ := aM_24 (v6_24 (Kd.V_elderB (by (with_reducible repeat (first | apply v1_24 | apply v2_24 | apply v3_24)); exact HO270.out) gb272 (Nat.le_of_eq hg.symm)) hb); have n4_ := aM_24 (b5_24 (by exact BK252.out) hb); have n5_ := aM_24 (b5_24 (by exact BK253.out) hb); have n6_ := aM_24 (b5_24 (by exact BK259.out) hb); have n7_ := aM_24 (b5_24 (by exact BK266.out) hb); have n8_ := aM_24 (b9_24 (by repeat (first | (with_reducible first | exact HB.out | apply b8_24 | apply b6_24 | apply b7_24 | refine b4_24 ?_ GE252.out | refine b4_24 ?_ GE253.out | refine b4_24 ?_ GE259.out | refine b4_24 ?_ GE266.out) | exact HB.out)) hb); have n9_ := aM_24 (hbox); have n10_ := aM_24 ((by rw [hg]; exact (b0_24 (by repeat (first | (with_reducible first | exact HB.out | apply b8_24 | apply b6_24 | apply b7_24 | refine b4_24 ?_ GE252.out | refine b4_24 ?_ GE253.out | refine b4_24 ?_ GE259.out | refine b4_24 ?_ GE266.out) | exact HB.out))) : w.heap.size ≤ gb272)); have n11_ := aM_24 ((by rw [hg]; exact (b0_24 (by repeat (first | (with_reducible first | exact HB.out | apply b8_24 | apply b6_24 | apply b7_24 | refine b4_24 ?_ GE252.out | refine b4_24 ?_ GE253.out | refine b4_24 ?_ GE259.out | refine b4_24 ?_ GE266.out) | exact HB.out))) : w.heap.size ≤ gb272)); have n12_ := aM_24 ((by rw [hg]; exact Nat.ne_of_lt (blk_lt (by exact BK252.out)) : gb252 ≠ gb272)); have n13_ := aM_24 ((by rw [hg]; exact Nat.ne_of_gt (blk_lt (by exact BK252.out)) : gb272 ≠ gb252)); have n14_ := aM_24 ((by rw [hg]; exact Nat.ne_of_lt (blk_lt (by exact BK253.out)) : gb253 ≠ gb272)); have n15_ := aM_24 ((by rw [hg]; exact Nat.ne_of_gt (blk_lt (by exact BK253.out)) : gb272 ≠ gb253)); have n16_ := aM_24 ((by rw [hg]; exact Nat.ne_of_lt (blk_lt (by exact BK259.out)) : gb259 ≠ gb272)); have n17_ := aM_24 ((by rw [hg]; exact Nat.ne_of_gt (blk_lt (by exact BK259.out)) : gb272 ≠ gb259)); have n18_ := aM_24 ((by rw [hg]; exact Nat.ne_of_lt (blk_lt (by exact BK266.out)) : gb266 ≠ gb272)); have n19_ := aM_24 ((by rw [hg]; exact Nat.ne_of_gt (blk_lt (by exact BK266.out)) : gb272 ≠ gb266)); clear HO0_1 HO257 HO264 HO270 BK252 BK253 BK259 BK266 HB; have HO0_1 := n0_; have HO257 := n1_; have HO264 := n2_; have HO270 := n3_; have BK252 := n4_; have BK253 := n5_; have BK259 := n6_; have BK266 := n7_; have HB := n8_; have BK272 := n9_; have GW272 := n10_; have GE272 := n11_; have NB252_272 := n12_; have NB272_252 := n13_; have NB253_272 := n14_; have NB272_253 := n15_; have NB259_272 := n16_; have NB272_259 := n17_; have NB266_272 := n18_; have NB272_266 := n19_; clear n0_ n1_ n2_ n3_ n4_ n5_ n6_ n7_ n8_ n9_ n10_ n11_ n12_ n13_ n14_ n15_ n16_ n17_ n18_ n19_; clear hb hbox hg; have hnb34 := NB272_252.out; have hnc34 := NB252_272.out; have hnb35 := NB272_253.out; have hnc35 := NB253_272.out; have hnb36 := NB272_259.out; have hnc36 := NB259_272.out; have hnb37 := NB272_266.out; have hnc37 := NB266_272.out; obtain ⟨hcz38_0, hcz38_1, hfz38_0, hfz38_1⟩ := cells2_24 BK272.out; obtain ⟨Ao39, co39, eo39⟩ := Kd.V_slice HO270.out; subst eo39; obtain ⟨hcz40_0, hcz40_1, hfz40_0, hfz40_1⟩ := cells2_24 BK253.out))
 refine bodyPost_ret (results_ct rfl _ _ gb253 24 #[.int .i64 t267, .slice Ao39 t268.length co39] (0, 0) _ rfl (by (with_reducible repeat (first | refine b1_24 ?_ _ | refine b3_24 ?_ | refine b2_24 ?_ _)); refine blk_put (cs := #[.int .i64 t267, .slice none 0 0]) ?_ 1 _ rfl; (with_reducible repeat (first | refine b1_24 ?_ _ | refine b3_24 ?_ | refine b2_24 ?_ _)); refine blk_put (cs := #[.int .i64 0, .slice none 0 0]) ?_ 0 _ rfl; (with_reducible repeat (first | refine b1_24 ?_ _ | refine b3_24 ?_ | refine b2_24 ?_ _)); refine blk_far ?_ NB253_272.out _; (with_reducible repeat (first | refine b1_24 ?_ _ | refine b3_24 ?_ | refine b2_24 ?_ _)); refine blk_far ?_ NB253_272.out _; (with_reducible repeat (first | refine b1_24 ?_ _ | refine b3_24 ?_ | refine b2_24 ?_ _)); exact BK253.out) Try.underlying24 rfl (by kernel_rfl)) rfl ?_
 exact ⟨_, by first | rfl | (simp [errW_none, errW_some] <;> rfl) | (simp [*, errW_none, errW_some] <;> rfl), by (with_reducible repeat (first | apply v1_24 | apply v2_24 | apply v3_24)); exact v4_24 (v5_24 (p := ⟨gb253, 1, none⟩) (v5_24 (p := ⟨gb253, 0, none⟩) (v5_24 (p := ⟨gb272, 1, none⟩) (v5_24 (p := ⟨gb272, 0, none⟩) (v4_24 (v4_24 HO270.out (fun k_ hk => (⟨hk, hk.2⟩ : _ ∧ k_ ≠ gb272))) (fun k_ hk => (⟨hk, hk.1.1.2.2.1⟩ : _ ∧ k_ ≠ gb253))) (fun _ hk => hk.1.2) (.int .i64 t267)) (fun _ hk => hk.1.2) (.slice Ao39 t268.length co39)) (fun _ hk => hk.2) (.int .i64 t267)) (fun _ hk => hk.2) (.slice Ao39 t268.length co39)) (fun _ hk => hk.1.1.1.1), by repeat (first | (with_reducible first | exact HB.out | apply b8_24 | apply b6_24 | apply b7_24 | refine b4_24 ?_ GE252.out | refine b4_24 ?_ GE253.out | refine b4_24 ?_ GE259.out | refine b4_24 ?_ GE266.out | refine b4_24 ?_ GE272.out) | exact HB.out)⟩
end Go.Proofs.Ytlnjefcfbncegaa.Xb
