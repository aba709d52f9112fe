/- Slimmed by this session: what nothing names is struck out. -/
import Derived.Test.YtlnjefcfbncegaaXb0
import Derived.Test.YtlnjefcfbncegaaXb21
import Derived.Test.YtlnjefcfbncegaaXb22
namespace Go.Proofs.Ytlnjefcfbncegaa.Xb
open Go.RowKit Go.Proofs.YtlnjefcfbncegaaW.PrintWords Go.Proofs.YtlnjefcfbncegaaW.PrintLast Go.Proofs.YtlnjefcfbncegaaW.PrintMore
attribute [local go_sem] max2_int min2_int max_two min_two max_three min_three max_four min_four
set_option linter.unusedVariables false
set_option linter.unusedSimpArgs false
abbrev b1_23 := @blk_drewN
abbrev b2_23 := @blk_alloc
abbrev b3_23 := @blk_drew
abbrev b4_23 := @below_set
abbrev aM_23 := @Aside0.mk
abbrev v1_23 := @Kd.V_alloc
abbrev v2_23 := @Kd.V_drewN
abbrev v3_23 := @Kd.V_drew
abbrev b5_23 := @blk_below
abbrev v4_23 := @Kd.V_mono
abbrev b6_23 := @pw_below_drewN
abbrev b7_23 := @below_drew1
abbrev b8_23 := @below_alloc
abbrev b9_23 := @below_step
abbrev b0_23 := @below_size
abbrev v6_23 := @Kd.V_below
abbrev l1_23 := @List.setIfInBounds_toArray
abbrev l2_23 := @List.set_cons_zero
abbrev l3_23 := @List.set_cons_succ
abbrev f1_23 := @Kd.freshB
def proofmarkref13_Or.f (k : Nat) (a0_0 : Int) (l0_1 : List (S50)) (a1 : Int) (a2 : Int) : Option (Int × (List (S50)) × Int) := (proofmarkref13_turn.f a1).bind fun t243 => ((proofmarkref13_turn.f a2).bind fun t244 => ((proofmarkref13_And.f k a0_0 l0_1 t243 t244).bind fun bt245 => ((proofmarkref13_turn.f bt245.2.2).bind fun t251 => (some (bt245.1, bt245.2.1, t251)))))
theorem proofmarkref13_Or.mono : ∀ a0 a1 a2 a3 k, LeO (proofmarkref13_Or.f k a0 a1 a2 a3) (proofmarkref13_Or.f (k + 1) a0 a1 a2 a3) := by
 intro a0 a1 a2 a3 k
 unfold proofmarkref13_Or.f
 repeat' first
   | (with_reducible exact proofmarkref13_And.mono _ _ _ _ _)
   | (with_reducible exact LeO.refl _)
   | (with_reducible exact LeO.none _)
   | (with_reducible refine LeO.ite ?_ ?_)
   | (with_reducible refine LeO.bind ?_ (fun _ => ?_))
   | exact proofmarkref13_And.mono _ _ _ _ _
   | exact LeO.none _
   | refine LeO.ite ?_ ?_
   | refine LeO.bind ?_ (fun _ => ?_)
def proofmarkref13_Or.T1 : Bool × List (List Nat × List Nat) := (true, [([], []), ([], []), ([1], [1]), ([], []), ([3, 2], [3]), ([0, 2, 4, 4], [0, 2, 4]), ([5], [5]), ([6], [6]), ([6], [6]), ([], []), ([9, 7, 5, 0, 1, 2, 3, 4, 5, 6, 7, 9], [7, 9]), ([8, 10, 0, 1, 2, 3, 4, 5, 6, 7, 8, 9, 10], [8])])
def proofmarkref13_Or.B1 : List Nat := [0, 0, 2, 0, 14, 31, 63, 127, 127, 0, 767, 2047]
theorem proofmarkref13_Or.tab1 : rtab .any (opsOf Try.f20 1) = proofmarkref13_Or.T1 := by kernel_rfl
theorem proofmarkref13_Or.bits1 : waitsOk proofmarkref13_Or.T1.2 proofmarkref13_Or.B1 = true := by kernel_rfl
set_option maxHeartbeats 8000000 in
set_option maxRecDepth 100000 in
theorem proofmarkref13_Or.calls (k : Nat) (a0_0 : Int) (P0_1_ : Nat → Prop) (A0_1 : Option Addr) (c0_1 : Nat) (l0_1 : List (S50)) (a1 : Int) (a2 : Int) (r1 : Int) (r2 : List (S50)) (r3 : Int) (w : World) (hs0_1 : Kd.V k50 50 w w.heap.size (fun k_ => P0_1_ k_) (.slice A0_1 l0_1.length c0_1) l0_1) (h : proofmarkref13_Or.f k a0_0 l0_1 a1 a2 = some (r1, r2, r3)) :
  Calls Try.prog 20 #[.agg #[.int .i64 a0_0, .slice A0_1 l0_1.length c0_1], .int .i64 a1, .int .i64 a2] w fun e w' => ∃ v1_ : Value, e = .returned (.tuple #[.agg #[.int .i64 r1, v1_], .int .i64 r3]) ∧ Kd.V k50 50 w' w.heap.size (fun k_ => (P0_1_ k_ ∨ w.heap.size ≤ k_)) v1_ r2 ∧ Below w.heap.size w w' := by
 have hu24 := Try.underlying24
 have HO0_1 := aM_23 (show Kd.V k50 50 w w.heap.size (fun k_ => (P0_1_ k_ ∨ w.heap.size ≤ k_)) (.slice A0_1 l0_1.length c0_1) l0_1 from v4_23 hs0_1 (fun k_ hk => .inl hk))
 have HB := aM_23 (Below.refl w.heap.size w)
 have H : ((proofmarkref13_turn.f a1).bind fun t243 => ((proofmarkref13_turn.f a2).bind fun t244 => ((proofmarkref13_And.f k a0_0 l0_1 t243 t244).bind fun bt245 => ((proofmarkref13_turn.f bt245.2.2).bind fun t251 => (some (bt245.1, bt245.2.1, t251)))))) = some (r1, r2, r3) := h
 clear h
 replace H := Option.bind_eq_some_iff.mp H
 obtain ⟨t243, A40, H⟩ := H
 replace H : ((proofmarkref13_turn.f a2).bind fun t244 => ((proofmarkref13_And.f k a0_0 l0_1 t243 t244).bind fun bt245 => ((proofmarkref13_turn.f bt245.2.2).bind fun t251 => (some (bt245.1, bt245.2.1, t251))))) = some (r1, r2, r3) := H
 have A4 := aM_23 A40
 clear A40
 replace H := Option.bind_eq_some_iff.mp H
 obtain ⟨t244, A50, H⟩ := H
 replace H : ((proofmarkref13_And.f k a0_0 l0_1 t243 t244).bind fun bt245 => ((proofmarkref13_turn.f bt245.2.2).bind fun t251 => (some (bt245.1, bt245.2.1, t251)))) = some (r1, r2, r3) := H
 have A5 := aM_23 A50
 clear A50
 replace H := Option.bind_eq_some_iff.mp H
 obtain ⟨⟨t245, t246, t249⟩, A60, H⟩ := H
 replace H : ((proofmarkref13_turn.f t249).bind fun t251 => (some (t245, t246, t251))) = some (r1, r2, r3) := H
 have A6 := aM_23 A60
 clear A60
 replace H := Option.bind_eq_some_iff.mp H
 obtain ⟨t251, A70, H⟩ := H
 replace H : (some (t245, t246, t251)) = some (r1, r2, r3) := H
 have A7 := aM_23 A70
 clear A70
 simp only [Option.some.injEq, Prod.mk.injEq] at H
 obtain ⟨rfl, rfl, rfl⟩ := H
 go_enter Try.func20, Try.ntmps20
 try go_wp2_with (first | ((with_reducible refine gate_dst (N := 3) rfl ?_); refine box_event ?hg (N := 3) ?hd (cs := #[.int .i64 a0_0, .slice A0_1 l0_1.length c0_1]) (t := 24) ?hr ?_; (case hd => rfl); (case hg => rfl); (case hr => first | (go_simp; done) | (go_simp; rfl)); intro gb241 hg w8 hbox hb; have n0_ := aM_23 (v6_23 (Kd.V_elderB (by (with_reducible repeat (first | apply v1_23 | apply v2_23 | apply v3_23)); exact HO0_1.out) gb241 (Nat.le_of_eq hg.symm)) hb); have n1_ := aM_23 (b9_23 (by repeat (first | (with_reducible first | exact HB.out | apply b8_23 | apply b6_23 | apply b7_23) | exact HB.out)) hb); have n2_ := aM_23 (hbox); have n3_ := aM_23 ((by rw [hg]; exact (b0_23 (by repeat (first | (with_reducible first | exact HB.out | apply b8_23 | apply b6_23 | apply b7_23) | exact HB.out))) : w.heap.size ≤ gb241)); have n4_ := aM_23 ((by rw [hg]; exact (b0_23 (by repeat (first | (with_reducible first | exact HB.out | apply b8_23 | apply b6_23 | apply b7_23) | exact HB.out))) : w.heap.size ≤ gb241)); clear HO0_1 HB; have HO0_1 := n0_; have HB := n1_; have BK241 := n2_; have GW241 := n3_; have GE241 := n4_; clear n0_ n1_ n2_ n3_ n4_; clear hb hbox hg) | ((with_reducible refine gate_dst (N := 6) rfl ?_); refine box_event ?hg (N := 6) ?hd (cs := #[.int .i64 0, .slice none 0 0]) (t := 24) ?hr ?_; (case hd => rfl); (case hg => rfl); (case hr => first | (go_simp; done) | (go_simp; rfl)); intro gb242 hg w9 hbox hb; have n0_ := aM_23 (v6_23 (Kd.V_elderB (by (with_reducible repeat (first | apply v1_23 | apply v2_23 | apply v3_23)); exact HO0_1.out) gb242 (Nat.le_of_eq hg.symm)) hb); have n1_ := aM_23 (b5_23 (by exact BK241.out) hb); have n2_ := aM_23 (b9_23 (by repeat (first | (with_reducible first | exact HB.out | apply b8_23 | apply b6_23 | apply b7_23 | refine b4_23 ?_ GE241.out) | exact HB.out)) hb); have n3_ := aM_23 (hbox); have n4_ := aM_23 ((by rw [hg]; exact (b0_23 (by repeat (first | (with_reducible first | exact HB.out | apply b8_23 | apply b6_23 | apply b7_23 | refine b4_23 ?_ GE241.out) | exact HB.out))) : w.heap.size ≤ gb242)); have n5_ := aM_23 ((by rw [hg]; exact (b0_23 (by repeat (first | (with_reducible first | exact HB.out | apply b8_23 | apply b6_23 | apply b7_23 | refine b4_23 ?_ GE241.out) | exact HB.out))) : w.heap.size ≤ gb242)); have n6_ := aM_23 ((by rw [hg]; exact Nat.ne_of_lt (blk_lt (by exact BK241.out)) : gb241 ≠ gb242)); have n7_ := aM_23 ((by rw [hg]; exact Nat.ne_of_gt (blk_lt (by exact BK241.out)) : gb242 ≠ gb241)); clear HO0_1 BK241 HB; have HO0_1 := n0_; have BK241 := n1_; have HB := n2_; have BK242 := n3_; have GW242 := n4_; have GE242 := n5_; have NB241_242 := n6_; have NB242_241 := n7_; clear n0_ n1_ n2_ n3_ n4_ n5_ n6_ n7_; clear hb hbox hg))
 have n0_ := aM_23 (v3_23 HO0_1.out)
 have n1_ := aM_23 (b3_23 BK241.out)
 have n2_ := aM_23 (b3_23 BK242.out)
 have n3_ := aM_23 (b7_23 HB.out)
 clear HO0_1 BK241 BK242 HB
 have HO0_1 := n0_
 have BK241 := n1_
 have BK242 := n2_
 have HB := n3_
 clear n0_ n1_ n2_ n3_
 refine start_ (n := 12) (S := fun w' => w'.cell? ⟨gb241, 0, none⟩ = some (.int .i64 a0_0) ∧ w'.cell? ⟨gb241, 1, none⟩ = some (.slice A0_1 l0_1.length c0_1)) (ds := []) #[false, false, false, false, false, false, false, false, false, false, false, false] (by kernel_rfl) rfl rfl ⟨(blk_cell BK241.out 0).trans rfl, (blk_cell BK241.out 1).trans rfl⟩ (fun hHeld => ?_); refine with_tabW proofmarkref13_Or.tab1 proofmarkref13_Or.bits1 (fun HT_ HW_ => ?_)
 generalize w9.drew = w10 at HO0_1 BK241 BK242 HB hHeld ⊢
 refine pure_ (i := 1) (N := some 12) (v := ?_) (a' := ?_) #[false, true, false, false, false, false, false, false, false, false, false, false] rfl rfl (any_of HT_.out (by kernel_rfl)) (fun _ _ _ h => h) (Or.inl ⟨by rfl, ?_⟩) ?_ ?_
 rotate_left
 ·intro w'
  go_simp
  with_reducible rfl
 rotate_left
 ·simp only [Act.put, l1_23, l2_23, l3_23, i64_w, i32_w]
  rfl
 refine pure_ (i := 3) (N := some 14) (v := ?_) (a' := ?_) #[false, true, false, true, false, false, false, false, false, false, false, false] rfl rfl (any_of HT_.out (by kernel_rfl)) (fun _ _ _ h => h) (Or.inl ⟨by rfl, ?_⟩) ?_ ?_
 rotate_left
 ·intro w'
  go_simp
  with_reducible rfl
 rotate_left
 ·simp only [Act.put, l1_23, l2_23, l3_23, i64_w, i32_w]
  rfl
 refine take_ (i := 0) (N := some 11) (v := ?_) (a' := ?_) #[true, true, false, true, false, false, false, false, false, false, false, false] rfl rfl (take_ofW HT_.out HW_.out (by kernel_rfl)) (fun _ _ _ h => h) (Or.inl ⟨by rfl, ?_⟩) hHeld ?_ ?_
 rotate_left
 ·rintro w' ⟨s0, s1⟩
  go_simp
  with_reducible rfl
 rotate_left
 ·simp only [Act.put, l1_23, l2_23, l3_23, i64_w, i32_w]
  rfl
 refine join_ (σ := Value × Nat) 2 #[true, true, true, true, true, true, true, true, true, true, false, false] (fun s_ => [(13, .int .i64 t243), (15, .int .i64 t244), (16, .tuple #[.agg #[.int .i64 t245, s_.1], .int .i64 t249]), (8, .pointer (some ⟨s_.2, 0, none⟩)), (10, .tuple #[.agg #[.int .i64 t245, s_.1], .int .i64 t249]), (17, .agg #[.int .i64 t245, s_.1]), (18, .int .i64 t249)]) (fun s_ w' => (w'.cell? ⟨gb241, 0, none⟩ = some (.int .i64 a0_0) ∧ w'.cell? ⟨gb241, 1, none⟩ = some (.slice A0_1 l0_1.length c0_1)) ∧ (Kd.V k50 50 w' w.heap.size (fun k_ => (P0_1_ k_ ∨ w.heap.size ≤ k_) ∧ k_ ≠ gb241 ∧ k_ ≠ gb242 ∧ k_ ≠ s_.2) (.slice A0_1 l0_1.length c0_1) l0_1) ∧ (Kd.V k50 50 w' w.heap.size (fun k_ => (P0_1_ k_ ∨ w.heap.size ≤ k_) ∧ k_ ≠ gb241 ∧ k_ ≠ gb242 ∧ k_ ≠ s_.2) s_.1 t246) ∧ (w'.heap[gb241]? = some (.cells #[.int .i64 a0_0, .slice A0_1 l0_1.length c0_1] 24 (0, 0))) ∧ (w'.heap[gb242]? = some (.cells #[.int .i64 0, .slice none 0 0] 24 (0, 0))) ∧ (w'.heap[s_.2]? = some (.cells #[.int .i64 0, .slice none 0 0] 24 (0, 0))) ∧ (w.heap.size ≤ s_.2) ∧ (w.heap.size ≤ s_.2) ∧ (gb241 ≠ s_.2) ∧ (s_.2 ≠ gb241) ∧ (gb242 ≠ s_.2) ∧ (s_.2 ≠ gb242) ∧ (Below w.heap.size w w')) ?_ ?_
 rotate_left
 ·intro hCont
  refine two_ (i := 2) (j := 9) (Ni := some 13) (Nj := some 8) #[true, true, true, true, false, false, false, false, false, false, false, false] #[true, true, false, true, false, false, false, false, false, true, false, false] rfl rfl rfl rfl (two_of HT_.out (by kernel_rfl)) (by decide) (by decide) (fun K hK => ?_) (fun K hK => ?_)
  ·skip
   refine goes_ Try.func38 (by kernel_rfl) rfl #[.int .i64 a1] (by rfl) rfl rfl (by (try simp only [List.map_toArray, List.map_cons, List.map_nil]); first | done | rfl | (simp only [List.length_drop, List.length_take]; rfl)) ?_
   with_reducible refine (proofmarkref13_turn.calls a1 t243 _ A4.out).mono ?_
   rintro e w' ⟨rfl, ⟨nd, rfl⟩⟩
   refine ⟨_, rfl, ?_⟩
   refine hK.out _ _ ⟨(blk_cell BK241.out 0).trans rfl, (blk_cell BK241.out 1).trans rfl⟩ (fun hHeld => ?_)
   clear hK K
   refine norm_ (a' := ?_) ?_ ?_
   rotate_left
   ·show Act.put _ (some 13) _ = _
    simp only [Act.put, l1_23, l2_23, l3_23, i64_w, i32_w]
    rfl
   refine two_ (i := 4) (j := 9) (Ni := some 15) (Nj := some 8) #[true, true, true, true, true, false, false, false, false, false, false, false] #[true, true, true, true, false, false, false, false, false, true, false, false] rfl rfl rfl rfl (two_of HT_.out (by kernel_rfl)) (by decide) (by decide) (fun K hK => ?_) (fun K hK => ?_)
   ·skip
    refine goes_ Try.func38 (by kernel_rfl) rfl #[.int .i64 a2] (by rfl) rfl rfl (by (try simp only [List.map_toArray, List.map_cons, List.map_nil]); first | done | rfl | (simp only [List.length_drop, List.length_take]; rfl)) ?_
    with_reducible refine (proofmarkref13_turn.calls a2 t244 _ A5.out).mono ?_
    rintro e w' ⟨rfl, ⟨nd, rfl⟩⟩
    refine ⟨_, rfl, ?_⟩
    refine hK.out _ _ ⟨(blk_cell BK241.out 0).trans rfl, (blk_cell BK241.out 1).trans rfl⟩ (fun hHeld => ?_)
    clear hK K
    refine norm_ (a' := ?_) ?_ ?_
    rotate_left
    ·show Act.put _ (some 15) _ = _
     simp only [Act.put, l1_23, l2_23, l3_23, i64_w, i32_w]
     rfl
    refine two_ (i := 5) (j := 9) (Ni := some 16) (Nj := some 8) #[true, true, true, true, true, true, false, false, false, false, false, false] #[true, true, true, true, true, false, false, false, false, true, false, false] rfl rfl rfl rfl (two_of HT_.out (by kernel_rfl)) (by decide) (by decide) (fun K hK => ?_) (fun K hK => ?_)
    ·skip
     refine goes_ Try.func17 (by kernel_rfl) rfl #[.agg #[.int .i64 a0_0, .slice A0_1 l0_1.length c0_1], .int .i64 t243, .int .i64 t244] (by rfl) rfl rfl (by (try simp only [List.map_toArray, List.map_cons, List.map_nil]); first | done | rfl | (simp only [List.length_drop, List.length_take]; rfl)) ?_
     with_reducible refine (proofmarkref13_And.calls k a0_0 (fun k_ => (((P0_1_ k_ ∨ w.heap.size ≤ k_) ∧ k_ ≠ gb241) ∧ k_ ≠ gb242)) _ _ l0_1 t243 t244 t245 t246 t249 _ ?side1 A6.out).mono ?_
     (case side1 => exact HO0_1.out)
     rintro e w11 ⟨v247, rfl, ho0, hb⟩
     refine ⟨_, rfl, ?_⟩
     have n0_ := aM_23 (v6_23 (by (with_reducible repeat (first | apply v1_23 | apply v2_23 | apply v3_23)); exact HO0_1.out) hb)
     have n1_ := aM_23 (Kd.V_lower (v4_23 (ok' := fun k_ => (P0_1_ k_ ∨ w.heap.size ≤ k_) ∧ k_ ≠ gb241 ∧ k_ ≠ gb242) ho0 (fun k_ hk_ => ⟨Or.elim hk_ (fun hs_ => hs_.1.1) (fun hn_ => (.inr (Nat.le_trans (b0_23 (by repeat (first | (with_reducible first | exact HB.out | apply b8_23 | apply b6_23 | apply b7_23 | refine b4_23 ?_ GE241.out | refine b4_23 ?_ GE242.out) | exact HB.out))) hn_))), Or.elim hk_ (fun hs_ => hs_.1.2) (fun hn_ => (f1_23 (g := gb241) (o := .cells #[.int .i64 a0_0, .slice A0_1 l0_1.length c0_1] 24 (0, 0)) (by exact BK241.out) k_ hn_)), Or.elim hk_ (fun hs_ => hs_.2) (fun hn_ => (f1_23 (g := gb242) (o := .cells #[.int .i64 0, .slice none 0 0] 24 (0, 0)) (by exact BK242.out) k_ hn_))⟩)) (b0_23 (by repeat (first | (with_reducible first | exact HB.out | apply b8_23 | apply b6_23 | apply b7_23 | refine b4_23 ?_ GE241.out | refine b4_23 ?_ GE242.out) | exact HB.out))))
     have n2_ := aM_23 (b5_23 (by exact BK241.out) hb)
     have n3_ := aM_23 (b5_23 (by exact BK242.out) hb)
     have n4_ := aM_23 (b9_23 (by repeat (first | (with_reducible first | exact HB.out | apply b8_23 | apply b6_23 | apply b7_23 | refine b4_23 ?_ GE241.out | refine b4_23 ?_ GE242.out) | exact HB.out)) hb)
     clear HO0_1 BK241 BK242 HB
     have HO0_1 := n0_
     have HO248 := n1_
     have BK241 := n2_
     have BK242 := n3_
     have HB := n4_
     clear n0_ n1_ n2_ n3_ n4_
     (try clear hb)
     (try clear hb2)
     (try clear hk)
     (try clear hi)
     (try clear ho0)
     refine hK.out _ _ ⟨(blk_cell BK241.out 0).trans rfl, (blk_cell BK241.out 1).trans rfl⟩ (fun hHeld => ?_)
     clear hK K
     refine norm_ (a' := ?_) ?_ ?_
     rotate_left
     ·show Act.put _ (some 16) _ = _
      simp only [Act.put, l1_23, l2_23, l3_23, i64_w, i32_w]
      rfl
     refine pure_ (i := 6) (N := some 10) (v := ?_) (a' := ?_) #[true, true, true, true, true, true, true, false, false, false, false, false] rfl rfl (any_of HT_.out (by kernel_rfl)) (fun _ _ _ h => h) (Or.inl ⟨by rfl, ?_⟩) ?_ ?_
     rotate_left
     ·intro w'
      go_simp
      with_reducible rfl
     rotate_left
     ·simp only [Act.put, l1_23, l2_23, l3_23, i64_w, i32_w]
      rfl
     refine pure_ (i := 7) (N := some 17) (v := ?_) (a' := ?_) #[true, true, true, true, true, true, true, true, false, false, false, false] rfl rfl (any_of HT_.out (by kernel_rfl)) (fun _ _ _ h => h) (Or.inl ⟨by rfl, ?_⟩) ?_ ?_
     rotate_left
     ·intro w'
      go_simp
      with_reducible rfl
     rotate_left
     ·simp only [Act.put, l1_23, l2_23, l3_23, i64_w, i32_w]
      rfl
     refine pure_ (i := 8) (N := some 18) (v := ?_) (a' := ?_) #[true, true, true, true, true, true, true, true, true, false, false, false] rfl rfl (any_of HT_.out (by kernel_rfl)) (fun _ _ _ h => h) (Or.inl ⟨by rfl, ?_⟩) ?_ ?_
     rotate_left
     ·intro w'
      go_simp
      with_reducible rfl
     rotate_left
     ·simp only [Act.put, l1_23, l2_23, l3_23, i64_w, i32_w]
      rfl
     refine one_ (i := 9) (N := some 8) #[true, true, true, true, true, true, true, true, true, true, false, false] rfl rfl (one_of HT_.out (by kernel_rfl)) (by decide) (fun K hK => ?_)
     refine box_step ?hg (N := 8) ?hd (cs := #[.int .i64 0, .slice none 0 0]) (t := 24) ?hr ?_; (case hd => rfl); (case hg => rfl); (case hr => first | (go_simp; done) | (go_simp; rfl))
     intro gb250 hg w12 hbox hb
     have n0_ := aM_23 (v6_23 (Kd.V_elderB (by (with_reducible repeat (first | apply v1_23 | apply v2_23 | apply v3_23)); exact HO0_1.out) gb250 (Nat.le_of_eq hg.symm)) hb)
     have n1_ := aM_23 (v6_23 (Kd.V_elderB (by (with_reducible repeat (first | apply v1_23 | apply v2_23 | apply v3_23)); exact HO248.out) gb250 (Nat.le_of_eq hg.symm)) hb)
     have n2_ := aM_23 (b5_23 (by exact BK241.out) hb)
     have n3_ := aM_23 (b5_23 (by exact BK242.out) hb)
     have n4_ := aM_23 (b9_23 (by repeat (first | (with_reducible first | exact HB.out | apply b8_23 | apply b6_23 | apply b7_23 | refine b4_23 ?_ GE241.out | refine b4_23 ?_ GE242.out) | exact HB.out)) hb)
     have n5_ := aM_23 (hbox)
     have n6_ := aM_23 ((by rw [hg]; exact (b0_23 (by repeat (first | (with_reducible first | exact HB.out | apply b8_23 | apply b6_23 | apply b7_23 | refine b4_23 ?_ GE241.out | refine b4_23 ?_ GE242.out) | exact HB.out))) : w.heap.size ≤ gb250))
     have n7_ := aM_23 ((by rw [hg]; exact (b0_23 (by repeat (first | (with_reducible first | exact HB.out | apply b8_23 | apply b6_23 | apply b7_23 | refine b4_23 ?_ GE241.out | refine b4_23 ?_ GE242.out) | exact HB.out))) : w.heap.size ≤ gb250))
     have n8_ := aM_23 ((by rw [hg]; exact Nat.ne_of_lt (blk_lt (by exact BK241.out)) : gb241 ≠ gb250))
     have n9_ := aM_23 ((by rw [hg]; exact Nat.ne_of_gt (blk_lt (by exact BK241.out)) : gb250 ≠ gb241))
     have n10_ := aM_23 ((by rw [hg]; exact Nat.ne_of_lt (blk_lt (by exact BK242.out)) : gb242 ≠ gb250))
     have n11_ := aM_23 ((by rw [hg]; exact Nat.ne_of_gt (blk_lt (by exact BK242.out)) : gb250 ≠ gb242))
     clear HO0_1 HO248 BK241 BK242 HB
     have HO0_1 := n0_
     have HO248 := n1_
     have BK241 := n2_
     have BK242 := n3_
     have HB := n4_
     have BK250 := n5_
     have GW250 := n6_
     have GE250 := n7_
     have NB241_250 := n8_
     have NB250_241 := n9_
     have NB242_250 := n10_
     have NB250_242 := n11_
     clear n0_ n1_ n2_ n3_ n4_ n5_ n6_ n7_ n8_ n9_ n10_ n11_
     clear hb hbox hg
     refine hK.out _ _ ⟨(blk_cell BK241.out 0).trans rfl, (blk_cell BK241.out 1).trans rfl⟩ (fun hHeld => ?_)
     clear hK K
     refine norm_ (a' := ?_) ?_ ?_
     rotate_left
     ·show Act.put _ (some 8) _ = _
      simp only [Act.put, l1_23, l2_23, l3_23, i64_w, i32_w]
      rfl
     exact norm_ (by simp only [putAll, Act.put, l1_23, l2_23, l3_23]) (hCont (v247, gb250) _ ⟨hHeld, (by (with_reducible repeat (first | apply v1_23 | apply v2_23 | apply v3_23)); exact v4_23 HO0_1.out (fun _ hk => ⟨hk.1.1.1, ⟨hk.1.1.2, ⟨hk.1.2, hk.2⟩⟩⟩)), (by (with_reducible repeat (first | apply v1_23 | apply v2_23 | apply v3_23)); exact v4_23 HO248.out (fun _ hk => ⟨hk.1.1, ⟨hk.1.2.1, ⟨hk.1.2.2, hk.2⟩⟩⟩)), (by exact BK241.out), (by exact BK242.out), (by exact BK250.out), GW250.out, GE250.out, NB241_250.out, NB250_241.out, NB242_250.out, NB250_242.out, (by repeat (first | (with_reducible first | exact HB.out | apply b8_23 | apply b6_23 | apply b7_23 | refine b4_23 ?_ GE241.out | refine b4_23 ?_ GE242.out | refine b4_23 ?_ GE250.out) | exact HB.out))⟩)
    ·skip
     refine box_step ?hg (N := 8) ?hd (cs := #[.int .i64 0, .slice none 0 0]) (t := 24) ?hr ?_; (case hd => rfl); (case hg => rfl); (case hr => first | (go_simp; done) | (go_simp; rfl))
     intro gb250 hg w11 hbox hb
     have n0_ := aM_23 (v6_23 (Kd.V_elderB (by (with_reducible repeat (first | apply v1_23 | apply v2_23 | apply v3_23)); exact HO0_1.out) gb250 (Nat.le_of_eq hg.symm)) hb)
     have n1_ := aM_23 (b5_23 (by exact BK241.out) hb)
     have n2_ := aM_23 (b5_23 (by exact BK242.out) hb)
     have n3_ := aM_23 (b9_23 (by repeat (first | (with_reducible first | exact HB.out | apply b8_23 | apply b6_23 | apply b7_23 | refine b4_23 ?_ GE241.out | refine b4_23 ?_ GE242.out) | exact HB.out)) hb)
     have n4_ := aM_23 (hbox)
     have n5_ := aM_23 ((by rw [hg]; exact (b0_23 (by repeat (first | (with_reducible first | exact HB.out | apply b8_23 | apply b6_23 | apply b7_23 | refine b4_23 ?_ GE241.out | refine b4_23 ?_ GE242.out) | exact HB.out))) : w.heap.size ≤ gb250))
     have n6_ := aM_23 ((by rw [hg]; exact (b0_23 (by repeat (first | (with_reducible first | exact HB.out | apply b8_23 | apply b6_23 | apply b7_23 | refine b4_23 ?_ GE241.out | refine b4_23 ?_ GE242.out) | exact HB.out))) : w.heap.size ≤ gb250))
     have n7_ := aM_23 ((by rw [hg]; exact Nat.ne_of_lt (blk_lt (by exact BK241.out)) : gb241 ≠ gb250))
     have n8_ := aM_23 ((by rw [hg]; exact Nat.ne_of_gt (blk_lt (by exact BK241.out)) : gb250 ≠ gb241))
     have n9_ := aM_23 ((by rw [hg]; exact Nat.ne_of_lt (blk_lt (by exact BK242.out)) : gb242 ≠ gb250))
     have n10_ := aM_23 ((by rw [hg]; exact Nat.ne_of_gt (blk_lt (by exact BK242.out)) : gb250 ≠ gb242))
     clear HO0_1 BK241 BK242 HB
     have HO0_1 := n0_
     have BK241 := n1_
     have BK242 := n2_
     have HB := n3_
     have BK250 := n4_
     have GW250 := n5_
     have GE250 := n6_
     have NB241_250 := n7_
     have NB250_241 := n8_
     have NB242_250 := n9_
     have NB250_242 := n10_
     clear n0_ n1_ n2_ n3_ n4_ n5_ n6_ n7_ n8_ n9_ n10_
     clear hb hbox hg
     refine hK.out _ _ ⟨(blk_cell BK241.out 0).trans rfl, (blk_cell BK241.out 1).trans rfl⟩ (fun hHeld => ?_)
     clear hK K
     refine norm_ (a' := ?_) ?_ ?_
     rotate_left
     ·show Act.put _ (some 8) _ = _
      simp only [Act.put, l1_23, l2_23, l3_23, i64_w, i32_w]
      rfl
     refine one_ (i := 5) (N := some 16) #[true, true, true, true, true, true, false, false, false, true, false, false] rfl rfl (one_of HT_.out (by kernel_rfl)) (by decide) (fun K hK => ?_)
     refine goes_ Try.func17 (by kernel_rfl) rfl #[.agg #[.int .i64 a0_0, .slice A0_1 l0_1.length c0_1], .int .i64 t243, .int .i64 t244] (by rfl) rfl rfl (by (try simp only [List.map_toArray, List.map_cons, List.map_nil]); first | done | rfl | (simp only [List.length_drop, List.length_take]; rfl)) ?_
     with_reducible refine (proofmarkref13_And.calls k a0_0 (fun k_ => ((((P0_1_ k_ ∨ w.heap.size ≤ k_) ∧ k_ ≠ gb241) ∧ k_ ≠ gb242) ∧ k_ ≠ gb250)) _ _ l0_1 t243 t244 t245 t246 t249 _ ?side1 A6.out).mono ?_
     (case side1 => exact HO0_1.out)
     rintro e w12 ⟨v247, rfl, ho0, hb⟩
     refine ⟨_, rfl, ?_⟩
     have n0_ := aM_23 (v6_23 (by (with_reducible repeat (first | apply v1_23 | apply v2_23 | apply v3_23)); exact HO0_1.out) hb)
     have n1_ := aM_23 (Kd.V_lower (v4_23 (ok' := fun k_ => (P0_1_ k_ ∨ w.heap.size ≤ k_) ∧ k_ ≠ gb241 ∧ k_ ≠ gb242 ∧ k_ ≠ gb250) ho0 (fun k_ hk_ => ⟨Or.elim hk_ (fun hs_ => hs_.1.1.1) (fun hn_ => (.inr (Nat.le_trans (b0_23 (by repeat (first | (with_reducible first | exact HB.out | apply b8_23 | apply b6_23 | apply b7_23 | refine b4_23 ?_ GE241.out | refine b4_23 ?_ GE242.out | refine b4_23 ?_ GE250.out) | exact HB.out))) hn_))), Or.elim hk_ (fun hs_ => hs_.1.1.2) (fun hn_ => (f1_23 (g := gb241) (o := .cells #[.int .i64 a0_0, .slice A0_1 l0_1.length c0_1] 24 (0, 0)) (by exact BK241.out) k_ hn_)), Or.elim hk_ (fun hs_ => hs_.1.2) (fun hn_ => (f1_23 (g := gb242) (o := .cells #[.int .i64 0, .slice none 0 0] 24 (0, 0)) (by exact BK242.out) k_ hn_)), Or.elim hk_ (fun hs_ => hs_.2) (fun hn_ => (f1_23 (g := gb250) (o := .cells #[.int .i64 0, .slice none 0 0] 24 (0, 0)) (by exact BK250.out) k_ hn_))⟩)) (b0_23 (by repeat (first | (with_reducible first | exact HB.out | apply b8_23 | apply b6_23 | apply b7_23 | refine b4_23 ?_ GE241.out | refine b4_23 ?_ GE242.out | refine b4_23 ?_ GE250.out) | exact HB.out))))
     have n2_ := aM_23 (b5_23 (by exact BK241.out) hb)
     have n3_ := aM_23 (b5_23 (by exact BK242.out) hb)
     have n4_ := aM_23 (b5_23 (by exact BK250.out) hb)
     have n5_ := aM_23 (b9_23 (by repeat (first | (with_reducible first | exact HB.out | apply b8_23 | apply b6_23 | apply b7_23 | refine b4_23 ?_ GE241.out | refine b4_23 ?_ GE242.out | refine b4_23 ?_ GE250.out) | exact HB.out)) hb)
     clear HO0_1 BK241 BK242 BK250 HB
     have HO0_1 := n0_
     have HO248 := n1_
     have BK241 := n2_
     have BK242 := n3_
     have BK250 := n4_
     have HB := n5_
     clear n0_ n1_ n2_ n3_ n4_ n5_
     (try clear hb)
     (try clear hb2)
     (try clear hk)
     (try clear hi)
     (try clear ho0)
     refine hK.out _ _ ⟨(blk_cell BK241.out 0).trans rfl, (blk_cell BK241.out 1).trans rfl⟩ (fun hHeld => ?_)
     clear hK K
     refine norm_ (a' := ?_) ?_ ?_
     rotate_left
     ·show Act.put _ (some 16) _ = _
      simp only [Act.put, l1_23, l2_23, l3_23, i64_w, i32_w]
      rfl
     refine pure_ (i := 6) (N := some 10) (v := ?_) (a' := ?_) #[true, true, true, true, true, true, true, false, false, true, false, false] rfl rfl (any_of HT_.out (by kernel_rfl)) (fun _ _ _ h => h) (Or.inl ⟨by rfl, ?_⟩) ?_ ?_
     rotate_left
     ·intro w'
      go_simp
      with_reducible rfl
     rotate_left
     ·simp only [Act.put, l1_23, l2_23, l3_23, i64_w, i32_w]
      rfl
     refine pure_ (i := 7) (N := some 17) (v := ?_) (a' := ?_) #[true, true, true, true, true, true, true, true, false, true, false, false] rfl rfl (any_of HT_.out (by kernel_rfl)) (fun _ _ _ h => h) (Or.inl ⟨by rfl, ?_⟩) ?_ ?_
     rotate_left
     ·intro w'
      go_simp
      with_reducible rfl
     rotate_left
     ·simp only [Act.put, l1_23, l2_23, l3_23, i64_w, i32_w]
      rfl
     refine pure_ (i := 8) (N := some 18) (v := ?_) (a' := ?_) #[true, true, true, true, true, true, true, true, true, true, false, false] rfl rfl (any_of HT_.out (by kernel_rfl)) (fun _ _ _ h => h) (Or.inl ⟨by rfl, ?_⟩) ?_ ?_
     rotate_left
     ·intro w'
      go_simp
      with_reducible rfl
     rotate_left
     ·simp only [Act.put, l1_23, l2_23, l3_23, i64_w, i32_w]
      rfl
     exact norm_ (by simp only [putAll, Act.put, l1_23, l2_23, l3_23]) (hCont (v247, gb250) _ ⟨hHeld, (by (with_reducible repeat (first | apply v1_23 | apply v2_23 | apply v3_23)); exact v4_23 HO0_1.out (fun _ hk => ⟨hk.1.1.1, ⟨hk.1.1.2, ⟨hk.1.2, hk.2⟩⟩⟩)), (by (with_reducible repeat (first | apply v1_23 | apply v2_23 | apply v3_23)); exact HO248.out), (by exact BK241.out), (by exact BK242.out), (by exact BK250.out), GW250.out, GE250.out, NB241_250.out, NB250_241.out, NB242_250.out, NB250_242.out, (by repeat (first | (with_reducible first | exact HB.out | apply b8_23 | apply b6_23 | apply b7_23 | refine b4_23 ?_ GE241.out | refine b4_23 ?_ GE242.out | refine b4_23 ?_ GE250.out) | exact HB.out))⟩)
   ·skip
    refine box_step ?hg (N := 8) ?hd (cs := #[.int .i64 0, .slice none 0 0]) (t := 24) ?hr ?_; (case hd => rfl); (case hg => rfl); (case hr => first | (go_simp; done) | (go_simp; rfl))
    intro gb250 hg w11 hbox hb
    have n0_ := aM_23 (v6_23 (Kd.V_elderB (by (with_reducible repeat (first | apply v1_23 | apply v2_23 | apply v3_23)); exact HO0_1.out) gb250 (Nat.le_of_eq hg.symm)) hb)
    have n1_ := aM_23 (b5_23 (by exact BK241.out) hb)
    have n2_ := aM_23 (b5_23 (by exact BK242.out) hb)
    have n3_ := aM_23 (b9_23 (by repeat (first | (with_reducible first | exact HB.out | apply b8_23 | apply b6_23 | apply b7_23 | refine b4_23 ?_ GE241.out | refine b4_23 ?_ GE242.out) | exact HB.out)) hb)
    have n4_ := aM_23 (hbox)
    have n5_ := aM_23 ((by rw [hg]; exact (b0_23 (by repeat (first | (with_reducible first | exact HB.out | apply b8_23 | apply b6_23 | apply b7_23 | refine b4_23 ?_ GE241.out | refine b4_23 ?_ GE242.out) | exact HB.out))) : w.heap.size ≤ gb250))
    have n6_ := aM_23 ((by rw [hg]; exact (b0_23 (by repeat (first | (with_reducible first | exact HB.out | apply b8_23 | apply b6_23 | apply b7_23 | refine b4_23 ?_ GE241.out | refine b4_23 ?_ GE242.out) | exact HB.out))) : w.heap.size ≤ gb250))
    have n7_ := aM_23 ((by rw [hg]; exact Nat.ne_of_lt (blk_lt (by exact BK241.out)) : gb241 ≠ gb250))
    have n8_ := aM_23 ((by rw [hg]; exact Nat.ne_of_gt (blk_lt (by exact BK241.out)) : gb250 ≠ gb241))
    have n9_ := aM_23 ((by rw [hg]; exact Nat.ne_of_lt (blk_lt (by exact BK242.out)) : gb242 ≠ gb250))
    have n10_ := aM_23 ((by rw [hg]; exact Nat.ne_of_gt (blk_lt (by exact BK242.out)) : gb250 ≠ gb242))
    clear HO0_1 BK241 BK242 HB
    have HO0_1 := n0_
    have BK241 := n1_
    have BK242 := n2_
    have HB := n3_
    have BK250 := n4_
    have GW250 := n5_
    have GE250 := n6_
    have NB241_250 := n7_
    have NB250_241 := n8_
    have NB242_250 := n9_
    have NB250_242 := n10_
    clear n0_ n1_ n2_ n3_ n4_ n5_ n6_ n7_ n8_ n9_ n10_
    clear hb hbox hg
    refine hK.out _ _ ⟨(blk_cell BK241.out 0).trans rfl, (blk_cell BK241.out 1).trans rfl⟩ (fun hHeld => ?_)
    clear hK K
    refine norm_ (a' := ?_) ?_ ?_
    rotate_left
    ·show Act.put _ (some 8) _ = _
     simp only [Act.put, l1_23, l2_23, l3_23, i64_w, i32_w]
     rfl
    refine one_ (i := 4) (N := some 15) #[true, true, true, true, true, false, false, false, false, true, false, false] rfl rfl (one_of HT_.out (by kernel_rfl)) (by decide) (fun K hK => ?_)
    refine goes_ Try.func38 (by kernel_rfl) rfl #[.int .i64 a2] (by rfl) rfl rfl (by (try simp only [List.map_toArray, List.map_cons, List.map_nil]); first | done | rfl | (simp only [List.length_drop, List.length_take]; rfl)) ?_
    with_reducible refine (proofmarkref13_turn.calls a2 t244 _ A5.out).mono ?_
    rintro e w' ⟨rfl, ⟨nd, rfl⟩⟩
    refine ⟨_, rfl, ?_⟩
    refine hK.out _ _ ⟨(blk_cell BK241.out 0).trans rfl, (blk_cell BK241.out 1).trans rfl⟩ (fun hHeld => ?_)
    clear hK K
    refine norm_ (a' := ?_) ?_ ?_
    rotate_left
    ·show Act.put _ (some 15) _ = _
     simp only [Act.put, l1_23, l2_23, l3_23, i64_w, i32_w]
     rfl
    refine one_ (i := 5) (N := some 16) #[true, true, true, true, true, true, false, false, false, true, false, false] rfl rfl (one_of HT_.out (by kernel_rfl)) (by decide) (fun K hK => ?_)
    refine goes_ Try.func17 (by kernel_rfl) rfl #[.agg #[.int .i64 a0_0, .slice A0_1 l0_1.length c0_1], .int .i64 t243, .int .i64 t244] (by rfl) rfl rfl (by (try simp only [List.map_toArray, List.map_cons, List.map_nil]); first | done | rfl | (simp only [List.length_drop, List.length_take]; rfl)) ?_
    with_reducible refine (proofmarkref13_And.calls k a0_0 (fun k_ => ((((P0_1_ k_ ∨ w.heap.size ≤ k_) ∧ k_ ≠ gb241) ∧ k_ ≠ gb242) ∧ k_ ≠ gb250)) _ _ l0_1 t243 t244 t245 t246 t249 _ ?side1 A6.out).mono ?_
    (case side1 => exact HO0_1.out)
    rintro e w12 ⟨v247, rfl, ho0, hb⟩
    refine ⟨_, rfl, ?_⟩
    have n0_ := aM_23 (v6_23 (by (with_reducible repeat (first | apply v1_23 | apply v2_23 | apply v3_23)); exact HO0_1.out) hb)
    have n1_ := aM_23 (Kd.V_lower (v4_23 (ok' := fun k_ => (P0_1_ k_ ∨ w.heap.size ≤ k_) ∧ k_ ≠ gb241 ∧ k_ ≠ gb242 ∧ k_ ≠ gb250) ho0 (fun k_ hk_ => ⟨Or.elim hk_ (fun hs_ => hs_.1.1.1) (fun hn_ => (.inr (Nat.le_trans (b0_23 (by repeat (first | (with_reducible first | exact HB.out | apply b8_23 | apply b6_23 | apply b7_23 | refine b4_23 ?_ GE241.out | refine b4_23 ?_ GE242.out | refine b4_23 ?_ GE250.out) | exact HB.out))) hn_))), Or.elim hk_ (fun hs_ => hs_.1.1.2) (fun hn_ => (f1_23 (g := gb241) (o := .cells #[.int .i64 a0_0, .slice A0_1 l0_1.length c0_1] 24 (0, 0)) (by exact BK241.out) k_ hn_)), Or.elim hk_ (fun hs_ => hs_.1.2) (fun hn_ => (f1_23 (g := gb242) (o := .cells #[.int .i64 0, .slice none 0 0] 24 (0, 0)) (by exact BK242.out) k_ hn_)), Or.elim hk_ (fun hs_ => hs_.2) (fun hn_ => (f1_23 (g := gb250) (o := .cells #[.int .i64 0, .slice none 0 0] 24 (0, 0)) (by exact BK250.out) k_ hn_))⟩)) (b0_23 (by repeat (first | (with_reducible first | exact HB.out | apply b8_23 | apply b6_23 | apply b7_23 | refine b4_23 ?_ GE241.out | refine b4_23 ?_ GE242.out | refine b4_23 ?_ GE250.out) | exact HB.out))))
    have n2_ := aM_23 (b5_23 (by exact BK241.out) hb)
    have n3_ := aM_23 (b5_23 (by exact BK242.out) hb)
    have n4_ := aM_23 (b5_23 (by exact BK250.out) hb)
    have n5_ := aM_23 (b9_23 (by repeat (first | (with_reducible first | exact HB.out | apply b8_23 | apply b6_23 | apply b7_23 | refine b4_23 ?_ GE241.out | refine b4_23 ?_ GE242.out | refine b4_23 ?_ GE250.out) | exact HB.out)) hb)
    clear HO0_1 BK241 BK242 BK250 HB
    have HO0_1 := n0_
    have HO248 := n1_
    have BK241 := n2_
    have BK242 := n3_
    have BK250 := n4_
    have HB := n5_
    clear n0_ n1_ n2_ n3_ n4_ n5_
    (try clear hb)
    (try clear hb2)
    (try clear hk)
    (try clear hi)
    (try clear ho0)
    refine hK.out _ _ ⟨(blk_cell BK241.out 0).trans rfl, (blk_cell BK241.out 1).trans rfl⟩ (fun hHeld => ?_)
    clear hK K
    refine norm_ (a' := ?_) ?_ ?_
    rotate_left
    ·show Act.put _ (some 16) _ = _
     simp only [Act.put, l1_23, l2_23, l3_23, i64_w, i32_w]
     rfl
    refine pure_ (i := 6) (N := some 10) (v := ?_) (a' := ?_) #[true, true, true, true, true, true, true, false, false, true, false, false] rfl rfl (any_of HT_.out (by kernel_rfl)) (fun _ _ _ h => h) (Or.inl ⟨by rfl, ?_⟩) ?_ ?_
    rotate_left
    ·intro w'
     go_simp
     with_reducible rfl
    rotate_left
    ·simp only [Act.put, l1_23, l2_23, l3_23, i64_w, i32_w]
     rfl
    refine pure_ (i := 7) (N := some 17) (v := ?_) (a' := ?_) #[true, true, true, true, true, true, true, true, false, true, false, false] rfl rfl (any_of HT_.out (by kernel_rfl)) (fun _ _ _ h => h) (Or.inl ⟨by rfl, ?_⟩) ?_ ?_
    rotate_left
    ·intro w'
     go_simp
     with_reducible rfl
    rotate_left
    ·simp only [Act.put, l1_23, l2_23, l3_23, i64_w, i32_w]
     rfl
    refine pure_ (i := 8) (N := some 18) (v := ?_) (a' := ?_) #[true, true, true, true, true, true, true, true, true, true, false, false] rfl rfl (any_of HT_.out (by kernel_rfl)) (fun _ _ _ h => h) (Or.inl ⟨by rfl, ?_⟩) ?_ ?_
    rotate_left
    ·intro w'
     go_simp
     with_reducible rfl
    rotate_left
    ·simp only [Act.put, l1_23, l2_23, l3_23, i64_w, i32_w]
     rfl
    exact norm_ (by simp only [putAll, Act.put, l1_23, l2_23, l3_23]) (hCont (v247, gb250) _ ⟨hHeld, (by (with_reducible repeat (first | apply v1_23 | apply v2_23 | apply v3_23)); exact v4_23 HO0_1.out (fun _ hk => ⟨hk.1.1.1, ⟨hk.1.1.2, ⟨hk.1.2, hk.2⟩⟩⟩)), (by (with_reducible repeat (first | apply v1_23 | apply v2_23 | apply v3_23)); exact HO248.out), (by exact BK241.out), (by exact BK242.out), (by exact BK250.out), GW250.out, GE250.out, NB241_250.out, NB250_241.out, NB242_250.out, NB250_242.out, (by repeat (first | (with_reducible first | exact HB.out | apply b8_23 | apply b6_23 | apply b7_23 | refine b4_23 ?_ GE241.out | refine b4_23 ?_ GE242.out | refine b4_23 ?_ GE250.out) | exact HB.out))⟩)
  ·skip
   refine box_step ?hg (N := 8) ?hd (cs := #[.int .i64 0, .slice none 0 0]) (t := 24) ?hr ?_; (case hd => rfl); (case hg => rfl); (case hr => first | (go_simp; done) | (go_simp; rfl))
   intro gb250 hg w11 hbox hb
   have n0_ := aM_23 (v6_23 (Kd.V_elderB (by (with_reducible repeat (first | apply v1_23 | apply v2_23 | apply v3_23)); exact HO0_1.out) gb250 (Nat.le_of_eq hg.symm)) hb)
   have n1_ := aM_23 (b5_23 (by exact BK241.out) hb)
   have n2_ := aM_23 (b5_23 (by exact BK242.out) hb)
   have n3_ := aM_23 (b9_23 (by repeat (first | (with_reducible first | exact HB.out | apply b8_23 | apply b6_23 | apply b7_23 | refine b4_23 ?_ GE241.out | refine b4_23 ?_ GE242.out) | exact HB.out)) hb)
   have n4_ := aM_23 (hbox)
   have n5_ := aM_23 ((by rw [hg]; exact (b0_23 (by repeat (first | (with_reducible first | exact HB.out | apply b8_23 | apply b6_23 | apply b7_23 | refine b4_23 ?_ GE241.out | refine b4_23 ?_ GE242.out) | exact HB.out))) : w.heap.size ≤ gb250))
   have n6_ := aM_23 ((by rw [hg]; exact (b0_23 (by repeat (first | (with_reducible first | exact HB.out | apply b8_23 | apply b6_23 | apply b7_23 | refine b4_23 ?_ GE241.out | refine b4_23 ?_ GE242.out) | exact HB.out))) : w.heap.size ≤ gb250))
   have n7_ := aM_23 ((by rw [hg]; exact Nat.ne_of_lt (blk_lt (by exact BK241.out)) : gb241 ≠ gb250))
   have n8_ := aM_23 ((by rw [hg]; exact Nat.ne_of_gt (blk_lt (by exact BK241.out)) : gb250 ≠ gb241))
   have n9_ := aM_23 ((by rw [hg]; exact Nat.ne_of_lt (blk_lt (by exact BK242.out)) : gb242 ≠ gb250))
   have n10_ := aM_23 ((by rw [hg]; exact Nat.ne_of_gt (blk_lt (by exact BK242.out)) : gb250 ≠ gb242))
   clear HO0_1 BK241 BK242 HB
   have HO0_1 := n0_
   have BK241 := n1_
   have BK242 := n2_
   have HB := n3_
   have BK250 := n4_
   have GW250 := n5_
   have GE250 := n6_
   have NB241_250 := n7_
   have NB250_241 := n8_
   have NB242_250 := n9_
   have NB250_242 := n10_
   clear n0_ n1_ n2_ n3_ n4_ n5_ n6_ n7_ n8_ n9_ n10_
   clear hb hbox hg
   refine hK.out _ _ ⟨(blk_cell BK241.out 0).trans rfl, (blk_cell BK241.out 1).trans rfl⟩ (fun hHeld => ?_)
   clear hK K
   refine norm_ (a' := ?_) ?_ ?_
   rotate_left
   ·show Act.put _ (some 8) _ = _
    simp only [Act.put, l1_23, l2_23, l3_23, i64_w, i32_w]
    rfl
   refine one_ (i := 2) (N := some 13) #[true, true, true, true, false, false, false, false, false, true, false, false] rfl rfl (one_of HT_.out (by kernel_rfl)) (by decide) (fun K hK => ?_)
   refine goes_ Try.func38 (by kernel_rfl) rfl #[.int .i64 a1] (by rfl) rfl rfl (by (try simp only [List.map_toArray, List.map_cons, List.map_nil]); first | done | rfl | (simp only [List.length_drop, List.length_take]; rfl)) ?_
   with_reducible refine (proofmarkref13_turn.calls a1 t243 _ A4.out).mono ?_
   rintro e w' ⟨rfl, ⟨nd, rfl⟩⟩
   refine ⟨_, rfl, ?_⟩
   refine hK.out _ _ ⟨(blk_cell BK241.out 0).trans rfl, (blk_cell BK241.out 1).trans rfl⟩ (fun hHeld => ?_)
   clear hK K
   refine norm_ (a' := ?_) ?_ ?_
   rotate_left
   ·show Act.put _ (some 13) _ = _
    simp only [Act.put, l1_23, l2_23, l3_23, i64_w, i32_w]
    rfl
   refine one_ (i := 4) (N := some 15) #[true, true, true, true, true, false, false, false, false, true, false, false] rfl rfl (one_of HT_.out (by kernel_rfl)) (by decide) (fun K hK => ?_)
   refine goes_ Try.func38 (by kernel_rfl) rfl #[.int .i64 a2] (by rfl) rfl rfl (by (try simp only [List.map_toArray, List.map_cons, List.map_nil]); first | done | rfl | (simp only [List.length_drop, List.length_take]; rfl)) ?_
   with_reducible refine (proofmarkref13_turn.calls a2 t244 _ A5.out).mono ?_
   rintro e w' ⟨rfl, ⟨nd, rfl⟩⟩
   refine ⟨_, rfl, ?_⟩
   refine hK.out _ _ ⟨(blk_cell BK241.out 0).trans rfl, (blk_cell BK241.out 1).trans rfl⟩ (fun hHeld => ?_)
   clear hK K
   refine norm_ (a' := ?_) ?_ ?_
   rotate_left
   ·show Act.put _ (some 15) _ = _
    simp only [Act.put, l1_23, l2_23, l3_23, i64_w, i32_w]
    rfl
   refine one_ (i := 5) (N := some 16) #[true, true, true, true, true, true, false, false, false, true, false, false] rfl rfl (one_of HT_.out (by kernel_rfl)) (by decide) (fun K hK => ?_)
   refine goes_ Try.func17 (by kernel_rfl) rfl #[.agg #[.int .i64 a0_0, .slice A0_1 l0_1.length c0_1], .int .i64 t243, .int .i64 t244] (by rfl) rfl rfl (by (try simp only [List.map_toArray, List.map_cons, List.map_nil]); first | done | rfl | (simp only [List.length_drop, List.length_take]; rfl)) ?_
   with_reducible refine (proofmarkref13_And.calls k a0_0 (fun k_ => ((((P0_1_ k_ ∨ w.heap.size ≤ k_) ∧ k_ ≠ gb241) ∧ k_ ≠ gb242) ∧ k_ ≠ gb250)) _ _ l0_1 t243 t244 t245 t246 t249 _ ?side1 A6.out).mono ?_
   (case side1 => exact HO0_1.out)
   rintro e w12 ⟨v247, rfl, ho0, hb⟩
   refine ⟨_, rfl, ?_⟩
   have n0_ := aM_23 (v6_23 (by (with_reducible repeat (first | apply v1_23 | apply v2_23 | apply v3_23)); exact HO0_1.out) hb)
   have n1_ := aM_23 (Kd.V_lower (v4_23 (ok' := fun k_ => (P0_1_ k_ ∨ w.heap.size ≤ k_) ∧ k_ ≠ gb241 ∧ k_ ≠ gb242 ∧ k_ ≠ gb250) ho0 (fun k_ hk_ => ⟨Or.elim hk_ (fun hs_ => hs_.1.1.1) (fun hn_ => (.inr (Nat.le_trans (b0_23 (by repeat (first | (with_reducible first | exact HB.out | apply b8_23 | apply b6_23 | apply b7_23 | refine b4_23 ?_ GE241.out | refine b4_23 ?_ GE242.out | refine b4_23 ?_ GE250.out) | exact HB.out))) hn_))), Or.elim hk_ (fun hs_ => hs_.1.1.2) (fun hn_ => (f1_23 (g := gb241) (o := .cells #[.int .i64 a0_0, .slice A0_1 l0_1.length c0_1] 24 (0, 0)) (by exact BK241.out) k_ hn_)), Or.elim hk_ (fun hs_ => hs_.1.2) (fun hn_ => (f1_23 (g := gb242) (o := .cells #[.int .i64 0, .slice none 0 0] 24 (0, 0)) (by exact BK242.out) k_ hn_)), Or.elim hk_ (fun hs_ => hs_.2) (fun hn_ => (f1_23 (g := gb250) (o := .cells #[.int .i64 0, .slice none 0 0] 24 (0, 0)) (by exact BK250.out) k_ hn_))⟩)) (b0_23 (by repeat (first | (with_reducible first | exact HB.out | apply b8_23 | apply b6_23 | apply b7_23 | refine b4_23 ?_ GE241.out | refine b4_23 ?_ GE242.out | refine b4_23 ?_ GE250.out) | exact HB.out))))
   have n2_ := aM_23 (b5_23 (by exact BK241.out) hb)
   have n3_ := aM_23 (b5_23 (by exact BK242.out) hb)
   have n4_ := aM_23 (b5_23 (by exact BK250.out) hb)
   have n5_ := aM_23 (b9_23 (by repeat (first | (with_reducible first | exact HB.out | apply b8_23 | apply b6_23 | apply b7_23 | refine b4_23 ?_ GE241.out | refine b4_23 ?_ GE242.out | refine b4_23 ?_ GE250.out) | exact HB.out)) hb)
   clear HO0_1 BK241 BK242 BK250 HB
   have HO0_1 := n0_
   have HO248 := n1_
   have BK241 := n2_
   have BK242 := n3_
   have BK250 := n4_
   have HB := n5_
   clear n0_ n1_ n2_ n3_ n4_ n5_
   (try clear hb)
   (try clear hb2)
   (try clear hk)
   (try clear hi)
   (try clear ho0)
   refine hK.out _ _ ⟨(blk_cell BK241.out 0).trans rfl, (blk_cell BK241.out 1).trans rfl⟩ (fun hHeld => ?_)
   clear hK K
   refine norm_ (a' := ?_) ?_ ?_
   rotate_left
   ·show Act.put _ (some 16) _ = _
    simp only [Act.put, l1_23, l2_23, l3_23, i64_w, i32_w]
    rfl
   refine pure_ (i := 6) (N := some 10) (v := ?_) (a' := ?_) #[true, true, true, true, true, true, true, false, false, true, false, false] rfl rfl (any_of HT_.out (by kernel_rfl)) (fun _ _ _ h => h) (Or.inl ⟨by rfl, ?_⟩) ?_ ?_
   rotate_left
   ·intro w'
    go_simp
    with_reducible rfl
   rotate_left
   ·simp only [Act.put, l1_23, l2_23, l3_23, i64_w, i32_w]
    rfl
   refine pure_ (i := 7) (N := some 17) (v := ?_) (a' := ?_) #[true, true, true, true, true, true, true, true, false, true, false, false] rfl rfl (any_of HT_.out (by kernel_rfl)) (fun _ _ _ h => h) (Or.inl ⟨by rfl, ?_⟩) ?_ ?_
   rotate_left
   ·intro w'
    go_simp
    with_reducible rfl
   rotate_left
   ·simp only [Act.put, l1_23, l2_23, l3_23, i64_w, i32_w]
    rfl
   refine pure_ (i := 8) (N := some 18) (v := ?_) (a' := ?_) #[true, true, true, true, true, true, true, true, true, true, false, false] rfl rfl (any_of HT_.out (by kernel_rfl)) (fun _ _ _ h => h) (Or.inl ⟨by rfl, ?_⟩) ?_ ?_
   rotate_left
   ·intro w'
    go_simp
    with_reducible rfl
   rotate_left
   ·simp only [Act.put, l1_23, l2_23, l3_23, i64_w, i32_w]
    rfl
   exact norm_ (by simp only [putAll, Act.put, l1_23, l2_23, l3_23]) (hCont (v247, gb250) _ ⟨hHeld, (by (with_reducible repeat (first | apply v1_23 | apply v2_23 | apply v3_23)); exact v4_23 HO0_1.out (fun _ hk => ⟨hk.1.1.1, ⟨hk.1.1.2, ⟨hk.1.2, hk.2⟩⟩⟩)), (by (with_reducible repeat (first | apply v1_23 | apply v2_23 | apply v3_23)); exact HO248.out), (by exact BK241.out), (by exact BK242.out), (by exact BK250.out), GW250.out, GE250.out, NB241_250.out, NB250_241.out, NB242_250.out, NB250_242.out, (by repeat (first | (with_reducible first | exact HB.out | apply b8_23 | apply b6_23 | apply b7_23 | refine b4_23 ?_ GE241.out | refine b4_23 ?_ GE242.out | refine b4_23 ?_ GE250.out) | exact HB.out))⟩)
 rintro ⟨v247, gb250⟩ w13 ⟨hS_, h0_, h1_, h2_, h3_, h4_, h5_, h6_, h7_, h8_, h9_, h10_, h11_⟩
 have n0_ : Aside0 (Kd.V k50 50 w13 w.heap.size (fun k_ => (P0_1_ k_ ∨ w.heap.size ≤ k_) ∧ k_ ≠ gb241 ∧ k_ ≠ gb242 ∧ k_ ≠ gb250) (.slice A0_1 l0_1.length c0_1) l0_1) := ⟨h0_⟩
 have n1_ : Aside0 (Kd.V k50 50 w13 w.heap.size (fun k_ => (P0_1_ k_ ∨ w.heap.size ≤ k_) ∧ k_ ≠ gb241 ∧ k_ ≠ gb242 ∧ k_ ≠ gb250) v247 t246) := ⟨h1_⟩
 have n2_ : Aside0 (w13.heap[gb241]? = some (.cells #[.int .i64 a0_0, .slice A0_1 l0_1.length c0_1] 24 (0, 0))) := ⟨h2_⟩
 have n3_ : Aside0 (w13.heap[gb242]? = some (.cells #[.int .i64 0, .slice none 0 0] 24 (0, 0))) := ⟨h3_⟩
 have n4_ : Aside0 (w13.heap[gb250]? = some (.cells #[.int .i64 0, .slice none 0 0] 24 (0, 0))) := ⟨h4_⟩
 have n5_ : Aside0 (w.heap.size ≤ gb250) := ⟨h5_⟩
 have n6_ : Aside0 (w.heap.size ≤ gb250) := ⟨h6_⟩
 have n7_ : Aside0 (gb241 ≠ gb250) := ⟨h7_⟩
 have n8_ : Aside0 (gb250 ≠ gb241) := ⟨h8_⟩
 have n9_ : Aside0 (gb242 ≠ gb250) := ⟨h9_⟩
 have n10_ : Aside0 (gb250 ≠ gb242) := ⟨h10_⟩
 have n11_ : Aside0 (Below w.heap.size w w13) := ⟨h11_⟩
 clear HO0_1 BK241 BK242 HB
 clear h0_ h1_ h2_ h3_ h4_ h5_ h6_ h7_ h8_ h9_ h10_ h11_
 have HO0_1 := n0_
 have HO248 := n1_
 have BK241 := n2_
 have BK242 := n3_
 have BK250 := n4_
 have GW250 := n5_
 have GE250 := n6_
 have NB241_250 := n7_
 have NB250_241 := n8_
 have NB242_250 := n9_
 have NB250_242 := n10_
 have HB := n11_
 clear n0_ n1_ n2_ n3_ n4_ n5_ n6_ n7_ n8_ n9_ n10_ n11_
 have hHeld : w13.cell? ⟨gb241, 0, none⟩ = some (.int .i64 a0_0) ∧ w13.cell? ⟨gb241, 1, none⟩ = some (.slice A0_1 l0_1.length c0_1) := hS_
 obtain ⟨Ao15, co15, eo15⟩ := Kd.V_slice HO248.out
 (first | subst eo15 | (injection eo15 with f1_ f2_ f3_; have f4_ := f1_.symm; have f5_ := f3_.symm; clear f1_ f2_ f3_; subst f4_; subst f5_))
 refine norm_ (a' := ?_) ?_ ?_
 rotate_left
 ·simp only [putAll, Act.put, l1_23, l2_23, l3_23]
  rfl
 refine one_ (i := 10) (N := none) #[true, true, true, true, true, true, true, true, true, true, true, false] rfl rfl (one_of HT_.out (by kernel_rfl)) (by decide) (fun K hK => ?_)
 have hs14 : w13.cell? ⟨gb250, 0, none⟩ = some (.int .i64 0) := (blk_cell BK250.out 0).trans rfl
 have hfs14 := blk_frozen BK250.out 0
 have hns14_0 := NB241_250.out
 have hns14_1 := NB242_250.out
 have hms14_0 := NB250_241.out
 have hms14_1 := NB250_242.out
 have hs16 : w13.cell? ⟨gb250, 1, none⟩ = some (.slice none 0 0) := (blk_cell BK250.out 1).trans rfl
 have hfs16 := blk_frozen BK250.out 1
 have hns16_0 := NB241_250.out
 have hns16_1 := NB242_250.out
 have hms16_0 := NB250_241.out
 have hms16_1 := NB250_242.out
 refine skip_ (w1 := ?_) (by rfl) rfl ?_ ?_
 rotate_left
 ·go_simp
  rfl
 refine hK.out _ _ ⟨((cell_far (p := ⟨gb250, _, none⟩) NB241_250.out _).trans (((cell_far (p := ⟨gb250, _, none⟩) NB241_250.out _).trans (hHeld.1)))), ((cell_far (p := ⟨gb250, _, none⟩) NB241_250.out _).trans (((cell_far (p := ⟨gb250, _, none⟩) NB241_250.out _).trans (hHeld.2))))⟩ (fun hHeld => ?_)
 clear hK K
 refine pure_ (i := 11) (N := some 9) (v := ?_) (a' := ?_) #[true, true, true, true, true, true, true, true, true, true, true, true] rfl rfl (any_of HT_.out (by kernel_rfl)) (fun _ _ _ h => h) (Or.inl ⟨by rfl, ?_⟩) ?_ ?_
 rotate_left
 ·intro w'
  go_simp
  with_reducible rfl
 rotate_left
 ·simp only [Act.put, l1_23, l2_23, l3_23, i64_w, i32_w]
  rfl
 refine done_ (done_of HT_.out (by kernel_rfl)) ?_
 try go_wp2
 have n0_ : Aside0 (Kd.V k50 50 ((w13.setCell ⟨gb250, 0, none⟩ (.int .i64 t245)).setCell ⟨gb250, 1, none⟩ (.slice Ao15 t246.length co15)) w.heap.size (fun k_ => (P0_1_ k_ ∨ w.heap.size ≤ k_) ∧ k_ ≠ gb241 ∧ k_ ≠ gb242 ∧ k_ ≠ gb250) (.slice A0_1 l0_1.length c0_1) l0_1) := ⟨by (with_reducible repeat (first | apply v1_23 | apply v2_23 | apply v3_23)); exact v4_23 (Kd.V_far (p := ⟨gb250, 1, none⟩) (Kd.V_far (p := ⟨gb250, 0, none⟩) (v4_23 HO0_1.out (fun k_ hk => (⟨hk, hk.2.2.2⟩ : _ ∧ k_ ≠ gb250))) (fun _ hk => hk.2) (.int .i64 t245)) (fun _ hk => hk.2) (.slice Ao15 t246.length co15)) (fun _ hk => ⟨hk.1.1, ⟨hk.1.2.1, ⟨hk.1.2.2.1, hk.1.2.2.2⟩⟩⟩)⟩
 have n1_ : Aside0 (Kd.V k50 50 ((w13.setCell ⟨gb250, 0, none⟩ (.int .i64 t245)).setCell ⟨gb250, 1, none⟩ (.slice Ao15 t246.length co15)) w.heap.size (fun k_ => (P0_1_ k_ ∨ w.heap.size ≤ k_) ∧ k_ ≠ gb241 ∧ k_ ≠ gb242 ∧ k_ ≠ gb250) (.slice Ao15 t246.length co15) t246) := ⟨by (with_reducible repeat (first | apply v1_23 | apply v2_23 | apply v3_23)); exact v4_23 (Kd.V_far (p := ⟨gb250, 1, none⟩) (Kd.V_far (p := ⟨gb250, 0, none⟩) (v4_23 HO248.out (fun k_ hk => (⟨hk, hk.2.2.2⟩ : _ ∧ k_ ≠ gb250))) (fun _ hk => hk.2) (.int .i64 t245)) (fun _ hk => hk.2) (.slice Ao15 t246.length co15)) (fun _ hk => ⟨hk.1.1, ⟨hk.1.2.1, ⟨hk.1.2.2.1, hk.1.2.2.2⟩⟩⟩)⟩
 have n2_ : Aside0 (((w13.setCell ⟨gb250, 0, none⟩ (.int .i64 t245)).setCell ⟨gb250, 1, none⟩ (.slice Ao15 t246.length co15)).heap[gb241]? = some (.cells #[.int .i64 a0_0, .slice A0_1 l0_1.length c0_1] 24 (0, 0))) := ⟨by (with_reducible repeat (first | refine b1_23 ?_ _ | refine b3_23 ?_ | refine b2_23 ?_ _)); refine blk_far ?_ NB241_250.out _; (with_reducible repeat (first | refine b1_23 ?_ _ | refine b3_23 ?_ | refine b2_23 ?_ _)); refine blk_far ?_ NB241_250.out _; (with_reducible repeat (first | refine b1_23 ?_ _ | refine b3_23 ?_ | refine b2_23 ?_ _)); exact BK241.out⟩
 have n3_ : Aside0 (((w13.setCell ⟨gb250, 0, none⟩ (.int .i64 t245)).setCell ⟨gb250, 1, none⟩ (.slice Ao15 t246.length co15)).heap[gb242]? = some (.cells #[.int .i64 0, .slice none 0 0] 24 (0, 0))) := ⟨by (with_reducible repeat (first | refine b1_23 ?_ _ | refine b3_23 ?_ | refine b2_23 ?_ _)); refine blk_far ?_ NB242_250.out _; (with_reducible repeat (first | refine b1_23 ?_ _ | refine b3_23 ?_ | refine b2_23 ?_ _)); refine blk_far ?_ NB242_250.out _; (with_reducible repeat (first | refine b1_23 ?_ _ | refine b3_23 ?_ | refine b2_23 ?_ _)); exact BK242.out⟩
 have n4_ : Aside0 (((w13.setCell ⟨gb250, 0, none⟩ (.int .i64 t245)).setCell ⟨gb250, 1, none⟩ (.slice Ao15 t246.length co15)).heap[gb250]? = some (.cells #[.int .i64 t245, .slice Ao15 t246.length co15] 24 (0, 0))) := ⟨by (with_reducible repeat (first | refine b1_23 ?_ _ | refine b3_23 ?_ | refine b2_23 ?_ _)); refine blk_put (cs := #[.int .i64 t245, .slice none 0 0]) ?_ 1 _ rfl; (with_reducible repeat (first | refine b1_23 ?_ _ | refine b3_23 ?_ | refine b2_23 ?_ _)); refine blk_put (cs := #[.int .i64 0, .slice none 0 0]) ?_ 0 _ rfl; (with_reducible repeat (first | refine b1_23 ?_ _ | refine b3_23 ?_ | refine b2_23 ?_ _)); exact BK250.out⟩
 have n5_ : Aside0 (Below w.heap.size w ((w13.setCell ⟨gb250, 0, none⟩ (.int .i64 t245)).setCell ⟨gb250, 1, none⟩ (.slice Ao15 t246.length co15))) := ⟨by repeat (first | (with_reducible first | exact HB.out | apply b8_23 | apply b6_23 | apply b7_23 | refine b4_23 ?_ GE241.out | refine b4_23 ?_ GE242.out | refine b4_23 ?_ GE250.out) | exact HB.out)⟩
 (try clear HO0_1)
 (try clear HO248)
 (try clear BK241)
 (try clear BK242)
 (try clear BK250)
 (try clear HB)
 generalize ((w13.setCell ⟨gb250, 0, none⟩ (.int .i64 t245)).setCell ⟨gb250, 1, none⟩ (.slice Ao15 t246.length co15)) = w17 at n0_ n1_ n2_ n3_ n4_ n5_ ⊢
 have HO0_1 := n0_
 have HO248 := n1_
 have BK241 := n2_
 have BK242 := n3_
 have BK250 := n4_
 have HB := n5_
 clear n0_ n1_ n2_ n3_ n4_ n5_
 have n0_ := aM_23 (v3_23 HO0_1.out)
 have n1_ := aM_23 (v3_23 HO248.out)
 have n2_ := aM_23 (b3_23 BK241.out)
 have n3_ := aM_23 (b3_23 BK242.out)
 have n4_ := aM_23 (b3_23 BK250.out)
 have n5_ := aM_23 (b7_23 HB.out)
 clear HO0_1 HO248 BK241 BK242 BK250 HB
 have HO0_1 := n0_
 have HO248 := n1_
 have BK241 := n2_
 have BK242 := n3_
 have BK250 := n4_
 have HB := n5_
 clear n0_ n1_ n2_ n3_ n4_ n5_
 refine start_ (n := 5) (S := fun w' => w'.cell? ⟨gb250, 0, none⟩ = some (.int .i64 t245) ∧ w'.cell? ⟨gb250, 1, none⟩ = some (.slice Ao15 t246.length co15)) (ds := []) #[false, false, false, false, false] (by kernel_rfl) rfl rfl ⟨(blk_cell BK250.out 0).trans rfl, (blk_cell BK250.out 1).trans rfl⟩ (fun hHeld => ?_)
 generalize w17.drew = w18 at HO0_1 HO248 BK241 BK242 BK250 HB hHeld ⊢
 refine pure_ (i := 1) (N := some 20) (v := ?_) (a' := ?_) #[false, true, false, false, false] rfl rfl (by kernel_rfl) (fun _ _ _ h => h) (Or.inl ⟨by rfl, ?_⟩) ?_ ?_
 rotate_left
 ·intro w'
  go_simp
  with_reducible rfl
 rotate_left
 ·simp only [Act.put, l1_23, l2_23, l3_23, i64_w, i32_w]
  rfl
 refine take_ (i := 0) (N := some 19) (v := ?_) (a' := ?_) #[true, true, false, false, false] rfl rfl (by kernel_rfl) (fun _ _ _ h => h) (Or.inl ⟨by rfl, ?_⟩) hHeld ?_ ?_
 rotate_left
 ·rintro w' ⟨s0, s1⟩
  go_simp
  with_reducible rfl
 rotate_left
 ·simp only [Act.put, l1_23, l2_23, l3_23, i64_w, i32_w]
  rfl
 refine one_ (i := 2) (N := some 21) #[true, true, true, false, false] rfl rfl (by kernel_rfl) (by decide) (fun K hK => ?_)
 refine goes_ Try.func38 (by kernel_rfl) rfl #[.int .i64 t249] (by rfl) rfl rfl (by (try simp only [List.map_toArray, List.map_cons, List.map_nil]); first | done | rfl | (simp only [List.length_drop, List.length_take]; rfl)) ?_
 with_reducible refine (proofmarkref13_turn.calls t249 t251 _ A7.out).mono ?_
 rintro e w' ⟨rfl, ⟨nd, rfl⟩⟩
 refine ⟨_, rfl, ?_⟩
 refine hK.out _ _ ⟨(blk_cell BK250.out 0).trans rfl, (blk_cell BK250.out 1).trans rfl⟩ (fun hHeld => ?_)
 clear hK K
 refine norm_ (a' := ?_) ?_ ?_
 rotate_left
 ·show Act.put _ (some 21) _ = _
  simp only [Act.put, l1_23, l2_23, l3_23, i64_w, i32_w]
  rfl
 refine one_ (i := 3) (N := none) #[true, true, true, true, false] rfl rfl (by kernel_rfl) (by decide) (fun K hK => ?_)
 have hs19 : w18.cell? ⟨gb242, 0, none⟩ = some (.int .i64 0) := (blk_cell BK242.out 0).trans rfl
 have hfs19 := blk_frozen BK242.out 0
 have hns19_0 := NB241_242.out
 have hns19_2 := NB250_242.out
 have hms19_0 := NB242_241.out
 have hms19_2 := NB242_250.out
 have hs20 : w18.cell? ⟨gb242, 1, none⟩ = some (.slice none 0 0) := (blk_cell BK242.out 1).trans rfl
 have hfs20 := blk_frozen BK242.out 1
 have hns20_0 := NB241_242.out
 have hns20_2 := NB250_242.out
 have hms20_0 := NB242_241.out
 have hms20_2 := NB242_250.out
 refine skip_ (w1 := ?_) (by rfl) rfl ?_ ?_
 rotate_left
 ·go_simp
  rfl
 refine hK.out _ _ ⟨((cell_far (p := ⟨gb242, _, none⟩) NB250_242.out _).trans (((cell_far (p := ⟨gb242, _, none⟩) NB250_242.out _).trans (hHeld.1)))), ((cell_far (p := ⟨gb242, _, none⟩) NB250_242.out _).trans (((cell_far (p := ⟨gb242, _, none⟩) NB250_242.out _).trans (hHeld.2))))⟩ (fun hHeld => ?_)
 clear hK K
 refine pure_ (i := 4) (N := some 7) (v := ?_) (a' := ?_) #[true, true, true, true, true] rfl rfl (by kernel_rfl) (fun _ _ _ h => h) (Or.inl ⟨by rfl, ?_⟩) ?_ ?_
 rotate_left
 ·intro w'
  go_simp
  with_reducible rfl
 rotate_left
 ·simp only [Act.put, l1_23, l2_23, l3_23, i64_w, i32_w]
  rfl
 refine done_ (by kernel_rfl) ?_
 try go_wp2
 refine bodyPost_ret (results_ct rfl _ _ gb242 24 #[.int .i64 t245, .slice Ao15 t246.length co15] (0, 0) _ rfl (by (with_reducible repeat (first | refine b1_23 ?_ _ | refine b3_23 ?_ | refine b2_23 ?_ _)); refine blk_put (cs := #[.int .i64 t245, .slice none 0 0]) ?_ 1 _ rfl; (with_reducible repeat (first | refine b1_23 ?_ _ | refine b3_23 ?_ | refine b2_23 ?_ _)); refine blk_put (cs := #[.int .i64 0, .slice none 0 0]) ?_ 0 _ rfl; (with_reducible repeat (first | refine b1_23 ?_ _ | refine b3_23 ?_ | refine b2_23 ?_ _)); exact BK242.out) Try.underlying24 rfl (by kernel_rfl)) rfl ?_
 exact ⟨_, by first | rfl | (simp [errW_none, errW_some] <;> rfl) | (simp [*, errW_none, errW_some] <;> rfl), by (with_reducible repeat (first | apply v1_23 | apply v2_23 | apply v3_23)); exact v4_23 (Kd.V_far (p := ⟨gb242, 1, none⟩) (Kd.V_far (p := ⟨gb242, 0, none⟩) (v4_23 HO248.out (fun k_ hk => (⟨hk, hk.2.2.1⟩ : _ ∧ k_ ≠ gb242))) (fun _ hk => hk.2) (.int .i64 t245)) (fun _ hk => hk.2) (.slice Ao15 t246.length co15)) (fun _ hk => hk.1.1), by repeat (first | (with_reducible first | exact HB.out | apply b8_23 | apply b6_23 | apply b7_23 | refine b4_23 ?_ GE241.out | refine b4_23 ?_ GE242.out | refine b4_23 ?_ GE250.out) | exact HB.out)⟩
end Go.Proofs.Ytlnjefcfbncegaa.Xb
