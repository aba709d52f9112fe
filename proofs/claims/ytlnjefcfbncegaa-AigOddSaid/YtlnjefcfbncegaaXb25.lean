/- Slimmed by this session: what nothing names is struck out. -/
import Derived.Test.YtlnjefcfbncegaaXb0
import Derived.Test.YtlnjefcfbncegaaXb22
import Derived.Test.YtlnjefcfbncegaaXb24
namespace Go.Proofs.Ytlnjefcfbncegaa.Xb
open Go.RowKit Go.Proofs.YtlnjefcfbncegaaW.PrintWords Go.Proofs.YtlnjefcfbncegaaW.PrintLast Go.Proofs.YtlnjefcfbncegaaW.PrintMore
attribute [local go_sem] max2_int min2_int max_two min_two max_three min_three max_four min_four
set_option linter.unusedVariables false
set_option linter.unusedSimpArgs false
abbrev b4_25 := @below_set
abbrev aM_25 := @Aside0.mk
abbrev v1_25 := @Kd.V_alloc
abbrev v2_25 := @Kd.V_drewN
abbrev v3_25 := @Kd.V_drew
abbrev b5_25 := @blk_below
abbrev v4_25 := @Kd.V_mono
abbrev b6_25 := @pw_below_drewN
abbrev b7_25 := @below_drew1
abbrev b8_25 := @below_alloc
abbrev b9_25 := @below_step
abbrev b0_25 := @below_size
abbrev v6_25 := @Kd.V_below
abbrev l1_25 := @List.setIfInBounds_toArray
abbrev l2_25 := @List.set_cons_zero
abbrev l3_25 := @List.set_cons_succ
theorem cells2_25 {w : World} {g : Nat} {t : TypeId} {x0 x1 : Value} (h : w.heap[g]? = some (.cells #[x0, x1] t (0, 0))) : w.cell? ⟨g, 0, none⟩ = some x0 ∧ w.cell? ⟨g, 1, none⟩ = some x1 ∧ w.frozen? ⟨g, 0, none⟩ = false ∧ w.frozen? ⟨g, 1, none⟩ = false := ⟨(blk_cell h 0).trans rfl, (blk_cell h 1).trans rfl, blk_frozen h 0, blk_frozen h 1⟩
def proofmarkref13_Xor.f (k : Nat) (a0_0 : Int) (l0_1 : List (S50)) (a1 : Int) (a2 : Int) : Option (Int × (List (S50)) × Int) := (proofmarkref13_turn.f a2).bind fun t275 => ((proofmarkref13_Mux.f k a0_0 l0_1 a1 t275 a2).bind fun bt276 => (some (bt276.1, bt276.2.1, bt276.2.2)))
theorem proofmarkref13_Xor.mono : ∀ a0 a1 a2 a3 k, LeO (proofmarkref13_Xor.f k a0 a1 a2 a3) (proofmarkref13_Xor.f (k + 1) a0 a1 a2 a3) := by
 intro a0 a1 a2 a3 k
 unfold proofmarkref13_Xor.f
 repeat' first
   | (with_reducible exact proofmarkref13_Mux.mono _ _ _ _ _ _)
   | (with_reducible exact LeO.refl _)
   | (with_reducible exact LeO.none _)
   | (with_reducible refine LeO.ite ?_ ?_)
   | (with_reducible refine LeO.bind ?_ (fun _ => ?_))
   | exact proofmarkref13_Mux.mono _ _ _ _ _ _
   | exact LeO.none _
   | refine LeO.ite ?_ ?_
   | refine LeO.bind ?_ (fun _ => ?_)
def proofmarkref13_Xor.T1 : Bool × List (List Nat × List Nat) := (true, [([], []), ([], []), ([], []), ([2], [2]), ([], []), ([0, 1, 3, 4, 3], [0, 1, 3, 4]), ([5], [5]), ([6], [6]), ([6], [6]), ([], []), ([9, 7, 5, 0, 1, 2, 3, 4, 5, 6, 7, 9], [7, 9]), ([8, 10, 0, 1, 2, 3, 4, 5, 6, 7, 8, 9, 10], [8])])
def proofmarkref13_Xor.B1 : List Nat := [0, 0, 0, 4, 0, 31, 63, 127, 127, 0, 767, 2047]
theorem proofmarkref13_Xor.tab1 : rtab .any (opsOf Try.f22 1) = proofmarkref13_Xor.T1 := by kernel_rfl
theorem proofmarkref13_Xor.bits1 : waitsOk proofmarkref13_Xor.T1.2 proofmarkref13_Xor.B1 = true := by kernel_rfl
set_option maxHeartbeats 8000000 in
set_option maxRecDepth 100000 in
theorem proofmarkref13_Xor.calls (k : Nat) (a0_0 : Int) (P0_1_ : Nat → Prop) (A0_1 : Option Addr) (c0_1 : Nat) (l0_1 : List (S50)) (a1 : Int) (a2 : Int) (r1 : Int) (r2 : List (S50)) (r3 : Int) (w : World) (hs0_1 : Kd.V k50 50 w w.heap.size (fun k_ => P0_1_ k_) (.slice A0_1 l0_1.length c0_1) l0_1) (h : proofmarkref13_Xor.f k a0_0 l0_1 a1 a2 = some (r1, r2, r3)) :
  Calls Try.prog 22 #[.agg #[.int .i64 a0_0, .slice A0_1 l0_1.length c0_1], .int .i64 a1, .int .i64 a2] w fun e w' => ∃ v1_ : Value, e = .returned (.tuple #[.agg #[.int .i64 r1, v1_], .int .i64 r3]) ∧ Kd.V k50 50 w' w.heap.size (fun k_ => (P0_1_ k_ ∨ w.heap.size ≤ k_)) v1_ r2 ∧ Below w.heap.size w w' := by
 have hu24 := Try.underlying24
 have HO0_1 := aM_25 (show Kd.V k50 50 w w.heap.size (fun k_ => (P0_1_ k_ ∨ w.heap.size ≤ k_)) (.slice A0_1 l0_1.length c0_1) l0_1 from v4_25 hs0_1 (fun k_ hk => .inl hk))
 have HB := aM_25 (Below.refl w.heap.size w)
 have H : ((proofmarkref13_turn.f a2).bind fun t275 => ((proofmarkref13_Mux.f k a0_0 l0_1 a1 t275 a2).bind fun bt276 => (some (bt276.1, bt276.2.1, bt276.2.2)))) = some (r1, r2, r3) := h
 clear h
 replace H := Option.bind_eq_some_iff.mp H
 obtain ⟨t275, A40, H⟩ := H
 replace H : ((proofmarkref13_Mux.f k a0_0 l0_1 a1 t275 a2).bind fun bt276 => (some (bt276.1, bt276.2.1, bt276.2.2))) = some (r1, r2, r3) := H
 have A4 := aM_25 A40
 clear A40
 replace H := Option.bind_eq_some_iff.mp H
 obtain ⟨⟨t276, t277, t280⟩, A50, H⟩ := H
 replace H : (some (t276, t277, t280)) = some (r1, r2, r3) := H
 have A5 := aM_25 A50
 clear A50
 simp only [Option.some.injEq, Prod.mk.injEq] at H
 obtain ⟨rfl, rfl, rfl⟩ := H
 go_enter Try.func22, Try.ntmps22
 try go_wp2_with (first | ((with_reducible refine gate_dst (N := 3) rfl ?_); refine box_event ?hg (N := 3) ?hd (cs := #[.int .i64 a0_0, .slice A0_1 l0_1.length c0_1]) (t := 24) ?hr ?_; (case hd => rfl); (case hg => rfl); (case hr => first | (go_simp; done) | (go_simp; rfl)); intro gb273 hg w6 hbox hb; have n0_ := aM_25 (v6_25 (Kd.V_elderB (by (with_reducible repeat (first | apply v1_25 | apply v2_25 | apply v3_25)); exact HO0_1.out) gb273 (Nat.le_of_eq hg.symm)) hb); have n1_ := aM_25 (b9_25 (by repeat (first | (with_reducible first | exact HB.out | apply b8_25 | apply b6_25 | apply b7_25) | exact HB.out)) hb); have n2_ := aM_25 (hbox); have n3_ := aM_25 ((by rw [hg]; exact (b0_25 (by repeat (first | (with_reducible first | exact HB.out | apply b8_25 | apply b6_25 | apply b7_25) | exact HB.out))) : w.heap.size ≤ gb273)); have n4_ := aM_25 ((by rw [hg]; exact (b0_25 (by repeat (first | (with_reducible first | exact HB.out | apply b8_25 | apply b6_25 | apply b7_25) | exact HB.out))) : w.heap.size ≤ gb273)); clear HO0_1 HB; have HO0_1 := n0_; have HB := n1_; have BK273 := n2_; have GW273 := n3_; have GE273 := n4_; clear n0_ n1_ n2_ n3_ n4_; clear hb hbox hg) | ((with_reducible refine gate_dst (N := 6) rfl ?_); refine box_event ?hg (N := 6) ?hd (cs := #[.int .i64 0, .slice none 0 0]) (t := 24) ?hr ?_; (case hd => rfl); (case hg => rfl); (case hr => first | (go_simp; done) | (go_simp; rfl)); intro gb274 hg w7 hbox hb; have n0_ := aM_25 (v6_25 (Kd.V_elderB (by (with_reducible repeat (first | apply v1_25 | apply v2_25 | apply v3_25)); exact HO0_1.out) gb274 (Nat.le_of_eq hg.symm)) hb); have n1_ := aM_25 (b5_25 (by exact BK273.out) hb); have n2_ := aM_25 (b9_25 (by repeat (first | (with_reducible first | exact HB.out | apply b8_25 | apply b6_25 | apply b7_25 | refine b4_25 ?_ GE273.out) | exact HB.out)) hb); have n3_ := aM_25 (hbox); have n4_ := aM_25 ((by rw [hg]; exact (b0_25 (by repeat (first | (with_reducible first | exact HB.out | apply b8_25 | apply b6_25 | apply b7_25 | refine b4_25 ?_ GE273.out) | exact HB.out))) : w.heap.size ≤ gb274)); have n5_ := aM_25 ((by rw [hg]; exact (b0_25 (by repeat (first | (with_reducible first | exact HB.out | apply b8_25 | apply b6_25 | apply b7_25 | refine b4_25 ?_ GE273.out) | exact HB.out))) : w.heap.size ≤ gb274)); have n6_ := aM_25 ((by rw [hg]; exact Nat.ne_of_lt (blk_lt (by exact BK273.out)) : gb273 ≠ gb274)); have n7_ := aM_25 ((by rw [hg]; exact Nat.ne_of_gt (blk_lt (by exact BK273.out)) : gb274 ≠ gb273)); clear HO0_1 BK273 HB; have HO0_1 := n0_; have BK273 := n1_; have HB := n2_; have BK274 := n3_; have GW274 := n4_; have GE274 := n5_; have NB273_274 := n6_; have NB274_273 := n7_; clear n0_ n1_ n2_ n3_ n4_ n5_ n6_ n7_; clear hb hbox hg))
 have n0_ := aM_25 (v3_25 HO0_1.out)
 have n1_ := aM_25 (blk_drew BK273.out)
 have n2_ := aM_25 (blk_drew BK274.out)
 have n3_ := aM_25 (b7_25 HB.out)
 clear HO0_1 BK273 BK274 HB
 have HO0_1 := n0_
 have BK273 := n1_
 have BK274 := n2_
 have HB := n3_
 clear n0_ n1_ n2_ n3_
 refine start_ (n := 12) (S := fun w' => w'.cell? ⟨gb273, 0, none⟩ = some (.int .i64 a0_0) ∧ w'.cell? ⟨gb273, 1, none⟩ = some (.slice A0_1 l0_1.length c0_1)) (ds := []) #[false, false, false, false, false, false, false, false, false, false, false, false] (by kernel_rfl) rfl rfl ⟨(blk_cell BK273.out 0).trans rfl, (blk_cell BK273.out 1).trans rfl⟩ (fun hHeld => ?_); refine with_tabW proofmarkref13_Xor.tab1 proofmarkref13_Xor.bits1 (fun HT_ HW_ => ?_)
 generalize w7.drew = w8 at HO0_1 BK273 BK274 HB hHeld ⊢
 refine pure_ (i := 1) (N := some 12) (v := ?_) (a' := ?_) #[false, true, false, false, false, false, false, false, false, false, false, false] rfl rfl (any_of HT_.out (by kernel_rfl)) (fun _ _ _ h => h) (Or.inl ⟨by rfl, ?_⟩) ?_ ?_
 rotate_left
 ·intro w'
  go_simp
  with_reducible rfl
 rotate_left
 ·simp only [Act.put, l1_25, l2_25, l3_25, i64_w, i32_w]
  rfl
 refine pure_ (i := 2) (N := some 13) (v := ?_) (a' := ?_) #[false, true, true, false, false, false, false, false, false, false, false, false] rfl rfl (any_of HT_.out (by kernel_rfl)) (fun _ _ _ h => h) (Or.inl ⟨by rfl, ?_⟩) ?_ ?_
 rotate_left
 ·intro w'
  go_simp
  with_reducible rfl
 rotate_left
 ·simp only [Act.put, l1_25, l2_25, l3_25, i64_w, i32_w]
  rfl
 refine pure_ (i := 4) (N := some 15) (v := ?_) (a' := ?_) #[false, true, true, false, true, false, false, false, false, false, false, false] rfl rfl (any_of HT_.out (by kernel_rfl)) (fun _ _ _ h => h) (Or.inl ⟨by rfl, ?_⟩) ?_ ?_
 rotate_left
 ·intro w'
  go_simp
  with_reducible rfl
 rotate_left
 ·simp only [Act.put, l1_25, l2_25, l3_25, i64_w, i32_w]
  rfl
 refine take_ (i := 0) (N := some 11) (v := ?_) (a' := ?_) #[true, true, true, false, true, false, false, false, false, false, false, false] rfl rfl (take_ofW HT_.out HW_.out (by kernel_rfl)) (fun _ _ _ h => h) (Or.inl ⟨by rfl, ?_⟩) hHeld ?_ ?_
 rotate_left
 ·rintro w' ⟨s0, s1⟩
  go_simp
  with_reducible rfl
 rotate_left
 ·simp only [Act.put, l1_25, l2_25, l3_25, i64_w, i32_w]
  rfl
 refine join_ (σ := Value × Nat) 2 #[true, true, true, true, true, true, true, true, true, true, false, false] (fun s_ => [(14, .int .i64 t275), (16, .tuple #[.agg #[.int .i64 t276, s_.1], .int .i64 t280]), (8, .pointer (some ⟨s_.2, 0, none⟩)), (10, .tuple #[.agg #[.int .i64 t276, s_.1], .int .i64 t280]), (17, .agg #[.int .i64 t276, s_.1]), (18, .int .i64 t280)]) (fun s_ w' => (w'.cell? ⟨gb273, 0, none⟩ = some (.int .i64 a0_0) ∧ w'.cell? ⟨gb273, 1, none⟩ = some (.slice A0_1 l0_1.length c0_1)) ∧ (Kd.V k50 50 w' w.heap.size (fun k_ => (P0_1_ k_ ∨ w.heap.size ≤ k_) ∧ k_ ≠ gb273 ∧ k_ ≠ gb274 ∧ k_ ≠ s_.2) (.slice A0_1 l0_1.length c0_1) l0_1) ∧ (Kd.V k50 50 w' w.heap.size (fun k_ => (P0_1_ k_ ∨ w.heap.size ≤ k_) ∧ k_ ≠ gb273 ∧ k_ ≠ gb274 ∧ k_ ≠ s_.2) s_.1 t277) ∧ (w'.heap[gb273]? = some (.cells #[.int .i64 a0_0, .slice A0_1 l0_1.length c0_1] 24 (0, 0))) ∧ (w'.heap[gb274]? = some (.cells #[.int .i64 0, .slice none 0 0] 24 (0, 0))) ∧ (w'.heap[s_.2]? = some (.cells #[.int .i64 0, .slice none 0 0] 24 (0, 0))) ∧ (w.heap.size ≤ s_.2) ∧ (w.heap.size ≤ s_.2) ∧ (gb273 ≠ s_.2) ∧ (s_.2 ≠ gb273) ∧ (gb274 ≠ s_.2) ∧ (s_.2 ≠ gb274) ∧ (Below w.heap.size w w')) ?_ ?_
 rotate_left
 ·intro hCont
  refine two_ (i := 3) (j := 9) (Ni := some 14) (Nj := some 8) #[true, true, true, true, true, false, false, false, false, false, false, false] #[true, true, true, false, true, false, false, false, false, true, false, false] rfl rfl rfl rfl (two_of HT_.out (by kernel_rfl)) (by decide) (by decide) (fun K hK => ?_) (fun K hK => ?_)
  ·skip
   refine goes_ Try.func38 (by kernel_rfl) rfl #[.int .i64 a2] (by rfl) rfl rfl (by (try simp only [List.map_toArray, List.map_cons, List.map_nil]); first | done | rfl | (simp only [List.length_drop, List.length_take]; rfl)) ?_
   with_reducible refine (proofmarkref13_turn.calls a2 t275 _ A4.out).mono ?_
   rintro e w' ⟨rfl, ⟨nd, rfl⟩⟩
   refine ⟨_, rfl, ?_⟩
   refine hK.out _ _ ⟨(blk_cell BK273.out 0).trans rfl, (blk_cell BK273.out 1).trans rfl⟩ (fun hHeld => ?_)
   clear hK K
   refine norm_ (a' := ?_) ?_ ?_
   rotate_left
   ·show Act.put _ (some 14) _ = _
    simp only [Act.put, l1_25, l2_25, l3_25, i64_w, i32_w]
    rfl
   refine two_ (i := 5) (j := 9) (Ni := some 16) (Nj := some 8) #[true, true, true, true, true, true, false, false, false, false, false, false] #[true, true, true, true, true, false, false, false, false, true, false, false] rfl rfl rfl rfl (two_of HT_.out (by kernel_rfl)) (by decide) (by decide) (fun K hK => ?_) (fun K hK => ?_)
   ·skip
    refine goes_ Try.func24 (by kernel_rfl) rfl #[.agg #[.int .i64 a0_0, .slice A0_1 l0_1.length c0_1], .int .i64 a1, .int .i64 t275, .int .i64 a2] (by rfl) rfl rfl (by (try simp only [List.map_toArray, List.map_cons, List.map_nil]); first | done | rfl | (simp only [List.length_drop, List.length_take]; rfl)) ?_
    with_reducible refine (proofmarkref13_Mux.calls k a0_0 (fun k_ => (((P0_1_ k_ ∨ w.heap.size ≤ k_) ∧ k_ ≠ gb273) ∧ k_ ≠ gb274)) _ _ l0_1 a1 t275 a2 t276 t277 t280 _ ?side1 A5.out).mono ?_
    (case side1 => exact HO0_1.out)
    rintro e w9 ⟨v278, rfl, ho0, hb⟩
    refine ⟨_, rfl, ?_⟩
    have n0_ := aM_25 (v6_25 (by (with_reducible repeat (first | apply v1_25 | apply v2_25 | apply v3_25)); exact HO0_1.out) hb)
    have n1_ := aM_25 (Kd.V_lower (v4_25 (ok' := fun k_ => (P0_1_ k_ ∨ w.heap.size ≤ k_) ∧ k_ ≠ gb273 ∧ k_ ≠ gb274) ho0 (fun k_ hk_ => ⟨Or.elim hk_ (fun hs_ => hs_.1.1) (fun hn_ => (.inr (Nat.le_trans (b0_25 (by repeat (first | (with_reducible first | exact HB.out | apply b8_25 | apply b6_25 | apply b7_25 | refine b4_25 ?_ GE273.out | refine b4_25 ?_ GE274.out) | exact HB.out))) hn_))), Or.elim hk_ (fun hs_ => hs_.1.2) (fun hn_ => (Kd.freshB (g := gb273) (o := .cells #[.int .i64 a0_0, .slice A0_1 l0_1.length c0_1] 24 (0, 0)) (by exact BK273.out) k_ hn_)), Or.elim hk_ (fun hs_ => hs_.2) (fun hn_ => (Kd.freshB (g := gb274) (o := .cells #[.int .i64 0, .slice none 0 0] 24 (0, 0)) (by exact BK274.out) k_ hn_))⟩)) (b0_25 (by repeat (first | (with_reducible first | exact HB.out | apply b8_25 | apply b6_25 | apply b7_25 | refine b4_25 ?_ GE273.out | refine b4_25 ?_ GE274.out) | exact HB.out))))
    have n2_ := aM_25 (b5_25 (by exact BK273.out) hb)
    have n3_ := aM_25 (b5_25 (by exact BK274.out) hb)
    have n4_ := aM_25 (b9_25 (by repeat (first | (with_reducible first | exact HB.out | apply b8_25 | apply b6_25 | apply b7_25 | refine b4_25 ?_ GE273.out | refine b4_25 ?_ GE274.out) | exact HB.out)) hb)
    clear HO0_1 BK273 BK274 HB
    have HO0_1 := n0_
    have HO279 := n1_
    have BK273 := n2_
    have BK274 := n3_
    have HB := n4_
    clear n0_ n1_ n2_ n3_ n4_
    (try clear hb)
    (try clear hb2)
    (try clear hk)
    (try clear hi)
    (try clear ho0)
    refine hK.out _ _ ⟨(blk_cell BK273.out 0).trans rfl, (blk_cell BK273.out 1).trans rfl⟩ (fun hHeld => ?_)
    clear hK K
    refine norm_ (a' := ?_) ?_ ?_
    rotate_left
    ·show Act.put _ (some 16) _ = _
     simp only [Act.put, l1_25, l2_25, l3_25, i64_w, i32_w]
     rfl
    refine pure_ (i := 6) (N := some 10) (v := ?_) (a' := ?_) #[true, true, true, true, true, true, true, false, false, false, false, false] rfl rfl (any_of HT_.out (by kernel_rfl)) (fun _ _ _ h => h) (Or.inl ⟨by rfl, ?_⟩) ?_ ?_
    rotate_left
    ·intro w'
     go_simp
     with_reducible rfl
    rotate_left
    ·simp only [Act.put, l1_25, l2_25, l3_25, i64_w, i32_w]
     rfl
    refine pure_ (i := 7) (N := some 17) (v := ?_) (a' := ?_) #[true, true, true, true, true, true, true, true, false, false, false, false] rfl rfl (any_of HT_.out (by kernel_rfl)) (fun _ _ _ h => h) (Or.inl ⟨by rfl, ?_⟩) ?_ ?_
    rotate_left
    ·intro w'
     go_simp
     with_reducible rfl
    rotate_left
    ·simp only [Act.put, l1_25, l2_25, l3_25, i64_w, i32_w]
     rfl
    refine pure_ (i := 8) (N := some 18) (v := ?_) (a' := ?_) #[true, true, true, true, true, true, true, true, true, false, false, false] rfl rfl (any_of HT_.out (by kernel_rfl)) (fun _ _ _ h => h) (Or.inl ⟨by rfl, ?_⟩) ?_ ?_
    rotate_left
    ·intro w'
     go_simp
     with_reducible rfl
    rotate_left
    ·simp only [Act.put, l1_25, l2_25, l3_25, i64_w, i32_w]
     rfl
    refine one_ (i := 9) (N := some 8) #[true, true, true, true, true, true, true, true, true, true, false, false] rfl rfl (one_of HT_.out (by kernel_rfl)) (by decide) (fun K hK => ?_)
    refine box_step ?hg (N := 8) ?hd (cs := #[.int .i64 0, .slice none 0 0]) (t := 24) ?hr ?_; (case hd => rfl); (case hg => rfl); (case hr => first | (go_simp; done) | (go_simp; rfl))
    intro gb281 hg w10 hbox hb
    have n0_ := aM_25 (v6_25 (Kd.V_elderB (by (with_reducible repeat (first | apply v1_25 | apply v2_25 | apply v3_25)); exact HO0_1.out) gb281 (Nat.le_of_eq hg.symm)) hb)
    have n1_ := aM_25 (v6_25 (Kd.V_elderB (by (with_reducible repeat (first | apply v1_25 | apply v2_25 | apply v3_25)); exact HO279.out) gb281 (Nat.le_of_eq hg.symm)) hb)
    have n2_ := aM_25 (b5_25 (by exact BK273.out) hb)
    have n3_ := aM_25 (b5_25 (by exact BK274.out) hb)
    have n4_ := aM_25 (b9_25 (by repeat (first | (with_reducible first | exact HB.out | apply b8_25 | apply b6_25 | apply b7_25 | refine b4_25 ?_ GE273.out | refine b4_25 ?_ GE274.out) | exact HB.out)) hb)
    have n5_ := aM_25 (hbox)
    have n6_ := aM_25 ((by rw [hg]; exact (b0_25 (by repeat (first | (with_reducible first | exact HB.out | apply b8_25 | apply b6_25 | apply b7_25 | refine b4_25 ?_ GE273.out | refine b4_25 ?_ GE274.out) | exact HB.out))) : w.heap.size ≤ gb281))
    have n7_ := aM_25 ((by rw [hg]; exact (b0_25 (by repeat (first | (with_reducible first | exact HB.out | apply b8_25 | apply b6_25 | apply b7_25 | refine b4_25 ?_ GE273.out | refine b4_25 ?_ GE274.out) | exact HB.out))) : w.heap.size ≤ gb281))
    have n8_ := aM_25 ((by rw [hg]; exact Nat.ne_of_lt (blk_lt (by exact BK273.out)) : gb273 ≠ gb281))
    have n9_ := aM_25 ((by rw [hg]; exact Nat.ne_of_gt (blk_lt (by exact BK273.out)) : gb281 ≠ gb273))
    have n10_ := aM_25 ((by rw [hg]; exact Nat.ne_of_lt (blk_lt (by exact BK274.out)) : gb274 ≠ gb281))
    have n11_ := aM_25 ((by rw [hg]; exact Nat.ne_of_gt (blk_lt (by exact BK274.out)) : gb281 ≠ gb274))
    clear HO0_1 HO279 BK273 BK274 HB
    have HO0_1 := n0_
    have HO279 := n1_
    have BK273 := n2_
    have BK274 := n3_
    have HB := n4_
    have BK281 := n5_
    have GW281 := n6_
    have GE281 := n7_
    have NB273_281 := n8_
    have NB281_273 := n9_
    have NB274_281 := n10_
    have NB281_274 := n11_
    clear n0_ n1_ n2_ n3_ n4_ n5_ n6_ n7_ n8_ n9_ n10_ n11_
    clear hb hbox hg
    refine hK.out _ _ ⟨(blk_cell BK273.out 0).trans rfl, (blk_cell BK273.out 1).trans rfl⟩ (fun hHeld => ?_)
    clear hK K
    refine norm_ (a' := ?_) ?_ ?_
    rotate_left
    ·show Act.put _ (some 8) _ = _
     simp only [Act.put, l1_25, l2_25, l3_25, i64_w, i32_w]
     rfl
    exact norm_ (by simp only [putAll, Act.put, l1_25, l2_25, l3_25]) (hCont (v278, gb281) _ ⟨hHeld, (by (with_reducible repeat (first | apply v1_25 | apply v2_25 | apply v3_25)); exact v4_25 HO0_1.out (fun _ hk => ⟨hk.1.1.1, ⟨hk.1.1.2, ⟨hk.1.2, hk.2⟩⟩⟩)), (by (with_reducible repeat (first | apply v1_25 | apply v2_25 | apply v3_25)); exact v4_25 HO279.out (fun _ hk => ⟨hk.1.1, ⟨hk.1.2.1, ⟨hk.1.2.2, hk.2⟩⟩⟩)), (by exact BK273.out), (by exact BK274.out), (by exact BK281.out), GW281.out, GE281.out, NB273_281.out, NB281_273.out, NB274_281.out, NB281_274.out, (by repeat (first | (with_reducible first | exact HB.out | apply b8_25 | apply b6_25 | apply b7_25 | refine b4_25 ?_ GE273.out | refine b4_25 ?_ GE274.out | refine b4_25 ?_ GE281.out) | exact HB.out))⟩)
   ·skip
    refine box_step ?hg (N := 8) ?hd (cs := #[.int .i64 0, .slice none 0 0]) (t := 24) ?hr ?_; (case hd => rfl); (case hg => rfl); (case hr => first | (go_simp; done) | (go_simp; rfl))
    intro gb281 hg w9 hbox hb
    have n0_ := aM_25 (v6_25 (Kd.V_elderB (by (with_reducible repeat (first | apply v1_25 | apply v2_25 | apply v3_25)); exact HO0_1.out) gb281 (Nat.le_of_eq hg.symm)) hb)
    have n1_ := aM_25 (b5_25 (by exact BK273.out) hb)
    have n2_ := aM_25 (b5_25 (by exact BK274.out) hb)
    have n3_ := aM_25 (b9_25 (by repeat (first | (with_reducible first | exact HB.out | apply b8_25 | apply b6_25 | apply b7_25 | refine b4_25 ?_ GE273.out | refine b4_25 ?_ GE274.out) | exact HB.out)) hb)
    have n4_ := aM_25 (hbox)
    have n5_ := aM_25 ((by rw [hg]; exact (b0_25 (by repeat (first | (with_reducible first | exact HB.out | apply b8_25 | apply b6_25 | apply b7_25 | refine b4_25 ?_ GE273.out | refine b4_25 ?_ GE274.out) | exact HB.out))) : w.heap.size ≤ gb281))
    have n6_ := aM_25 ((by rw [hg]; exact (b0_25 (by repeat (first | (with_reducible first | exact HB.out | apply b8_25 | apply b6_25 | apply b7_25 | refine b4_25 ?_ GE273.out | refine b4_25 ?_ GE274.out) | exact HB.out))) : w.heap.size ≤ gb281))
    have n7_ := aM_25 ((by rw [hg]; exact Nat.ne_of_lt (blk_lt (by exact BK273.out)) : gb273 ≠ gb281))
    have n8_ := aM_25 ((by rw [hg]; exact Nat.ne_of_gt (blk_lt (by exact BK273.out)) : gb281 ≠ gb273))
    have n9_ := aM_25 ((by rw [hg]; exact Nat.ne_of_lt (blk_lt (by exact BK274.out)) : gb274 ≠ gb281))
    have n10_ := aM_25 ((by rw [hg]; exact Nat.ne_of_gt (blk_lt (by exact BK274.out)) : gb281 ≠ gb274))
    clear HO0_1 BK273 BK274 HB
    have HO0_1 := n0_
    have BK273 := n1_
    have BK274 := n2_
    have HB := n3_
    have BK281 := n4_
    have GW281 := n5_
    have GE281 := n6_
    have NB273_281 := n7_
    have NB281_273 := n8_
    have NB274_281 := n9_
    have NB281_274 := n10_
    clear n0_ n1_ n2_ n3_ n4_ n5_ n6_ n7_ n8_ n9_ n10_
    clear hb hbox hg
    refine hK.out _ _ ⟨(blk_cell BK273.out 0).trans rfl, (blk_cell BK273.out 1).trans rfl⟩ (fun hHeld => ?_)
    clear hK K
    refine norm_ (a' := ?_) ?_ ?_
    rotate_left
    ·show Act.put _ (some 8) _ = _
     simp only [Act.put, l1_25, l2_25, l3_25, i64_w, i32_w]
     rfl
    refine one_ (i := 5) (N := some 16) #[true, true, true, true, true, true, false, false, false, true, false, false] rfl rfl (one_of HT_.out (by kernel_rfl)) (by decide) (fun K hK => ?_)
    refine goes_ Try.func24 (by kernel_rfl) rfl #[.agg #[.int .i64 a0_0, .slice A0_1 l0_1.length c0_1], .int .i64 a1, .int .i64 t275, .int .i64 a2] (by rfl) rfl rfl (by (try simp only [List.map_toArray, List.map_cons, List.map_nil]); first | done | rfl | (simp only [List.length_drop, List.length_take]; rfl)) ?_
    with_reducible refine (proofmarkref13_Mux.calls k a0_0 (fun k_ => ((((P0_1_ k_ ∨ w.heap.size ≤ k_) ∧ k_ ≠ gb273) ∧ k_ ≠ gb274) ∧ k_ ≠ gb281)) _ _ l0_1 a1 t275 a2 t276 t277 t280 _ ?side1 A5.out).mono ?_
    (case side1 => exact HO0_1.out)
    rintro e w10 ⟨v278, rfl, ho0, hb⟩
    refine ⟨_, rfl, ?_⟩
    have n0_ := aM_25 (v6_25 (by (with_reducible repeat (first | apply v1_25 | apply v2_25 | apply v3_25)); exact HO0_1.out) hb)
    have n1_ := aM_25 (Kd.V_lower (v4_25 (ok' := fun k_ => (P0_1_ k_ ∨ w.heap.size ≤ k_) ∧ k_ ≠ gb273 ∧ k_ ≠ gb274 ∧ k_ ≠ gb281) ho0 (fun k_ hk_ => ⟨Or.elim hk_ (fun hs_ => hs_.1.1.1) (fun hn_ => (.inr (Nat.le_trans (b0_25 (by repeat (first | (with_reducible first | exact HB.out | apply b8_25 | apply b6_25 | apply b7_25 | refine b4_25 ?_ GE273.out | refine b4_25 ?_ GE274.out | refine b4_25 ?_ GE281.out) | exact HB.out))) hn_))), Or.elim hk_ (fun hs_ => hs_.1.1.2) (fun hn_ => (Kd.freshB (g := gb273) (o := .cells #[.int .i64 a0_0, .slice A0_1 l0_1.length c0_1] 24 (0, 0)) (by exact BK273.out) k_ hn_)), Or.elim hk_ (fun hs_ => hs_.1.2) (fun hn_ => (Kd.freshB (g := gb274) (o := .cells #[.int .i64 0, .slice none 0 0] 24 (0, 0)) (by exact BK274.out) k_ hn_)), Or.elim hk_ (fun hs_ => hs_.2) (fun hn_ => (Kd.freshB (g := gb281) (o := .cells #[.int .i64 0, .slice none 0 0] 24 (0, 0)) (by exact BK281.out) k_ hn_))⟩)) (b0_25 (by repeat (first | (with_reducible first | exact HB.out | apply b8_25 | apply b6_25 | apply b7_25 | refine b4_25 ?_ GE273.out | refine b4_25 ?_ GE274.out | refine b4_25 ?_ GE281.out) | exact HB.out))))
    have n2_ := aM_25 (b5_25 (by exact BK273.out) hb)
    have n3_ := aM_25 (b5_25 (by exact BK274.out) hb)
    have n4_ := aM_25 (b5_25 (by exact BK281.out) hb)
    have n5_ := aM_25 (b9_25 (by repeat (first | (with_reducible first | exact HB.out | apply b8_25 | apply b6_25 | apply b7_25 | refine b4_25 ?_ GE273.out | refine b4_25 ?_ GE274.out | refine b4_25 ?_ GE281.out) | exact HB.out)) hb)
    clear HO0_1 BK273 BK274 BK281 HB
    have HO0_1 := n0_
    have HO279 := n1_
    have BK273 := n2_
    have BK274 := n3_
    have BK281 := n4_
    have HB := n5_
    clear n0_ n1_ n2_ n3_ n4_ n5_
    (try clear hb)
    (try clear hb2)
    (try clear hk)
    (try clear hi)
    (try clear ho0)
    refine hK.out _ _ ⟨(blk_cell BK273.out 0).trans rfl, (blk_cell BK273.out 1).trans rfl⟩ (fun hHeld => ?_)
    clear hK K
    refine norm_ (a' := ?_) ?_ ?_
    rotate_left
    ·show Act.put _ (some 16) _ = _
     simp only [Act.put, l1_25, l2_25, l3_25, i64_w, i32_w]
     rfl
    refine pure_ (i := 6) (N := some 10) (v := ?_) (a' := ?_) #[true, true, true, true, true, true, true, false, false, true, false, false] rfl rfl (any_of HT_.out (by kernel_rfl)) (fun _ _ _ h => h) (Or.inl ⟨by rfl, ?_⟩) ?_ ?_
    rotate_left
    ·intro w'
     go_simp
     with_reducible rfl
    rotate_left
    ·simp only [Act.put, l1_25, l2_25, l3_25, i64_w, i32_w]
     rfl
    refine pure_ (i := 7) (N := some 17) (v := ?_) (a' := ?_) #[true, true, true, true, true, true, true, true, false, true, false, false] rfl rfl (any_of HT_.out (by kernel_rfl)) (fun _ _ _ h => h) (Or.inl ⟨by rfl, ?_⟩) ?_ ?_
    rotate_left
    ·intro w'
     go_simp
     with_reducible rfl
    rotate_left
    ·simp only [Act.put, l1_25, l2_25, l3_25, i64_w, i32_w]
     rfl
    refine pure_ (i := 8) (N := some 18) (v := ?_) (a' := ?_) #[true, true, true, true, true, true, true, true, true, true, false, false] rfl rfl (any_of HT_.out (by kernel_rfl)) (fun _ _ _ h => h) (Or.inl ⟨by rfl, ?_⟩) ?_ ?_
    rotate_left
    ·intro w'
     go_simp
     with_reducible rfl
    rotate_left
    ·simp only [Act.put, l1_25, l2_25, l3_25, i64_w, i32_w]
     rfl
    exact norm_ (by simp only [putAll, Act.put, l1_25, l2_25, l3_25]) (hCont (v278, gb281) _ ⟨hHeld, (by (with_reducible repeat (first | apply v1_25 | apply v2_25 | apply v3_25)); exact v4_25 HO0_1.out (fun _ hk => ⟨hk.1.1.1, ⟨hk.1.1.2, ⟨hk.1.2, hk.2⟩⟩⟩)), (by (with_reducible repeat (first | apply v1_25 | apply v2_25 | apply v3_25)); exact HO279.out), (by exact BK273.out), (by exact BK274.out), (by exact BK281.out), GW281.out, GE281.out, NB273_281.out, NB281_273.out, NB274_281.out, NB281_274.out, (by repeat (first | (with_reducible first | exact HB.out | apply b8_25 | apply b6_25 | apply b7_25 | refine b4_25 ?_ GE273.out | refine b4_25 ?_ GE274.out | refine b4_25 ?_ GE281.out) | exact HB.out))⟩)
  ·skip
   refine box_step ?hg (N := 8) ?hd (cs := #[.int .i64 0, .slice none 0 0]) (t := 24) ?hr ?_; (case hd => rfl); (case hg => rfl); (case hr => first | (go_simp; done) | (go_simp; rfl))
   intro gb281 hg w9 hbox hb
   have n0_ := aM_25 (v6_25 (Kd.V_elderB (by (with_reducible repeat (first | apply v1_25 | apply v2_25 | apply v3_25)); exact HO0_1.out) gb281 (Nat.le_of_eq hg.symm)) hb)
   have n1_ := aM_25 (b5_25 (by exact BK273.out) hb)
   have n2_ := aM_25 (b5_25 (by exact BK274.out) hb)
   have n3_ := aM_25 (b9_25 (by repeat (first | (with_reducible first | exact HB.out | apply b8_25 | apply b6_25 | apply b7_25 | refine b4_25 ?_ GE273.out | refine b4_25 ?_ GE274.out) | exact HB.out)) hb)
   have n4_ := aM_25 (hbox)
   have n5_ := aM_25 ((by rw [hg]; exact (b0_25 (by repeat (first | (with_reducible first | exact HB.out | apply b8_25 | apply b6_25 | apply b7_25 | refine b4_25 ?_ GE273.out | refine b4_25 ?_ GE274.out) | exact HB.out))) : w.heap.size ≤ gb281))
   have n6_ := aM_25 ((by rw [hg]; exact (b0_25 (by repeat (first | (with_reducible first | exact HB.out | apply b8_25 | apply b6_25 | apply b7_25 | refine b4_25 ?_ GE273.out | refine b4_25 ?_ GE274.out) | exact HB.out))) : w.heap.size ≤ gb281))
   have n7_ := aM_25 ((by rw [hg]; exact Nat.ne_of_lt (blk_lt (by exact BK273.out)) : gb273 ≠ gb281))
   have n8_ := aM_25 ((by rw [hg]; exact Nat.ne_of_gt (blk_lt (by exact BK273.out)) : gb281 ≠ gb273))
   have n9_ := aM_25 ((by rw [hg]; exact Nat.ne_of_lt (blk_lt (by exact BK274.out)) : gb274 ≠ gb281))
   have n10_ := aM_25 ((by rw [hg]; exact Nat.ne_of_gt (blk_lt (by exact BK274.out)) : gb281 ≠ gb274))
   clear HO0_1 BK273 BK274 HB
   have HO0_1 := n0_
   have BK273 := n1_
   have BK274 := n2_
   have HB := n3_
   have BK281 := n4_
   have GW281 := n5_
   have GE281 := n6_
   have NB273_281 := n7_
   have NB281_273 := n8_
   have NB274_281 := n9_
   have NB281_274 := n10_
   clear n0_ n1_ n2_ n3_ n4_ n5_ n6_ n7_ n8_ n9_ n10_
   clear hb hbox hg
   refine hK.out _ _ ⟨(blk_cell BK273.out 0).trans rfl, (blk_cell BK273.out 1).trans rfl⟩ (fun hHeld => ?_)
   clear hK K
   refine norm_ (a' := ?_) ?_ ?_
   rotate_left
   ·show Act.put _ (some 8) _ = _
    simp only [Act.put, l1_25, l2_25, l3_25, i64_w, i32_w]
    rfl
   refine one_ (i := 3) (N := some 14) #[true, true, true, true, true, false, false, false, false, true, false, false] rfl rfl (one_of HT_.out (by kernel_rfl)) (by decide) (fun K hK => ?_)
   refine goes_ Try.func38 (by kernel_rfl) rfl #[.int .i64 a2] (by rfl) rfl rfl (by (try simp only [List.map_toArray, List.map_cons, List.map_nil]); first | done | rfl | (simp only [List.length_drop, List.length_take]; rfl)) ?_
   with_reducible refine (proofmarkref13_turn.calls a2 t275 _ A4.out).mono ?_
   rintro e w' ⟨rfl, ⟨nd, rfl⟩⟩
   refine ⟨_, rfl, ?_⟩
   refine hK.out _ _ ⟨(blk_cell BK273.out 0).trans rfl, (blk_cell BK273.out 1).trans rfl⟩ (fun hHeld => ?_)
   clear hK K
   refine norm_ (a' := ?_) ?_ ?_
   rotate_left
   ·show Act.put _ (some 14) _ = _
    simp only [Act.put, l1_25, l2_25, l3_25, i64_w, i32_w]
    rfl
   refine one_ (i := 5) (N := some 16) #[true, true, true, true, true, true, false, false, false, true, false, false] rfl rfl (one_of HT_.out (by kernel_rfl)) (by decide) (fun K hK => ?_)
   refine goes_ Try.func24 (by kernel_rfl) rfl #[.agg #[.int .i64 a0_0, .slice A0_1 l0_1.length c0_1], .int .i64 a1, .int .i64 t275, .int .i64 a2] (by rfl) rfl rfl (by (try simp only [List.map_toArray, List.map_cons, List.map_nil]); first | done | rfl | (simp only [List.length_drop, List.length_take]; rfl)) ?_
   with_reducible refine (proofmarkref13_Mux.calls k a0_0 (fun k_ => ((((P0_1_ k_ ∨ w.heap.size ≤ k_) ∧ k_ ≠ gb273) ∧ k_ ≠ gb274) ∧ k_ ≠ gb281)) _ _ l0_1 a1 t275 a2 t276 t277 t280 _ ?side1 A5.out).mono ?_
   (case side1 => exact HO0_1.out)
   rintro e w10 ⟨v278, rfl, ho0, hb⟩
   refine ⟨_, rfl, ?_⟩
   have n0_ := aM_25 (v6_25 (by (with_reducible repeat (first | apply v1_25 | apply v2_25 | apply v3_25)); exact HO0_1.out) hb)
   have n1_ := aM_25 (Kd.V_lower (v4_25 (ok' := fun k_ => (P0_1_ k_ ∨ w.heap.size ≤ k_) ∧ k_ ≠ gb273 ∧ k_ ≠ gb274 ∧ k_ ≠ gb281) ho0 (fun k_ hk_ => ⟨Or.elim hk_ (fun hs_ => hs_.1.1.1) (fun hn_ => (.inr (Nat.le_trans (b0_25 (by repeat (first | (with_reducible first | exact HB.out | apply b8_25 | apply b6_25 | apply b7_25 | refine b4_25 ?_ GE273.out | refine b4_25 ?_ GE274.out | refine b4_25 ?_ GE281.out) | exact HB.out))) hn_))), Or.elim hk_ (fun hs_ => hs_.1.1.2) (fun hn_ => (Kd.freshB (g := gb273) (o := .cells #[.int .i64 a0_0, .slice A0_1 l0_1.length c0_1] 24 (0, 0)) (by exact BK273.out) k_ hn_)), Or.elim hk_ (fun hs_ => hs_.1.2) (fun hn_ => (Kd.freshB (g := gb274) (o := .cells #[.int .i64 0, .slice none 0 0] 24 (0, 0)) (by exact BK274.out) k_ hn_)), Or.elim hk_ (fun hs_ => hs_.2) (fun hn_ => (Kd.freshB (g := gb281) (o := .cells #[.int .i64 0, .slice none 0 0] 24 (0, 0)) (by exact BK281.out) k_ hn_))⟩)) (b0_25 (by repeat (first | (with_reducible first | exact HB.out | apply b8_25 | apply b6_25 | apply b7_25 | refine b4_25 ?_ GE273.out | refine b4_25 ?_ GE274.out | refine b4_25 ?_ GE281.out) | exact HB.out))))
   have n2_ := aM_25 (b5_25 (by exact BK273.out) hb)
   have n3_ := aM_25 (b5_25 (by exact BK274.out) hb)
   have n4_ := aM_25 (b5_25 (by exact BK281.out) hb)
   have n5_ := aM_25 (b9_25 (by repeat (first | (with_reducible first | exact HB.out | apply b8_25 | apply b6_25 | apply b7_25 | refine b4_25 ?_ GE273.out | refine b4_25 ?_ GE274.out | refine b4_25 ?_ GE281.out) | exact HB.out)) hb)
   clear HO0_1 BK273 BK274 BK281 HB
   have HO0_1 := n0_
   have HO279 := n1_
   have BK273 := n2_
   have BK274 := n3_
   have BK281 := n4_
   have HB := n5_
   clear n0_ n1_ n2_ n3_ n4_ n5_
   (try clear hb)
   (try clear hb2)
   (try clear hk)
   (try clear hi)
   (try clear ho0)
   refine hK.out _ _ ⟨(blk_cell BK273.out 0).trans rfl, (blk_cell BK273.out 1).trans rfl⟩ (fun hHeld => ?_)
   clear hK K
   refine norm_ (a' := ?_) ?_ ?_
   rotate_left
   ·show Act.put _ (some 16) _ = _
    simp only [Act.put, l1_25, l2_25, l3_25, i64_w, i32_w]
    rfl
   refine pure_ (i := 6) (N := some 10) (v := ?_) (a' := ?_) #[true, true, true, true, true, true, true, false, false, true, false, false] rfl rfl (any_of HT_.out (by kernel_rfl)) (fun _ _ _ h => h) (Or.inl ⟨by rfl, ?_⟩) ?_ ?_
   rotate_left
   ·intro w'
    go_simp
    with_reducible rfl
   rotate_left
   ·simp only [Act.put, l1_25, l2_25, l3_25, i64_w, i32_w]
    rfl
   refine pure_ (i := 7) (N := some 17) (v := ?_) (a' := ?_) #[true, true, true, true, true, true, true, true, false, true, false, false] rfl rfl (any_of HT_.out (by kernel_rfl)) (fun _ _ _ h => h) (Or.inl ⟨by rfl, ?_⟩) ?_ ?_
   rotate_left
   ·intro w'
    go_simp
    with_reducible rfl
   rotate_left
   ·simp only [Act.put, l1_25, l2_25, l3_25, i64_w, i32_w]
    rfl
   refine pure_ (i := 8) (N := some 18) (v := ?_) (a' := ?_) #[true, true, true, true, true, true, true, true, true, true, false, false] rfl rfl (any_of HT_.out (by kernel_rfl)) (fun _ _ _ h => h) (Or.inl ⟨by rfl, ?_⟩) ?_ ?_
   rotate_left
   ·intro w'
    go_simp
    with_reducible rfl
   rotate_left
   ·simp only [Act.put, l1_25, l2_25, l3_25, i64_w, i32_w]
    rfl
   exact norm_ (by simp only [putAll, Act.put, l1_25, l2_25, l3_25]) (hCont (v278, gb281) _ ⟨hHeld, (by (with_reducible repeat (first | apply v1_25 | apply v2_25 | apply v3_25)); exact v4_25 HO0_1.out (fun _ hk => ⟨hk.1.1.1, ⟨hk.1.1.2, ⟨hk.1.2, hk.2⟩⟩⟩)), (by (with_reducible repeat (first | apply v1_25 | apply v2_25 | apply v3_25)); exact HO279.out), (by exact BK273.out), (by exact BK274.out), (by exact BK281.out), GW281.out, GE281.out, NB273_281.out, NB281_273.out, NB274_281.out, NB281_274.out, (by repeat (first | (with_reducible first | exact HB.out | apply b8_25 | apply b6_25 | apply b7_25 | refine b4_25 ?_ GE273.out | refine b4_25 ?_ GE274.out | refine b4_25 ?_ GE281.out) | exact HB.out))⟩)
 rintro ⟨v278, gb281⟩ w11 ⟨hS_, h0_, h1_, h2_, h3_, h4_, h5_, h6_, h7_, h8_, h9_, h10_, h11_⟩
 have n0_ : Aside0 (Kd.V k50 50 w11 w.heap.size (fun k_ => (P0_1_ k_ ∨ w.heap.size ≤ k_) ∧ k_ ≠ gb273 ∧ k_ ≠ gb274 ∧ k_ ≠ gb281) (.slice A0_1 l0_1.length c0_1) l0_1) := ⟨h0_⟩
 have n1_ : Aside0 (Kd.V k50 50 w11 w.heap.size (fun k_ => (P0_1_ k_ ∨ w.heap.size ≤ k_) ∧ k_ ≠ gb273 ∧ k_ ≠ gb274 ∧ k_ ≠ gb281) v278 t277) := ⟨h1_⟩
 have n2_ : Aside0 (w11.heap[gb273]? = some (.cells #[.int .i64 a0_0, .slice A0_1 l0_1.length c0_1] 24 (0, 0))) := ⟨h2_⟩
 have n3_ : Aside0 (w11.heap[gb274]? = some (.cells #[.int .i64 0, .slice none 0 0] 24 (0, 0))) := ⟨h3_⟩
 have n4_ : Aside0 (w11.heap[gb281]? = some (.cells #[.int .i64 0, .slice none 0 0] 24 (0, 0))) := ⟨h4_⟩
 have n5_ : Aside0 (w.heap.size ≤ gb281) := ⟨h5_⟩
 have n6_ : Aside0 (w.heap.size ≤ gb281) := ⟨h6_⟩
 have n7_ : Aside0 (gb273 ≠ gb281) := ⟨h7_⟩
 have n8_ : Aside0 (gb281 ≠ gb273) := ⟨h8_⟩
 have n9_ : Aside0 (gb274 ≠ gb281) := ⟨h9_⟩
 have n10_ : Aside0 (gb281 ≠ gb274) := ⟨h10_⟩
 have n11_ : Aside0 (Below w.heap.size w w11) := ⟨h11_⟩
 clear HO0_1 BK273 BK274 HB
 clear h0_ h1_ h2_ h3_ h4_ h5_ h6_ h7_ h8_ h9_ h10_ h11_
 have HO0_1 := n0_
 have HO279 := n1_
 have BK273 := n2_
 have BK274 := n3_
 have BK281 := n4_
 have GW281 := n5_
 have GE281 := n6_
 have NB273_281 := n7_
 have NB281_273 := n8_
 have NB274_281 := n9_
 have NB281_274 := n10_
 have HB := n11_
 clear n0_ n1_ n2_ n3_ n4_ n5_ n6_ n7_ n8_ n9_ n10_ n11_
 have hHeld : w11.cell? ⟨gb273, 0, none⟩ = some (.int .i64 a0_0) ∧ w11.cell? ⟨gb273, 1, none⟩ = some (.slice A0_1 l0_1.length c0_1) := hS_
 obtain ⟨Ao13, co13, eo13⟩ := Kd.V_slice HO279.out
 (first | subst eo13 | (injection eo13 with f1_ f2_ f3_; have f4_ := f1_.symm; have f5_ := f3_.symm; clear f1_ f2_ f3_; subst f4_; subst f5_))
 refine norm_ (a' := ?_) ?_ ?_
 rotate_left
 ·simp only [putAll, Act.put, l1_25, l2_25, l3_25]
  rfl
 refine one_ (i := 10) (N := none) #[true, true, true, true, true, true, true, true, true, true, true, false] rfl rfl (one_of HT_.out (by kernel_rfl)) (by decide) (fun K hK => ?_)
 have hs12 : w11.cell? ⟨gb281, 0, none⟩ = some (.int .i64 0) := (blk_cell BK281.out 0).trans rfl
 have hfs12 := blk_frozen BK281.out 0
 have hns12_0 := NB273_281.out
 have hns12_1 := NB274_281.out
 have hms12_0 := NB281_273.out
 have hms12_1 := NB281_274.out
 have hs14 : w11.cell? ⟨gb281, 1, none⟩ = some (.slice none 0 0) := (blk_cell BK281.out 1).trans rfl
 have hfs14 := blk_frozen BK281.out 1
 have hns14_0 := NB273_281.out
 have hns14_1 := NB274_281.out
 have hms14_0 := NB281_273.out
 have hms14_1 := NB281_274.out
 refine skip_ (w1 := ?_) (by rfl) rfl ?_ ?_
 rotate_left
 ·go_simp
  rfl
 refine hK.out _ _ ⟨((cell_far (p := ⟨gb281, _, none⟩) NB273_281.out _).trans (((cell_far (p := ⟨gb281, _, none⟩) NB273_281.out _).trans (hHeld.1)))), ((cell_far (p := ⟨gb281, _, none⟩) NB273_281.out _).trans (((cell_far (p := ⟨gb281, _, none⟩) NB273_281.out _).trans (hHeld.2))))⟩ (fun hHeld => ?_)
 clear hK K
 refine pure_ (i := 11) (N := some 9) (v := ?_) (a' := ?_) #[true, true, true, true, true, true, true, true, true, true, true, true] rfl rfl (any_of HT_.out (by kernel_rfl)) (fun _ _ _ h => h) (Or.inl ⟨by rfl, ?_⟩) ?_ ?_
 rotate_left
 ·intro w'
  go_simp
  with_reducible rfl
 rotate_left
 ·simp only [Act.put, l1_25, l2_25, l3_25, i64_w, i32_w]
  rfl
 refine done_ (done_of HT_.out (by kernel_rfl)) ?_
 have hnb15 := NB281_273.out
 have hnc15 := NB273_281.out
 have hnb16 := NB281_274.out
 have hnc16 := NB274_281.out
 obtain ⟨hcz17_0, hcz17_1, hfz17_0, hfz17_1⟩ := cells2_25 BK281.out
 have hnb18 := NB274_273.out
 have hnc18 := NB273_274.out
 obtain ⟨hcz19_0, hcz19_1, hfz19_0, hfz19_1⟩ := cells2_25 BK274.out
 try go_wp2
 refine bodyPost_ret (results_ct rfl _ _ gb274 24 #[.int .i64 t276, .slice Ao13 t277.length co13] (0, 0) _ rfl (by (with_reducible repeat (first | refine blk_drewN ?_ _ | refine blk_drew ?_ | refine blk_alloc ?_ _)); refine blk_put (cs := #[.int .i64 t276, .slice none 0 0]) ?_ 1 _ rfl; (with_reducible repeat (first | refine blk_drewN ?_ _ | refine blk_drew ?_ | refine blk_alloc ?_ _)); refine blk_put (cs := #[.int .i64 0, .slice none 0 0]) ?_ 0 _ rfl; (with_reducible repeat (first | refine blk_drewN ?_ _ | refine blk_drew ?_ | refine blk_alloc ?_ _)); refine blk_far ?_ NB274_281.out _; (with_reducible repeat (first | refine blk_drewN ?_ _ | refine blk_drew ?_ | refine blk_alloc ?_ _)); refine blk_far ?_ NB274_281.out _; (with_reducible repeat (first | refine blk_drewN ?_ _ | refine blk_drew ?_ | refine blk_alloc ?_ _)); exact BK274.out) Try.underlying24 rfl (by kernel_rfl)) rfl ?_
 exact ⟨_, by first | rfl | (simp [errW_none, errW_some] <;> rfl) | (simp [*, errW_none, errW_some] <;> rfl), by (with_reducible repeat (first | apply v1_25 | apply v2_25 | apply v3_25)); exact v4_25 (Kd.V_far (p := ⟨gb274, 1, none⟩) (Kd.V_far (p := ⟨gb274, 0, none⟩) (Kd.V_far (p := ⟨gb281, 1, none⟩) (Kd.V_far (p := ⟨gb281, 0, none⟩) (v4_25 (v4_25 HO279.out (fun k_ hk => (⟨hk, hk.2.2.2⟩ : _ ∧ k_ ≠ gb281))) (fun k_ hk => (⟨hk, hk.1.2.2.1⟩ : _ ∧ k_ ≠ gb274))) (fun _ hk => hk.1.2) (.int .i64 t276)) (fun _ hk => hk.1.2) (.slice Ao13 t277.length co13)) (fun _ hk => hk.2) (.int .i64 t276)) (fun _ hk => hk.2) (.slice Ao13 t277.length co13)) (fun _ hk => hk.1.1.1), by repeat (first | (with_reducible first | exact HB.out | apply b8_25 | apply b6_25 | apply b7_25 | refine b4_25 ?_ GE273.out | refine b4_25 ?_ GE274.out | refine b4_25 ?_ GE281.out) | exact HB.out)⟩
end Go.Proofs.Ytlnjefcfbncegaa.Xb
