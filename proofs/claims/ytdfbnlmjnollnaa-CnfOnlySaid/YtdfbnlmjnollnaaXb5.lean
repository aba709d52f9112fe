/- Slimmed by this session: what nothing names is struck out. -/
import Derived.Test.YtdfbnlmjnollnaaXb0
import Derived.Test.YtdfbnlmjnollnaaXb2
import Derived.Test.YtdfbnlmjnollnaaXb3
namespace Go.Proofs.Ytdfbnlmjnollnaa.Xb
open Go.RowKit Go.Proofs.YtdfbnlmjnollnaaW.PrintWords Go.Proofs.YtdfbnlmjnollnaaW.PrintLast Go.Proofs.YtdfbnlmjnollnaaW.PrintMore
attribute [local go_sem] max2_int min2_int max_two min_two max_three min_three max_four min_four
set_option linter.unusedVariables false
set_option linter.unusedSimpArgs false
set_option maxHeartbeats 1000000 in
theorem cnf_add.calls (g : Nat) (cv v : Value) (xs : List (List Int)) (l : List Int) (base : Nat) (w0 w : World) (hg : w.heap[g]? = some (.cells #[cv] 59 (0, 0))) (hgb : base ≤ g)
  (HN : Kd.N (Kd.slice 3 (Kd.int .i64)) 29 w base (fun k => base ≤ k ∧ k ≠ g) cv xs)
  (HF : Kd.FK (Kd.slice 3 (Kd.int .i64)) w (fun k => base ≤ k ∧ k ≠ g ∧ some k ≠ cv.ownBlock) l [v])
  (HB : Below base w0 w) (hl : (xs.length + 1) * 24 ≤ 140737488355328) :
  Calls Try.prog 32 #[.pointer (some ⟨g, 0, none⟩), v] w fun e w' => ∃ cv', e = .returned (.tuple #[]) ∧ w'.heap[g]? = some (.cells #[cv'] 59 (0, 0)) ∧ Kd.N (Kd.slice 3 (Kd.int .i64)) 29 w' base (fun k => base ≤ k ∧ k ≠ g) cv' (xs ++ [l]) ∧ Below base w0 w' ∧ ∀ k, k < w.heap.size → k ≠ g → some k ≠ cv.ownBlock → w'.heap[k]? = w.heap[k]? := by
 have hglt : g < w.heap.size := (Array.getElem?_eq_some_iff.1 hg).1
 have hbs : base ≤ w.heap.size := by omega
 obtain ⟨Av, cvv, rfl⟩ : ∃ A c, v = .slice A l.length c := by
  obtain ⟨A, c, e, _⟩ := Kd.FK_now HF
  injection e with e
  exact ⟨A, c, e⟩
 have hc0 : w.cell? ⟨g, 0, none⟩ = some cv := (blk_cell hg 0).trans rfl
 have hz0 := blk_frozen hg 0
 have hone : cv.oneCell' = true := by
  obtain ⟨A, c, rfl, _⟩ := Kd.N_reads HN
  rfl
 have HN' := Aside0.mk HN
 have HF' := Aside0.mk HF
 have HB' := Aside0.mk HB
 have Hg := Aside0.mk hg
 clear HN HF HB hg
 go_enter Try.func32, Try.ntmps32
 go_wp2_with (first | ((with_reducible refine gate_dst (N := 10) rfl ?_); refine Kd.N_append (Kd.slice 3 (Kd.int .i64)) (w0 := w0) base rfl (.tmp 7) (.tmp 9) 59 29 (.slice none 0 0) 24 rfl Try.underlying59 info29 rfl (by decide) (by omega) cv xs l [.slice Av l.length cvv] (fun k => base ≤ k ∧ k ≠ g) (fun k => base ≤ k ∧ k ≠ g ∧ some k ≠ cv.ownBlock) rfl rfl ?c1 ?c2 ?c3 ?c4 ?c5 ?c6 ?c7 ?_; go_must (case c1 => exact HF'.out); go_must (case c2 => exact fun k hk => ⟨⟨hk.1, hk.2.1⟩, hk.2.2⟩); go_must (case c3 => exact fun k hk => ⟨by omega, by omega⟩); go_must (case c4 => exact HN'.out); go_must (case c5 => exact HB'.out); go_must (case c6 => exact hbs); go_must (case c7 => exact hl); intro v1 w1 hn1 hb1 hg1 hat1; obtain ⟨A1, c1, hv1, hle1, hC1⟩ := Kd.N_reads hn1; subst hv1; have hw1 : w1.heap[g]? = some (.cells #[cv] 59 (0, 0)) := (hg1.block g hglt (fun he => (HN'.out.1 g he.symm).2 rfl)).trans Hg.out; have hc1 : w1.cell? ⟨g, 0, none⟩ = some cv := (blk_cell hw1 0).trans rfl; have hz1 := blk_frozen hw1 0; have HN1 := Aside0.mk hn1; have HB1 := Aside0.mk hb1; have HG1 := Aside0.mk hg1; have HW1 := Aside0.mk hw1; clear hn1 hb1 hg1 hat1 hw1 hle1 hC1))
 go_end0
 have hlen : (xs ++ [l]).length = xs.length + 1 := by simp
 have HN2 := HN1.out
 rw [hlen] at HN2
 refine ⟨.slice A1 (xs.length + 1) c1, rfl, ?_, ?_, ?_, ?_⟩
 ·exact blk_put (cs := #[cv]) HW1.out 0 _ rfl
 ·exact Kd.N_far HN2 (fun k hk => hk.2) _
 ·exact HB1.out.setCell hgb _
 ·intro k hk hkg hkc
  rw [Below.heap_setCell _ _ _ _ hkg]
  exact HG1.out.block k hk hkc
theorem cnf_lit {W : World} {g : Nat} (l : List Int) (vals : Array Value) (hv : vals = (l.map (Value.int .i64)).toArray) (hb : W.heap[g]? = some (.cells vals 3 (0, 0))) (hl : l.length ≤ 9223372036854775807) : (Kd.int .i64).C W (some ⟨g, 0, none⟩) l.length l := by
 refine Kd.C_of_reads (enc := Value.int .i64) (d := (0 : Int)) (h1 := fun _ => rfl) ⟨rfl, hl, fun _ => ⟨_, rfl, fun j hj => ?_⟩⟩
 rw [add_plain, blk_cell hb j, hv]
 simp [List.getD_eq_getElem?_getD, hj]
theorem cnf_add.lit (g : Nat) (cv : Value) (xs : List (List Int)) (l : List Int) (vals : Array Value) (n base : Nat) (w0 W0 W : World) (hv : vals = (l.map (Value.int .i64)).toArray) (hn : n = l.length)
  (hg : W0.heap[g]? = some (.cells #[cv] 59 (0, 0))) (hgb : base ≤ g) (HN : Kd.N (Kd.slice 3 (Kd.int .i64)) 29 W0 base (fun k => base ≤ k ∧ k ≠ g) cv xs) (HB : Below base w0 W0) (hD : Below W0.heap.size W0 W) (ga : Nat) (hga : ga = W.heap.size)
  (hl : (xs.length + 1) * 24 ≤ 140737488355328) (hl2 : l.length ≤ 9223372036854775807) :
  Calls Try.prog 32 #[.pointer (some ⟨g, 0, none⟩), .slice (some ⟨ga, 0, none⟩) n n] (W.alloc (.cells vals 3)) fun e w' => ∃ cv', e = .returned (.tuple #[]) ∧ w'.heap[g]? = some (.cells #[cv'] 59 (0, 0)) ∧ Kd.N (Kd.slice 3 (Kd.int .i64)) 29 w' base (fun k => base ≤ k ∧ k ≠ g) cv' (xs ++ [l]) ∧ Below base w0 w' ∧ ∀ k cs t, W0.heap[k]? = some (.cells cs t (0, 0)) → t ≠ 29 → k ≠ g → w'.heap[k]? = some (.cells cs t (0, 0)) := by
 subst hn hga
 have hb1 : Below W0.heap.size W0 (W.alloc (.cells vals 3)) := below_alloc hD _
 have hsz : W0.heap.size ≤ W.heap.size := hD.size
 have hglt : g < W0.heap.size := (Array.getElem?_eq_some_iff.1 hg).1
 have hnew : (W.alloc (.cells vals 3)).heap[W.heap.size]? = some (.cells vals 3 (0, 0)) := heap_alloc_new _ _
 have HN1 := Kd.N_step HN (fun k _ hlt => hb1.block k hlt)
 refine (cnf_add.calls g cv _ xs l base w0 _ (blk_below hg hb1) hgb HN1 ?_ (HB.trans (hb1.mono (by omega))) hl).mono ?_
 ·intro W2 hW2
  have h2 := hW2 W.heap.size ⟨by omega, by omega, fun he => by have := Kd.N_lt HN _ he.symm; omega⟩ (by simp)
  exact ⟨_, _, rfl, Nat.le_refl _, cnf_lit l vals hv (h2.trans hnew) hl2⟩
 ·rintro e w' ⟨cv', rfl, h1, h2, h3, h4⟩
  refine ⟨cv', rfl, h1, h2, h3, fun k cs t hk ht hkg => ?_⟩
  have hlt : k < W0.heap.size := (Array.getElem?_eq_some_iff.1 hk).1
  exact (h4 k (by simp; omega) hkg (Kd.N_ne HN hk (Ne.symm ht))).trans ((hb1.block k hlt).trans hk)
def cnf_Clauses.of (a0 a1 : Int) : Int := (cnf_Of.f a0 a1).getD 0
theorem cnf_Clauses.of_eq (a0 a1 : Int) : cnf_Of.f a0 a1 = some (cnf_Clauses.of a0 a1) := by
 unfold cnf_Clauses.of cnf_Of.f cnf_literal_of.f
 rfl
theorem cnf_Clauses.of_calls (a0 a1 : Int) (w : World) : Calls Try.prog 15 #[.int .i64 a0, .int .i64 a1] w fun e w' => e = .returned (.int .i64 (cnf_Clauses.of a0 a1)) ∧ w = w' := by
 go_enter Try.func15, Try.ntmps15
 go_wp2
 go_ret
 exact ⟨rfl, rfl⟩
def cnf_Clauses.three (a0 off : Int) (i : Nat) (x : S49) : List (List Int) :=
 [[wrap64 (-(cnf_Clauses.of (wrap64 (2 * (wrap64 ((wrap64 (1 + a0)) + (i : Int))))) off)), cnf_Clauses.of x.f0 off], [wrap64 (-(cnf_Clauses.of (wrap64 (2 * (wrap64 ((wrap64 (1 + a0)) + (i : Int))))) off)), cnf_Clauses.of x.f1 off], [cnf_Clauses.of (wrap64 (2 * (wrap64 ((wrap64 (1 + a0)) + (i : Int))))) off, wrap64 (-(cnf_Clauses.of x.f0 off)), wrap64 (-(cnf_Clauses.of x.f1 off))]]
def cnf_Clauses.upto (a0 off : Int) (l : List S49) : Nat → List (List Int)
 | 0 => [[wrap64 (-(cnf_Clauses.of 0 off))]]
 | k + 1 => cnf_Clauses.upto a0 off l k ++ cnf_Clauses.three a0 off k (rd_T49 l (k : Int))
theorem cnf_Clauses.upto_len (a0 off : Int) (l : List S49) : ∀ k, (cnf_Clauses.upto a0 off l k).length = 1 + 3 * k
 | 0 => rfl
 | k + 1 => by simp [cnf_Clauses.upto, cnf_Clauses.upto_len a0 off l k, cnf_Clauses.three]; omega
def cnf_Clauses.f (a0_0 : Int) (l0_1 : List (S49)) (a1 : Int) : Option (List (List Int)) := if l0_1.length < 1099511627776 then some (cnf_Clauses.upto a0_0 a1 l0_1 l0_1.length) else none
set_option maxHeartbeats 4000000 in
set_option maxRecDepth 100000 in
theorem cnf_Clauses.calls (a0_0 : Int) (A0_1 : Option Addr) (c0_1 : Nat) (l0_1 : List (S49)) (a1 : Int) (r : List (List Int)) (w : World) (hr0_1 : Kd.C k49 w A0_1 l0_1.length l0_1) (hc0_1 : l0_1.length ≤ c0_1) (h : cnf_Clauses.f a0_0 l0_1 a1 = some r) :
  Calls Try.prog 18 #[.agg #[.int .i64 a0_0, .slice A0_1 l0_1.length c0_1], .int .i64 a1] w fun e w' => ∃ v0_ : Value, e = .returned (v0_) ∧ Kd.N (Kd.slice 3 (Kd.int .i64)) 29 w' w.heap.size (fun k_ => (w.heap.size ≤ k_)) v0_ r ∧ Below w.heap.size w w' := by
 unfold cnf_Clauses.f at h
 have hu28 := Try.underlying28
 have hu49 := Try.underlying49
 have hix49_0 : ∀ (x0_ x1_ : Value) (W_ : World), (Instr.index 49 (.agg #[x0_, x1_]) (.int .i64 0)).run Try.prog W_ = .ok x0_ W_ := fun _ _ _ => by kernel_rfl
 have hix49_1 : ∀ (x0_ x1_ : Value) (W_ : World), (Instr.index 49 (.agg #[x0_, x1_]) (.int .i64 1)).run Try.prog W_ = .ok x1_ W_ := fun _ _ _ => by kernel_rfl
 by_cases hlim : l0_1.length < 1099511627776
 case neg => rw [if_neg hlim] at h; exact absurd h (by simp)
 rw [if_pos hlim] at h
 have Hr := Aside0.mk (Option.some.inj h)
 have HR := Aside0.mk hr0_1
 have HC := Aside0.mk hc0_1
 have HB := Aside0.mk (Below.refl w.heap.size w)
 clear h hr0_1 hc0_1
 go_enter Try.func18, Try.ntmps18
 go_wp2_with (first | ((with_reducible refine gate_dst (N := 2) rfl ?_); refine box_event ?hg (N := 2) ?hd (cs := #[.int .i64 a0_0, .slice A0_1 l0_1.length c0_1]) (t := 28) ?hr ?_; (case hd => rfl); (case hg => rfl); (case hr => first | (go_simp; done) | (go_simp; rfl)); intro gb hgb w2 hbox hb; have BG := Aside0.mk hbox; have HB2 := Aside0.mk (below_step HB.out hb); have GB := Aside0.mk (by rw [hgb]; exact HB.out.size : w.heap.size ≤ gb); clear hb hbox hgb HB; have HB := HB2; clear HB2; have hz0 : w2.cell? ⟨gb, 0, none⟩ = some (.int .i64 a0_0) := (blk_cell BG.out 0).trans rfl; have hz1 : w2.cell? ⟨gb, 1, none⟩ = some (.slice A0_1 l0_1.length c0_1) := (blk_cell BG.out 1).trans rfl; have hf0 := blk_frozen BG.out 0; have hf1 := blk_frozen BG.out 1) | ((with_reducible refine gate_dst (N := 5) rfl ?_); refine box_event ?hg (N := 5) ?hd (cs := #[.slice none 0 0]) (t := 59) ?hr ?_; (case hd => rfl); (case hg => rfl); (case hr => first | (go_simp; done) | (go_simp; rfl)); intro gc hgc w3 hbox hb; have BC := Aside0.mk hbox; have BG2 := Aside0.mk (blk_below BG.out hb); have HB2 := Aside0.mk (below_step HB.out hb); have GC := Aside0.mk (by rw [hgc]; exact HB.out.size : w.heap.size ≤ gc); have NE := Aside0.mk (by have := (Array.getElem?_eq_some_iff.1 BG.out).1; omega : gb ≠ gc); have HN := Aside0.mk (Kd.N_nil (Kd.slice 3 (Kd.int .i64)) 29 w3 w.heap.size (fun k => w.heap.size ≤ k ∧ k ≠ gc)); clear hb hbox hgc HB BG hz0 hz1 hf0 hf1; have HB := HB2; have BG := BG2; clear HB2 BG2) | (go_at_call 15; refine (cnf_Clauses.of_calls _ _ _).mono ?_; rintro e w' ⟨rfl, rfl⟩))
 (go_at_call 32; refine (cnf_add.lit gc _ _ [_] _ _ w.heap.size w w3 _ rfl rfl BC.out GC.out HN.out HB.out (by repeat (first | exact Below.refl _ _ | apply below_alloc | apply pw_below_drewN | apply below_drew)) _ ?hga ?ha ?hb).mono ?_; go_must (case hga => simp); go_must (case ha => simp); (case hb => simp); rintro e w4 ⟨cv', rfl, h1, h2, h3, h4⟩; have BG2 := Aside0.mk (h4 _ _ _ BG.out (by decide) NE.out);  have BC2 := Aside0.mk h1; have HN2 := Aside0.mk h2; have HB2 := Aside0.mk h3; clear h1 h2 h3 h4 BC HN HB BG; have BC := BC2; have HN := HN2; have HB := HB2; have BG := BG2; clear BC2 HN2 HB2 BG2; have hz0 : w4.cell? ⟨gb, 0, none⟩ = some (.int .i64 a0_0) := (blk_cell BG.out 0).trans rfl; have hz1 : w4.cell? ⟨gb, 1, none⟩ = some (.slice A0_1 l0_1.length c0_1) := (blk_cell BG.out 1).trans rfl; have hf0 := blk_frozen BG.out 0; have hf1 := blk_frozen BG.out 1)
 go_wp2
 go_loopw [22] (fun v W => ∃ (j : Nat) (cv : Value), j ≤ l0_1.length ∧ v = .int .i64 (j : Int) ∧ Aside0 (W.heap[gc]? = some (.cells #[cv] 59 (0, 0))) ∧ Aside0 (Kd.N (Kd.slice 3 (Kd.int .i64)) 29 W w.heap.size (fun k => w.heap.size ≤ k ∧ k ≠ gc) cv (cnf_Clauses.upto a0_0 a1 l0_1 j)) ∧ Aside0 (W.heap[gb]? = some (.cells #[.int .i64 a0_0, .slice A0_1 l0_1.length c0_1] 28 (0, 0))) ∧ Aside0 (Below w.heap.size w W)) (fun v _ => l0_1.length - (intOf v).toNat)
 case atStart => exact ⟨0, _, Nat.zero_le _, rfl, BC, HN, BG, HB⟩
 case round =>
  clear hz0 hz1 hf0 hf1 BC HN BG HB
  obtain ⟨j, cv, hj, rfl, BC, HN, BG, HB⟩ := hrel
  have hz0 : wr.cell? ⟨gb, 0, none⟩ = some (.int .i64 a0_0) := (blk_cell BG.out 0).trans rfl
  have hz1 : wr.cell? ⟨gb, 1, none⟩ = some (.slice A0_1 l0_1.length c0_1) := (blk_cell BG.out 1).trans rfl
  have hf0 := blk_frozen BG.out 0
  have hf1 := blk_frozen BG.out 1
  by_cases hlt : j < l0_1.length
  ·obtain ⟨ad, hA, hx0, hx1⟩ := at_T49 HR.out (j : Int) (by omega) (by omega)
   subst hA
   simp only [Int.toNat_natCast] at hx0 hx1
   replace hx0 := (HB.out.cell (World.block_lt_of_cell? w _ hx0)).trans hx0
   replace hx1 := (HB.out.cell (World.block_lt_of_cell? w _ hx1)).trans hx1
   have HL := Aside0.mk (cnf_Clauses.upto_len a0_0 a1 l0_1 j)
   have hgl : gb < wr.heap.size := (Array.getElem?_eq_some_iff.1 BG.out).1
   go_wp2_with (go_at_call 15; refine (cnf_Clauses.of_calls _ _ _).mono ?_; rintro e w' ⟨rfl, rfl⟩)
   go_quiet ((go_at_call 15; exact Calls.quiet_of_same ((cnf_Clauses.of_calls _ _ _).mono fun _ _ h => ⟨h.1, h.2.symm⟩)))
   go_wp2_with fail
   (go_at_call 32; refine (cnf_add.lit gc _ _ [_, _] _ _ w.heap.size w wr _ rfl rfl BC.out GC.out HN.out HB.out (by repeat (first | exact Below.refl _ _ | apply below_alloc | apply pw_below_drewN | apply below_drew)) _ ?hga ?ha ?hb).mono ?_; go_must (case hga => simp); go_must (case ha => have := HL.out; simp; omega); go_must (case hb => simp); rintro e w5 ⟨cv', rfl, h1, h2, h3, h4⟩; have BG2 := Aside0.mk (h4 _ _ _ BG.out (by decide) NE.out); have BC2 := Aside0.mk h1; have HN2 := Aside0.mk h2; have HB2 := Aside0.mk h3; clear h1 h2 h3 h4 BC HN HB BG; have BC := BC2; have HN := HN2; have HB := HB2; have BG := BG2; clear BC2 HN2 HB2 BG2; clear hz0 hz1 hf0 hf1 hgl)
   go_wp2_with fail
   (go_at_call 32; refine (cnf_add.lit gc _ _ [_, _] _ _ w.heap.size w w5 _ rfl rfl BC.out GC.out HN.out HB.out (by repeat (first | exact Below.refl _ _ | apply below_alloc | apply pw_below_drewN | apply below_drew)) _ ?hga ?ha ?hb).mono ?_; go_must (case hga => simp); go_must (case ha => have := HL.out; simp; omega); go_must (case hb => simp); rintro e w6 ⟨cv', rfl, h1, h2, h3, h4⟩; have BG2 := Aside0.mk (h4 _ _ _ BG.out (by decide) NE.out); have BC2 := Aside0.mk h1; have HN2 := Aside0.mk h2; have HB2 := Aside0.mk h3; clear h1 h2 h3 h4 BC HN HB BG; have BC := BC2; have HN := HN2; have HB := HB2; have BG := BG2; clear BC2 HN2 HB2 BG2)
   go_wp2_with fail
   (go_at_call 32; refine (cnf_add.lit gc _ _ [_, _, _] _ _ w.heap.size w w6 _ rfl rfl BC.out GC.out HN.out HB.out (by repeat (first | exact Below.refl _ _ | apply below_alloc | apply pw_below_drewN | apply below_drew)) _ ?hga ?ha ?hb).mono ?_; go_must (case hga => simp); go_must (case ha => have := HL.out; simp; omega); go_must (case hb => simp); rintro e w7 ⟨cv', rfl, h1, h2, h3, h4⟩; have BG2 := Aside0.mk (h4 _ _ _ BG.out (by decide) NE.out); have BC2 := Aside0.mk h1; have HN2 := Aside0.mk h2; have HB2 := Aside0.mk h3; clear h1 h2 h3 h4 BC HN HB BG; have BC := BC2; have HN := HN2; have HB := HB2; have BG := BG2; clear BC2 HN2 HB2 BG2)
   go_wp2
   go_outline
   go_roundw
   case rel =>
    refine ⟨j + 1, _, by omega, by go_num, BC, ⟨?_⟩, BG, HB⟩
    have := HN.out
    simpa [cnf_Clauses.upto, cnf_Clauses.three] using this
   case measure => simp [intOf]; omega
  ·have hc0 : wr.cell? ⟨gc, 0, none⟩ = some cv := (blk_cell BC.out 0).trans rfl
   have HJ := Aside0.mk (by omega : j = l0_1.length)
   go_wp2
   go_ret
   refine ⟨cv, rfl, ?_, HB.out⟩
   rw [← Hr.out, ← HJ.out]
   exact Kd.N_mono HN.out (fun k hk => hk.1)
end Go.Proofs.Ytdfbnlmjnollnaa.Xb
