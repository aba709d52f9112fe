/- What the document's maker of bits makes: graphs stay right, and grow by so much. -/
import Derived.Test.YtfjdhdmbbfeigaaPnC6
namespace Go.Proofs.Ytfjdhdmbbfeigaa.Am
set_option linter.unusedVariables false
set_option linter.unusedSimpArgs false
def GX (k : Nat) (ins : Int) (g : List Kii) (R : Option (Int × List Kii × Int × Unit)) : Prop := ∃ t x, R = some (ins, g ++ t, x, ()) ∧ t.length ≤ k ∧ RG ins (g ++ t) ∧ LitG ins (g ++ t) x
def GL (k W : Nat) (ins : Int) (g : List Kii) (R : Option (Int × List Kii × List Int × Unit)) : Prop := ∃ t l, R = some (ins, g ++ t, l, ()) ∧ t.length ≤ k ∧ RG ins (g ++ t) ∧ l.length = W ∧ Lits ins (g ++ t) l
theorem StepG.gx {k : Nat} {ins : Int} {g : List Kii} {R : Option (Int × List Kii × Int × Unit)} {φ : List Bool → Bool} (h : StepG k ins g R φ) : GX k ins g R := by
  obtain ⟨t, x, e, ht, hr, hx, -⟩ := h
  exact ⟨t, x, e, ht, hr, hx⟩
theorem GL.le {k k' W : Nat} {ins : Int} {g : List Kii} {R : Option (Int × List Kii × List Int × Unit)} (h : GL k W ins g R) (hk : k ≤ k') : GL k' W ins g R := by
  obtain ⟨t, x, e, ht, rest⟩ := h
  exact ⟨t, x, e, by omega, rest⟩
section
variable {n : Nat} {ins : Int} {g : List Kii} {c : Int} {a b : List Int}
theorem lit01 (r : RG ins g) {x : Int} (h : x = 0 ∨ x = 1) : LitG ins g x := by
  have := r.i0
  rcases h with rfl | rfl <;> simp [LitG] <;> omega
theorem rlit_f {u : Int} {w : Nat} (r : RG ins g) (hu : 0 ≤ u) (hu2 : u < 9223372036854775808) (hw : w ≤ 62) (hn : 30000 < n) : ∃ l, ref14_lit n u (w : Int) = some (l, ()) ∧ l.length = w ∧ Lits ins g l := by
  obtain ⟨R, e, l, hR, hl, hls⟩ := iter_ex (F := ref14_lit_l1b n u (w : Int)) (len := w) (m := n) (d := (0, [], ()))
    (fun j d => ∃ l : List Int, d = ((j : Int), l, ()) ∧ l.length = j ∧ Lits ins g l)
    (fun R => ∃ l : List Int, R = (l, ()) ∧ l.length = w ∧ Lits ins g l)
    (fun self j d hj ⟨l, hd, hl, hls⟩ => by
      subst hd
      have hp := p2_pos (j : Int)
      have hd : 0 ≤ u / P2 (j : Int) := Int.ediv_nonneg hu (by omega)
      have hle : u / P2 (j : Int) ≤ u := Int.ediv_le_self _ hu
      unfold ref14_lit_l1b
      simp only [cond_dec]
      rw [if_pos (by omega), ask_of (by omega), ask_of (by simp; omega), succ64 (by omega), shr_p2 (by omega), and_one _ hd (by omega)]
      exact ⟨_, rfl, _, rfl, by simp [hl], hls.snoc (lit01 r (by omega))⟩)
    (fun self d ⟨l, hd, hl, hls⟩ => by
      subst hd
      unfold ref14_lit_l1b
      simp only [cond_dec]
      rw [if_neg (by omega)]
      exact ⟨_, rfl, l, rfl, hl, hls⟩) (by omega) ⟨[], rfl, rfl, fun x hx => by simp at hx⟩
  subst hR
  unfold ref14_lit
  rw [show ref14_lit_l1 n u (w : Int) (0, [], ()) = _ from e, bindS]
  exact ⟨l, rfl, hl, hls⟩
theorem rturned_f {l : List Int} (r : RG ins g) (h : Lits ins g l) (hl : l.length ≤ 1000) (hn : 30000 < n) : ref14_turned n l = some (l.map turn, ()) := by
  have l1 := iter_up (F := ref14_turned_l1b n l) (fun j => ((j : Int), (l.take j).map turn, ())) (l.map turn, ()) (len := l.length) (m := n)
    (fun self j hj => by
      obtain ⟨e1, -⟩ := turn_lit r (h.at hj)
      unfold ref14_turned_l1b
      simp only [cond_dec, e1]
      rw [if_pos (by omega), ask_of (by omega), ask_of (by simp; omega), succ64 (by omega), take_at (t := i_) hj, List.map_append]
      rfl)
    (fun self => by
      unfold ref14_turned_l1b
      simp only [cond_dec]
      rw [if_neg (by omega), List.take_length]) (by omega)
  unfold ref14_turned
  rw [show ref14_turned_l1 n l (0, [], ()) = _ from l1, bindS]
theorem reach_f {op : Int} (r : RG ins g) (hg : g.length + 3 * a.length < 19000) (ha : Lits ins g a) (hb : Lits ins g b) (hab : b.length = a.length) (hal : a.length ≤ 1000) (hn : 30000 < n) : GL (3 * a.length) a.length ins g (ref14_each n ins g op a b) := by
  obtain ⟨R, e, t, L, hR, ht, hr, hL, hLs⟩ := iter_ex (F := ref14_each_l2b n op a b) (len := a.length) (m := n) (d := (0, ins, g, [], ()))
    (fun j d => ∃ t L, d = ((j : Int), ins, g ++ t, L, ()) ∧ t.length ≤ 3 * j ∧ RG ins (g ++ t) ∧ L.length = j ∧ Lits ins (g ++ t) L)
    (fun R => ∃ t L, R = (ins, g ++ t, L, ()) ∧ t.length ≤ 3 * a.length ∧ RG ins (g ++ t) ∧ L.length = a.length ∧ Lits ins (g ++ t) L)
    (fun self j d hj ⟨t, L, hd, ht, hr, hL, hLs⟩ => by
      subst hd
      have one : ∃ t' x, ref14_each_j1 n ((j : Int), ins, g ++ t, L, ()) op a b = some (x, ins, g ++ t ++ t', ()) ∧ t'.length ≤ 3 ∧ RG ins (g ++ t ++ t') ∧ LitG ins (g ++ t ++ t') x := by
        unfold ref14_each_j1
        simp only [cond_dec]
        split
        · obtain ⟨t', x, e, h1, h2, h3, -⟩ := rand_f (n := n) hr (by simp; omega) (ha.at hj).more (hb.at (j := j) (by omega)).more hn
          rw [ask_of (by omega), ask_of (by omega), e, bindS]
          exact ⟨t', x, rfl, by omega, h2, h3⟩
        · split
          · obtain ⟨t', x, e, h1, h2, h3, -⟩ := ror_f (n := n) hr (by simp; omega) (ha.at hj).more (hb.at (j := j) (by omega)).more hn
            rw [ask_of (by omega), ask_of (by omega), e, bindS]
            exact ⟨t', x, rfl, by omega, h2, h3⟩
          · obtain ⟨t', x, e, h1, h2, h3, -⟩ := rxor_f (n := n) hr (by simp; omega) (ha.at hj).more (hb.at (j := j) (by omega)).more hn
            rw [ask_of (by omega), ask_of (by omega), e, bindS]
            exact ⟨t', x, rfl, by omega, h2, h3⟩
      obtain ⟨t', x, e, h1, h2, h3⟩ := one
      unfold ref14_each_l2b
      simp only [cond_dec]
      rw [if_pos (by omega), e, bindS, ask_of (by simp; omega), succ64 (by omega)]
      exact ⟨_, rfl, t ++ t', L ++ [x], by simp, by simp; omega, by simpa using h2, by simp [hL], by simpa using (Lits.more hLs).snoc h3⟩)
    (fun self d ⟨t, L, hd, ht, hr, hL, hLs⟩ => by
      subst hd
      unfold ref14_each_l2b
      simp only [cond_dec]
      rw [if_neg (by omega)]
      exact ⟨_, rfl, t, L, rfl, ht, hr, hL, hLs⟩) (by omega) ⟨[], [], by simp, by simp, by simpa using r, rfl, fun x hx => by simp at hx⟩
  subst hR
  unfold ref14_each
  rw [show ref14_each_l2 n op a b (0, ins, g, [], ()) = _ from e, bindS]
  exact ⟨t, L, rfl, ht, hr, hL, hLs⟩
theorem rsum_o (r : RG ins g) (hg : g.length + 9 * a.length < 19000) (ha : Lits ins g a) (hb : Lits ins g b) (hab : b.length = a.length) (hal : a.length ≤ 1000) (hc : LitG ins g c) (hn : 30000 < n) : GL (9 * a.length) a.length ins g (ref14_sum_o n ins g a b c) := by
  obtain ⟨R, e, t, L, hR, ht, hr, hL, hLs⟩ := iter_ex (F := ref14_sum_o_l1b n a b) (len := a.length) (m := n) (d := (c, 0, ins, g, [], ()))
    (fun j d => ∃ t L x, d = (x, (j : Int), ins, g ++ t, L, ()) ∧ t.length ≤ 9 * j ∧ RG ins (g ++ t) ∧ LitG ins (g ++ t) x ∧ L.length = j ∧ Lits ins (g ++ t) L)
    (fun R => ∃ t L, R = (ins, g ++ t, L, ()) ∧ t.length ≤ 9 * a.length ∧ RG ins (g ++ t) ∧ L.length = a.length ∧ Lits ins (g ++ t) L)
    (fun self j d hj ⟨t, L, x, hd, ht, hr, hx, hL, hLs⟩ => by
      subst hd
      have la := (ha.at hj).more (t := t)
      have lb := (hb.at (j := j) (by omega)).more (t := t)
      obtain ⟨t1, y1, e1, ht1, hr1, hy1, -⟩ := rxor_f (n := n) hr (by simp; omega) la lb hn
      obtain ⟨t2, y2, e2, ht2, hr2, hy2, -⟩ := rxor_f (n := n) hr1 (by simp; omega) hy1 hx.more hn
      obtain ⟨t3, y3, e3, ht3, hr3, hy3, -⟩ := rand_f (n := n) hr2 (by simp; omega) la.more.more lb.more.more hn
      obtain ⟨t4, y4, e4, ht4, hr4, hy4, -⟩ := rand_f (n := n) hr3 (by simp; omega) hy1.more.more hx.more.more.more hn
      obtain ⟨t5, y5, e5, ht5, hr5, hy5, -⟩ := ror_f (n := n) hr4 (by simp; omega) hy3.more hy4 hn
      unfold ref14_sum_o_l1b
      simp only [cond_dec]
      rw [if_pos (by omega), ask_of (by omega), ask_of (by omega), e1, bindS]
      simp only
      rw [e2, bindS]
      simp only
      rw [ask_of (by omega), ask_of (by omega), e3, bindS]
      simp only
      rw [e4, bindS]
      simp only
      rw [e5, bindS, ask_of (by simp; omega), succ64 (by omega)]
      exact ⟨_, rfl, t ++ t1 ++ t2 ++ t3 ++ t4 ++ t5, L ++ [y2], y5, by simp, by simp; omega, by simpa using hr5, by simpa using hy5, by simp [hL], by simpa using Lits.more (t := t5) (Lits.more (t := t4) (Lits.more (t := t3) ((Lits.more (t := t2) (Lits.more (t := t1) hLs)).snoc hy2)))⟩)
    (fun self d ⟨t, L, x, hd, ht, hr, hx, hL, hLs⟩ => by
      subst hd
      unfold ref14_sum_o_l1b
      simp only [cond_dec]
      rw [if_neg (by omega)]
      exact ⟨_, rfl, t, L, rfl, ht, hr, hL, hLs⟩) (by omega) ⟨[], [], c, by simp, by simp, by simpa using r, by simpa using hc, rfl, fun x hx => by simp at hx⟩
  subst hR
  unfold ref14_sum_o
  rw [show ref14_sum_o_l1 n a b (c, 0, ins, g, [], ()) = _ from e, bindS]
  exact ⟨t, L, rfl, ht, hr, hL, hLs⟩
theorem rsum_f (r : RG ins g) (hg : g.length + 9 * a.length < 19000) (ha : Lits ins g a) (hb : Lits ins g b) (hab : b.length = a.length) (hal : a.length ≤ 1000) (hc : LitG ins g c) (hn : 30000 < n) : GL (9 * a.length) a.length ins g (ref14_sum n ins g a b c) := rsum_o r hg ha hb hab hal hc hn
theorem rall_f (r : RG ins g) (hg : g.length + a.length < 19000) (ha : Lits ins g a) (hal : a.length ≤ 1000) (hn : 30000 < n) : GX a.length ins g (ref14_all n ins g a) := by
  obtain ⟨R, e, t, x, hR, ht, hr, hx⟩ := iter_ex (F := ref14_all_l1b n a) (len := a.length) (m := n) (d := (1, 0, ins, g, ()))
    (fun j d => ∃ t x, d = (x, (j : Int), ins, g ++ t, ()) ∧ t.length ≤ j ∧ RG ins (g ++ t) ∧ LitG ins (g ++ t) x)
    (fun R => ∃ t x, R = (x, ins, g ++ t, ()) ∧ t.length ≤ a.length ∧ RG ins (g ++ t) ∧ LitG ins (g ++ t) x)
    (fun self j d hj ⟨t, x, hd, ht, hr, hx⟩ => by
      subst hd
      obtain ⟨t1, y1, e1, ht1, hr1, hy1, -⟩ := rand_f (n := n) hr (by simp; omega) hx (ha.at hj).more hn
      unfold ref14_all_l1b
      simp only [cond_dec]
      rw [if_pos (by omega), ask_of (by omega), e1, bindS, succ64 (by omega)]
      exact ⟨_, rfl, t ++ t1, y1, by simp, by simp; omega, by simpa using hr1, by simpa using hy1⟩)
    (fun self d ⟨t, x, hd, ht, hr, hx⟩ => by
      subst hd
      unfold ref14_all_l1b
      simp only [cond_dec]
      rw [if_neg (by omega)]
      exact ⟨_, rfl, t, x, rfl, ht, hr, hx⟩) (by omega) ⟨[], 1, by simp, by simp, by simpa using r, by simpa using one_lit r⟩
  subst hR
  unfold ref14_all
  rw [show ref14_all_l1 n a (1, 0, ins, g, ()) = _ from e, bindS]
  exact ⟨t, x, rfl, ht, hr, hx⟩
theorem rless_f (r : RG ins g) (hg : g.length + 6 * a.length < 19000) (ha : Lits ins g a) (hb : Lits ins g b) (hab : b.length = a.length) (hal : a.length ≤ 1000) (hc : LitG ins g c) (hn : 30000 < n) : GX (6 * a.length) ins g (ref14_less n ins g a b c) := by
  obtain ⟨R, e, t, x, hR, ht, hr, hx⟩ := iter_ex (F := ref14_less_l1b n a b) (len := a.length) (m := n) (d := (c, 0, ins, g, ()))
    (fun j d => ∃ t x, d = (x, (j : Int), ins, g ++ t, ()) ∧ t.length ≤ 6 * j ∧ RG ins (g ++ t) ∧ LitG ins (g ++ t) x)
    (fun R => ∃ t x, R = (x, ins, g ++ t, ()) ∧ t.length ≤ 6 * a.length ∧ RG ins (g ++ t) ∧ LitG ins (g ++ t) x)
    (fun self j d hj ⟨t, x, hd, ht, hr, hx⟩ => by
      subst hd
      have la := (ha.at hj).more (t := t)
      have lb := (hb.at (j := j) (by omega)).more (t := t)
      obtain ⟨t1, y1, e1, ht1, hr1, hy1, -⟩ := rxor_f (n := n) hr (by simp; omega) la lb hn
      obtain ⟨t2, y2, e2, ht2, hr2, hy2, -⟩ := rmux_f (n := n) hr1 (by simp; omega) hy1 lb.more hx.more hn
      unfold ref14_less_l1b
      simp only [cond_dec]
      rw [if_pos (by omega), ask_of (by omega), ask_of (by omega), e1, bindS]
      simp only
      rw [ask_of (by omega), e2, bindS, succ64 (by omega)]
      exact ⟨_, rfl, t ++ t1 ++ t2, y2, by simp, by simp; omega, by simpa using hr2, by simpa using hy2⟩)
    (fun self d ⟨t, x, hd, ht, hr, hx⟩ => by
      subst hd
      unfold ref14_less_l1b
      simp only [cond_dec]
      rw [if_neg (by omega)]
      exact ⟨_, rfl, t, x, rfl, ht, hr, hx⟩) (by omega) ⟨[], c, by simp, by simp, by simpa using r, by simpa using hc⟩
  subst hR
  unfold ref14_less
  rw [show ref14_less_l1 n a b (c, 0, ins, g, ()) = _ from e, bindS]
  exact ⟨t, x, rfl, ht, hr, hx⟩
theorem rrow_f {j : Nat} {acc : List Int} (r : RG ins g) (hg : g.length + a.length < 19000) (ha : Lits ins g a) (hb : Lits ins g b) (hal : a.length ≤ 1000) (hj : j < b.length) (hn : 30000 < n) : ∃ t L, ref14_times_l2 n ((j : Int), ins, g, acc, ()) a b (0, ins, g, [], ()) = some (ins, g ++ t, L, ()) ∧ t.length ≤ a.length ∧ RG ins (g ++ t) ∧ L.length = a.length ∧ Lits ins (g ++ t) L := by
  obtain ⟨R, e, t, L, hR, ht, hr, hL, hLs⟩ := iter_ex (F := ref14_times_l2b n ((j : Int), ins, g, acc, ()) a b) (len := a.length) (m := n) (d := (0, ins, g, [], ()))
    (fun k d => ∃ t L, d = ((k : Int), ins, g ++ t, L, ()) ∧ t.length ≤ k ∧ RG ins (g ++ t) ∧ L.length = k ∧ Lits ins (g ++ t) L)
    (fun R => ∃ t L, R = (ins, g ++ t, L, ()) ∧ t.length ≤ a.length ∧ RG ins (g ++ t) ∧ L.length = a.length ∧ Lits ins (g ++ t) L)
    (fun self k d hk ⟨t, L, hd, ht, hr, hL, hLs⟩ => by
      subst hd
      have one : ∃ t' x, ref14_times_j1 n ((j : Int), ins, g, acc, ()) ((k : Int), ins, g ++ t, L, ()) a b = some (x, ins, g ++ t ++ t', ()) ∧ t'.length ≤ 1 ∧ RG ins (g ++ t ++ t') ∧ LitG ins (g ++ t ++ t') x := by
        unfold ref14_times_j1
        simp only [cond_dec]
        by_cases c : j ≤ k
        · obtain ⟨m, rfl⟩ : ∃ m, k = j + m := ⟨k - j, by omega⟩
          have ew : IntKind.wrap .i64 (((j + m : Nat) : Int) - (j : Int)) = (m : Int) := by rw [w64 (by omega) (by omega)]; omega
          obtain ⟨t', x, e, h1, h2, h3, -⟩ := rand_f (n := n) hr (by simp; omega) (ha.at (j := m) (by omega)).more (hb.at hj).more hn
          rw [if_pos (by omega), ew, ask_of (by omega), ask_of (by omega), e, bindS]
          exact ⟨t', x, rfl, by omega, h2, h3⟩
        · rw [if_neg (by omega)]
          exact ⟨[], 0, by simp, by simp, by simpa using hr, by simpa using zero_lit hr⟩
      obtain ⟨t', x, e, h1, h2, h3⟩ := one
      unfold ref14_times_l2b
      simp only [cond_dec]
      rw [if_pos (by omega), e, bindS, ask_of (by simp; omega), succ64 (by omega)]
      exact ⟨_, rfl, t ++ t', L ++ [x], by simp, by simp; omega, by simpa using h2, by simp [hL], by simpa using (Lits.more hLs).snoc h3⟩)
    (fun self d ⟨t, L, hd, ht, hr, hL, hLs⟩ => by
      subst hd
      unfold ref14_times_l2b
      simp only [cond_dec]
      rw [if_neg (by omega)]
      exact ⟨_, rfl, t, L, rfl, ht, hr, hL, hLs⟩) (by omega) ⟨[], [], by simp, by simp, by simpa using r, rfl, fun x hx => by simp at hx⟩
  subst hR
  exact ⟨t, L, e, ht, hr, hL, hLs⟩
theorem rtimes_f (r : RG ins g) (hg : g.length + 10 * a.length * b.length < 19000) (ha : Lits ins g a) (hb : Lits ins g b) (hal : a.length ≤ 16) (hbl : b.length ≤ 16) (hn : 30000 < n) : GL (10 * a.length * b.length) a.length ins g (ref14_times n ins g a b) := by
  obtain ⟨R, e, t, L, hR, ht, hr, hL, hLs⟩ := iter_ex (F := ref14_times_l3b n a b) (len := b.length) (m := n) (d := (0, ins, g, List.replicate a.length (0 : Int), ()))
    (fun j d => ∃ t L, d = ((j : Int), ins, g ++ t, L, ()) ∧ t.length ≤ 10 * a.length * j ∧ RG ins (g ++ t) ∧ L.length = a.length ∧ Lits ins (g ++ t) L)
    (fun R => ∃ t L, R = (ins, g ++ t, L, ()) ∧ t.length ≤ 10 * a.length * b.length ∧ RG ins (g ++ t) ∧ L.length = a.length ∧ Lits ins (g ++ t) L)
    (fun self j d hj ⟨t, L, hd, ht, hr, hL, hLs⟩ => by
      subst hd
      have hm : 10 * a.length * (j + 1) = 10 * a.length * j + 10 * a.length := Nat.mul_succ _ _
      have hm2 : 10 * a.length * (j + 1) ≤ 10 * a.length * b.length := Nat.mul_le_mul_left _ hj
      obtain ⟨t1, L1, e1, ht1, hr1, hL1, hLs1⟩ := rrow_f (n := n) (j := j) (acc := L) hr (by simp; omega) (Lits.more ha) (Lits.more hb) (by omega) hj hn
      obtain ⟨t2, L2, e2, ht2, hr2, hL2, hLs2⟩ := rsum_o (n := n) (a := L) (b := L1) (c := 0) hr1 (by simp; omega) (Lits.more hLs) hLs1 (by omega) (by omega) (zero_lit hr1) hn
      unfold ref14_times_l3b
      simp only [cond_dec]
      rw [if_pos (by omega), e1, bindS]
      simp only
      rw [e2, bindS]
      simp only
      rw [ask_of (by simp; omega), succ64 (by omega), List.nil_append]
      exact ⟨_, rfl, t ++ t1 ++ t2, L2, by simp, by simp; omega, by simpa using hr2, by omega, by simpa using hLs2⟩)
    (fun self d ⟨t, L, hd, ht, hr, hL, hLs⟩ => by
      subst hd
      unfold ref14_times_l3b
      simp only [cond_dec]
      rw [if_neg (by omega)]
      exact ⟨_, rfl, t, L, rfl, ht, hr, hL, hLs⟩) (by omega) ⟨[], List.replicate a.length 0, by simp, by simp, by simpa using r, by simp, by simpa using rep_lits r a.length⟩
  subst hR
  unfold ref14_times
  rw [ask_of (by omega), Int.toNat_natCast, show ref14_times_l3 n a b (0, ins, g, List.replicate a.length 0, ()) = _ from e, bindS]
  exact ⟨t, L, rfl, ht, hr, hL, hLs⟩
theorem rchoose_f {A : List Int} (r : RG ins g) (hg : g.length + 3 * a.length < 19000) (hA : Lits ins g A) (h1 : A.length = 1) (ha : Lits ins g a) (hb : Lits ins g b) (hab : b.length = a.length) (hal : a.length ≤ 1000) (hn : 30000 < n) : GL (3 * a.length) a.length ins g (ref14_Do_l1 n A a b (0, ins, g, [], ())) := by
  obtain ⟨R, e, t, L, hR, ht, hr, hL, hLs⟩ := iter_ex (F := ref14_Do_l1b n A a b) (len := a.length) (m := n) (d := (0, ins, g, [], ()))
    (fun j d => ∃ t L, d = ((j : Int), ins, g ++ t, L, ()) ∧ t.length ≤ 3 * j ∧ RG ins (g ++ t) ∧ L.length = j ∧ Lits ins (g ++ t) L)
    (fun R => ∃ t L, R = (ins, g ++ t, L, ()) ∧ t.length ≤ 3 * a.length ∧ RG ins (g ++ t) ∧ L.length = a.length ∧ Lits ins (g ++ t) L)
    (fun self j d hj ⟨t, L, hd, ht, hr, hL, hLs⟩ => by
      subst hd
      have l0 : LitG ins g (Ki_at A 0) := hA.at (j := 0) (by omega)
      obtain ⟨t', x, e, q1, q2, q3, -⟩ := rmux_f (n := n) hr (by simp; omega) l0.more (ha.at hj).more (hb.at (j := j) (by omega)).more hn
      unfold ref14_Do_l1b
      simp only [cond_dec]
      rw [if_pos (by omega), ask_of (by omega), ask_of (by omega), ask_of (by omega), e, bindS, ask_of (by simp; omega), succ64 (by omega)]
      exact ⟨_, rfl, t ++ t', L ++ [x], by simp, by simp; omega, by simpa using q2, by simp [hL], by simpa using (Lits.more hLs).snoc q3⟩)
    (fun self d ⟨t, L, hd, ht, hr, hL, hLs⟩ => by
      subst hd
      unfold ref14_Do_l1b
      simp only [cond_dec]
      rw [if_neg (by omega)]
      exact ⟨_, rfl, t, L, rfl, ht, hr, hL, hLs⟩) (by omega) ⟨[], [], by simp, by simp, by simpa using r, rfl, fun x hx => by simp at hx⟩
  subst hR
  exact ⟨t, L, e, ht, hr, hL, hLs⟩
theorem one_l {t : List Kii} {x : Int} (h : LitG ins t x) : Lits ins t [x] := fun y hy => by rw [List.mem_singleton.1 hy]; exact h
theorem turned_l {l : List Int} (r : RG ins g) (h : Lits ins g l) : Lits ins g (l.map turn) := turn_lits r h
/-- What it makes of each op. -/
theorem RDo_all {op w u lo : Int} {p q s : Int} {A B C : List Int} {wa wb wc W K : Nat} (r : RG ins g) (hg : g.length ≤ 12000) (h : NodeOK op w u lo wa wb wc W K) (hA : 0 < wa → Lits ins g A ∧ A.length = wa) (hB : 0 < wb → Lits ins g B ∧ B.length = wb) (hC : 0 < wc → Lits ins g C ∧ C.length = wc) (hn : 30000 < n) : GL K W ins g (ref14_Do n ins g op w p q s u lo A B C) := by
  cases h with
  | lit k N h1 h2 h3 =>
    have hp : 2 ^ W ≤ 65536 := pow16 h2
    obtain ⟨l, e, hl, hls⟩ := rlit_f (n := n) (u := (N : Int)) (w := W) r (by omega) (by omega) (by omega) hn
    unfold ref14_Do
    simp only [cond_dec, ↓reduceIte]
    rw [e, bindS]
    exact ⟨[], l, by simp, by simp, by simpa using r, hl, by simpa using hls⟩
  | inv k h1 h2 =>
    obtain ⟨iA, hl⟩ := hA (by omega)
    unfold ref14_Do
    simp only [cond_dec, Int.reduceEq, ↓reduceIte]
    rw [rturned_f r iA (by omega) hn, bindS]
    exact ⟨[], A.map turn, by simp, by simp, by simpa using r, by simpa using hl, by simpa using turn_lits r iA⟩
  | red op k h0 h1 h2 =>
    obtain ⟨iA, hl⟩ := hA (by omega)
    subst hl
    have hAll : ∀ a : List Int, Lits ins g a → a.length = A.length → GX A.length ins g (ref14_all n ins g a) := fun a ha hal => by
      have := rall_f (n := n) (a := a) r (by omega) ha (by omega) hn
      rwa [hal] at this
    rcases h0 with rfl | rfl
    · obtain ⟨t, x, e, ht, hr, hx⟩ := hAll (A.map turn) (turn_lits r iA) (by simp)
      obtain ⟨e3, t3⟩ := turn_lit hr hx
      unfold ref14_Do ref14_asked
      simp only [cond_dec, Int.reduceEq, ↓reduceIte, decide_false, bindS, cond_false]
      rw [rturned_f r iA (by omega) hn, bindS]
      simp only
      rw [e, bindS]
      simp only [e3, bindS]
      exact ⟨t, [turn x], rfl, by omega, hr, rfl, one_l t3⟩
    · obtain ⟨t, x, e, ht, hr, hx⟩ := hAll A iA rfl
      unfold ref14_Do ref14_asked
      simp only [cond_dec, Int.reduceEq, ↓reduceIte, decide_false, bindS, cond_false]
      rw [e, bindS]
      simp only [bindS]
      exact ⟨t, [x], rfl, by omega, hr, rfl, one_l hx⟩
  | two op k h0 h1 h2 =>
    obtain ⟨iA, hl⟩ := hA (by omega)
    subst hl
    obtain ⟨iB, hl2⟩ := hB (by omega)
    have hEach : ∀ o, GL (20 * A.length) A.length ins g (ref14_each n ins g o A B) := fun o => by
      have := reach_f (n := n) (op := o) r (by omega) iA iB (by omega) (by omega) hn
      exact this.le (by omega)
    have hSum : ∀ (b : List Int) (c : Int), Lits ins g b → b.length = A.length → LitG ins g c → GL (20 * A.length) A.length ins g (ref14_sum n ins g A b c) := fun b c hb hbl hc => by
      have := rsum_f (n := n) r (by omega) iA hb (by omega) (by omega) hc hn
      exact this.le (by omega)
    rcases h0 with rfl | rfl | rfl | rfl | rfl
    · obtain ⟨t, L, e, rest⟩ := hEach 6
      unfold ref14_Do
      simp only [cond_dec, Int.reduceEq, ↓reduceIte, decide_true, bindS, cond_true]
      rw [e, bindS]
      exact ⟨t, L, rfl, rest⟩
    · obtain ⟨t, L, e, rest⟩ := hEach 7
      unfold ref14_Do
      simp only [cond_dec, Int.reduceEq, ↓reduceIte, decide_true, decide_false, bindS, cond_true]
      rw [e, bindS]
      exact ⟨t, L, rfl, rest⟩
    · obtain ⟨t, L, e, rest⟩ := hEach 8
      unfold ref14_Do
      simp only [cond_dec, Int.reduceEq, ↓reduceIte, decide_true, decide_false, bindS, cond_true]
      rw [e, bindS]
      exact ⟨t, L, rfl, rest⟩
    · obtain ⟨t, L, e, rest⟩ := hSum B 0 iB hl2 (zero_lit r)
      unfold ref14_Do
      simp only [cond_dec, Int.reduceEq, ↓reduceIte, decide_true, decide_false, bindS, cond_false]
      rw [e, bindS]
      exact ⟨t, L, rfl, rest⟩
    · obtain ⟨t, L, e, rest⟩ := hSum (B.map turn) 1 (turn_lits r iB) (by simpa using hl2) (one_lit r)
      unfold ref14_Do
      simp only [cond_dec, Int.reduceEq, ↓reduceIte, decide_true, decide_false, bindS, cond_false]
      rw [rturned_f r iB (by omega) hn, bindS]
      simp only
      rw [e, bindS]
      exact ⟨t, L, rfl, rest⟩
  | mul k h1 h2 =>
    obtain ⟨iA, hl⟩ := hA (by omega)
    subst hl
    obtain ⟨iB, hl2⟩ := hB (by omega)
    have hk : 10 * A.length * A.length ≤ 10 * 16 * 16 := Nat.mul_le_mul (by omega) h2
    have hk2 : 10 * A.length * A.length ≤ 20 * A.length * A.length := Nat.mul_le_mul_right _ (by omega)
    have := rtimes_f (n := n) r (by rw [hl2]; omega) iA iB (by omega) (by omega) hn
    rw [hl2] at this
    obtain ⟨t, L, e, rest⟩ := this.le hk2
    unfold ref14_Do
    simp only [cond_dec, Int.reduceEq, ↓reduceIte, decide_true, decide_false, bindS, cond_false]
    rw [e, bindS]
    exact ⟨t, L, rfl, rest⟩
  | ord op k h0 h1 h2 =>
    obtain ⟨iA, hl⟩ := hA (by omega)
    subst hl
    obtain ⟨iB, hl2⟩ := hB (by omega)
    have hLess : ∀ c : Int, LitG ins g c → GX (20 * A.length) ins g (ref14_less n ins g A B c) := fun c hc => by
      obtain ⟨t, x, e, ht, rest⟩ := rless_f (n := n) r (by omega) iA iB (by omega) (by omega) hc hn
      exact ⟨t, x, e, by omega, rest⟩
    have hSame : ∃ t x, (ref14_each n ins g 8 A B).bind (fun r17 => (ref14_turned n r17.2.2.1).bind (fun r18 => ref14_all n r17.1 r17.2.1 r18.1)) = some (ins, g ++ t, x, ()) ∧ t.length ≤ 20 * A.length ∧ RG ins (g ++ t) ∧ LitG ins (g ++ t) x := by
      obtain ⟨t1, L1, e1, ht1, hr1, hL1, hLs1⟩ := reach_f (n := n) (op := 8) r (by omega) iA iB (by omega) (by omega) hn
      obtain ⟨t2, x, e2, ht2, hr2, hx⟩ := rall_f (n := n) (a := L1.map turn) hr1 (by simp; omega) (turn_lits hr1 hLs1) (by simp; omega) hn
      rw [e1, bindS]
      simp only
      rw [rturned_f hr1 hLs1 (by omega) hn, bindS]
      simp only
      rw [e2]
      refine ⟨t1 ++ t2, x, by simp, by simp at ht2; simp; omega, by simpa using hr2, by simpa using hx⟩
    have assoc : ∀ (f : Int × List Kii × Int × Unit → Option (Int × List Kii × Int × Unit)), (ref14_each n ins g 8 A B).bind (fun r17 => (ref14_turned n r17.2.2.1).bind (fun r18 => (ref14_all n r17.1 r17.2.1 r18.1).bind f)) = ((ref14_each n ins g 8 A B).bind (fun r17 => (ref14_turned n r17.2.2.1).bind (fun r18 => ref14_all n r17.1 r17.2.1 r18.1))).bind f := fun f => by
      rw [Option.bind_assoc]
      congr 1
      funext r17
      rw [Option.bind_assoc]
    rcases h0 with rfl | rfl | rfl | rfl
    · obtain ⟨t, x, e, ht, hr, hx⟩ := hSame
      unfold ref14_Do ref14_asked
      simp only [cond_dec, Int.reduceEq, ↓reduceIte, decide_false, bindS, cond_false, assoc]
      rw [e, bindS, bindS]
      exact ⟨t, [x], rfl, ht, hr, rfl, one_l hx⟩
    · obtain ⟨t, x, e, ht, hr, hx⟩ := hSame
      obtain ⟨e3, t3⟩ := turn_lit hr hx
      unfold ref14_Do ref14_asked
      simp only [cond_dec, Int.reduceEq, ↓reduceIte, decide_false, bindS, cond_false, assoc]
      rw [e, bindS, bindS]
      simp only [e3]
      exact ⟨t, [turn x], rfl, ht, hr, rfl, one_l t3⟩
    · obtain ⟨t, x, e, ht, hr, hx⟩ := hLess 0 (zero_lit r)
      unfold ref14_Do ref14_asked
      simp only [cond_dec, Int.reduceEq, ↓reduceIte, decide_false, bindS, cond_false]
      rw [e, bindS, bindS]
      exact ⟨t, [x], rfl, ht, hr, rfl, one_l hx⟩
    · obtain ⟨t, x, e, ht, hr, hx⟩ := hLess 1 (one_lit r)
      unfold ref14_Do ref14_asked
      simp only [cond_dec, Int.reduceEq, ↓reduceIte, decide_false, bindS, cond_false]
      rw [e, bindS, bindS]
      exact ⟨t, [x], rfl, ht, hr, rfl, one_l hx⟩
  | mux k h1 h2 =>
    obtain ⟨iA, hl⟩ := hA (by omega)
    obtain ⟨iB, hl2⟩ := hB (by omega)
    obtain ⟨iC, hl3⟩ := hC (by omega)
    subst hl2
    have := rchoose_f (n := n) r (by omega) iA hl iB iC (by omega) (by omega) hn
    obtain ⟨t, L, e, rest⟩ := this.le (k' := 20 * B.length) (by omega)
    unfold ref14_Do
    simp only [cond_dec, Int.reduceEq, ↓reduceIte, decide_true, decide_false, bindS, cond_false]
    rw [e, bindS]
    exact ⟨t, L, rfl, rest⟩
  | cat a b h1 h2 h3 =>
    obtain ⟨iA, hl⟩ := hA (by omega)
    obtain ⟨iB, hl2⟩ := hB (by omega)
    unfold ref14_Do
    simp only [cond_dec, Int.reduceEq, ↓reduceIte, decide_true, decide_false, bindS, cond_false, List.nil_append]
    rw [ask_of (by simp; omega), ask_of (by simp; omega)]
    exact ⟨[], B ++ A, by simp, by simp, by simpa using r, by simp; omega, by simpa using lits_app iB iA⟩
  | slice k N L h1 h2 h3 =>
    obtain ⟨iA, hl⟩ := hA (by omega)
    unfold ref14_Do
    simp only [cond_dec, Int.reduceEq, ↓reduceIte, decide_true, decide_false, bindS, cond_false, List.nil_append]
    rw [succ64 (by omega), ask_of (by omega), ask_of (by simp; omega)]
    refine ⟨[], (A.take (N + 1)).drop L, by simp, by simp, by simpa using r, by simp; omega, ?_⟩
    rw [List.append_nil]
    exact fun x hx => iA x (List.mem_of_mem_take (List.mem_of_mem_drop hx))
end
end Go.Proofs.Ytfjdhdmbbfeigaa.Am
