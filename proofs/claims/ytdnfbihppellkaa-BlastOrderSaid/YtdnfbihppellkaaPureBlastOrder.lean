/- BlastOrder, in plain Lean. -/
import Derived.Test.YtdnfbihppellkaaPlBl9
namespace Go.Proofs.Ytdnfbihppellkaa.Am
set_option linter.unusedVariables false
set_option linter.unusedSimpArgs false
theorem order14 {x1 x5 : Int} {x2 : List Kcwww} {x3 x4 : List Int} {x6 : List Bool} (h1 : (Lit.int .u8 x1).wf = true) (ho : OpsOk x2) (h3 : ∀ x ∈ x3, (Lit.int .u16 x).wf = true) (h4 : ∀ x ∈ x4, (Lit.int .u16 x).wf = true) (h5 : (Lit.int .u8 x5).wf = true) : law14_BlastOrder big x1 x2 x3 x4 x5 x6 = some (true, ()) := by
  have hn : 30000 < big := by decide
  have g5 := lit_u8 h5
  unfold law14_BlastOrder law13_Great
  rw [head14, bindS, bindS]
  by_cases hl : (120 : Int) < (x2.length : Int)
  · rw [decide_eq_true hl]; rfl
  rw [decide_eq_false hl]
  simp only [cond_false]
  obtain ⟨ins, g, lits, e, r, hg⟩ := made_f (n := big) h1 (by omega) ho hn
  obtain ⟨k, hk, k1, k2⟩ : ∃ k : Nat, IntKind.wrap .i64 (Int.tmod (IntKind.wrap .i64 x5) 16 + 1) = (k : Int) ∧ 1 ≤ k ∧ k ≤ 16 := by
    refine ⟨(x5 % 16 + 1).toNat, ?_, by omega, by omega⟩
    rw [w64 (n := x5) (by omega) (by omega), tmodn (by omega), w64 (by omega) (by omega)]
    omega
  simp only [hk]
  rw [e, bindS, ask_of (by omega)]
  obtain ⟨A, eA, lA, iA⟩ := bits14_f (n := big) (w := k) r h3 (by omega) hn
  obtain ⟨B, eB, lB, iB⟩ := bits14_f (n := big) (w := k) r h4 (by omega) hn
  rw [eA, bindS, eB, bindS]
  simp only
  have i0 := r.i0
  have i1 := r.i1
  -- a round
  have round : ∀ (self : Int × Int × List Kii × List Int × Unit → Option ((Bool × Unit) ⊕ (Int × List Kii × List Int × Unit))) (j : Nat) (op : Int) (X Y : List Int) (t : List Kii) (L : List Int), j < 5 → Ki_at [14, 12, 15, 13, 14] (j : Int) = op → (cond (decide ((j : Int) = 4)) (some (B, A, ())) (some (A, B, ())) : Option (List Int × List Int × Unit)) = some (X, Y, ()) → (op = 12 ∨ op = 13 ∨ op = 14 ∨ op = 15) → Lits ins g X → Lits ins g Y → X.length = k → Y.length = k → RG ins (g ++ t) → t.length ≤ 320 * j → L.length = j → Lits ins (g ++ t) L →
      ∃ t' x, law14_BlastOrder_l1b big (A, ()) (B, ()) x5 self ((j : Int), ins, g ++ t, L, ()) = self (((j + 1 : Nat) : Int), ins, g ++ t ++ t', L ++ [x], ()) ∧ t'.length ≤ 320 ∧ RG ins (g ++ t ++ t') ∧ LitG ins (g ++ t ++ t') x ∧ ∀ V, Mod ins (g ++ t ++ t') V → vec_Do 1 op 1 0 0 0 0 (k : Int) (nb (bv V X) : Int) (nb (bv V Y) : Int) 0 (k : Int) = some (((lv V x).toNat : Int), ()) := by
    intro self j op X Y t L hj hop hXY hops hX hY lX lY hr ht hL hLs
    obtain ⟨t', l, e1, ht', hr', hl', hls, hv⟩ := Do_all (n := big) (p := 0) (q := 0) (s := 0) (C := []) hr (by simp; omega) (.ord op k hops k1 k2) (Lits.more hX) (Lits.more hY) (fun x hx => by simp at hx) lX lY rfl hn
    match l, hl' with
    | [x], _ =>
      have hx : LitG ins (g ++ t ++ t') x := hls x (by simp)
      have hg2 := hr'.len
      refine ⟨t', x, ?_, by omega, hr', hx, fun V hV => by have := hv V hV 1; rwa [show (nb (bv V ([] : List Int)) : Int) = 0 from rfl, show bv V [x] = [lv V x] from rfl, nb_one] at this⟩
      unfold law14_BlastOrder_l1b
      simp only [cond_dec] at hXY ⊢
      rw [if_pos (by simp; omega), hXY, bindS, ask_of (by simp; omega), hop, hk]
      simp only
      rw [e1, bindS]
      simp only
      rw [aigRight_f hr' hn, bindS]
      simp only [Bool.not_true, cond_false]
      rw [if_neg (by simp), if_neg (by simp; omega), if_neg (by simp), right14_f hr' hls (by simp) hn, bindS]
      simp only [Bool.not_true, cond_false]
      rw [ask_of (by simp), ask_of (by simp; omega), succ64 (by omega)]
      rfl
  obtain ⟨R, e1, t, a0, a1, a2, a3, a4, hR, ht, hr, hLs, hv⟩ := iter_ex (F := law14_BlastOrder_l1b big (A, ()) (B, ()) x5) (len := 5) (m := big) (d := (0, ins, g, [], ()))
    (fun j d => ∃ t L, d = ((j : Int), ins, g ++ t, L, ()) ∧ t.length ≤ 320 * j ∧ RG ins (g ++ t) ∧ L.length = j ∧ Lits ins (g ++ t) L ∧ ∀ V, Mod ins (g ++ t) V → bv V L = [decide (nb (bv V A) < nb (bv V B)), decide (nb (bv V A) = nb (bv V B)), decide (nb (bv V A) ≤ nb (bv V B)), decide (nb (bv V A) ≠ nb (bv V B)), decide (nb (bv V B) < nb (bv V A))].take j)
    (fun R => ∃ t a0 a1 a2 a3 a4, R = .inr (ins, g ++ t, [a0, a1, a2, a3, a4], ()) ∧ t.length ≤ 1600 ∧ RG ins (g ++ t) ∧ Lits ins (g ++ t) [a0, a1, a2, a3, a4] ∧ ∀ V, Mod ins (g ++ t) V → bv V [a0, a1, a2, a3, a4] = [decide (nb (bv V A) < nb (bv V B)), decide (nb (bv V A) = nb (bv V B)), decide (nb (bv V A) ≤ nb (bv V B)), decide (nb (bv V A) ≠ nb (bv V B)), decide (nb (bv V B) < nb (bv V A))])
    (fun self j d hj ⟨t, L, hd, ht, hr, hL, hLs, hv⟩ => by
      subst hd
      have nxt : ∀ (t' : List Kii) (x : Int) (b : Bool), t'.length ≤ 320 → RG ins (g ++ t ++ t') → LitG ins (g ++ t ++ t') x → (∀ V, Mod ins (g ++ t ++ t') V → lv V x = [decide (nb (bv V A) < nb (bv V B)), decide (nb (bv V A) = nb (bv V B)), decide (nb (bv V A) ≤ nb (bv V B)), decide (nb (bv V A) ≠ nb (bv V B)), decide (nb (bv V B) < nb (bv V A))].getD j false) → ∃ t2 L2, ((((j + 1 : Nat) : Int), ins, g ++ t ++ t', L ++ [x], ()) : Int × Int × List Kii × List Int × Unit) = (((j + 1 : Nat) : Int), ins, g ++ t2, L2, ()) ∧ t2.length ≤ 320 * (j + 1) ∧ RG ins (g ++ t2) ∧ L2.length = j + 1 ∧ Lits ins (g ++ t2) L2 ∧ ∀ V, Mod ins (g ++ t2) V → bv V L2 = [decide (nb (bv V A) < nb (bv V B)), decide (nb (bv V A) = nb (bv V B)), decide (nb (bv V A) ≤ nb (bv V B)), decide (nb (bv V A) ≠ nb (bv V B)), decide (nb (bv V B) < nb (bv V A))].take (j + 1) := by
        intro t' x b ht' hr' hx hval
        refine ⟨t ++ t', L ++ [x], by simp, by simp; omega, by simpa using hr', by simp [hL], by simpa using (Lits.more hLs).snoc hx, fun V hV => ?_⟩
        have hV : Mod ins (g ++ t ++ t') V := by simpa using hV
        rw [bv_snoc, hv V hV.pre, hval V hV, List.take_add_one, List.getD_eq_getElem?_getD]
        congr 1
        have : j = 0 ∨ j = 1 ∨ j = 2 ∨ j = 3 ∨ j = 4 := by omega
        rcases this with rfl | rfl | rfl | rfl | rfl <;> rfl
      have vb : ∀ {p : Prop} [Decidable p] {x : Bool}, (some ((if p then 1 else 0 : Int), ()) : Option (Int × Unit)) = some ((x.toNat : Int), ()) → x = decide p := by
        intro p _ x h
        have h := congrArg Prod.fst (Option.some.inj h)
        simp only at h
        by_cases c : p
        · rw [if_pos c] at h; rw [decide_eq_true c]; cases x <;> simp at h ⊢
        · rw [if_neg c] at h; rw [decide_eq_false c]; cases x <;> simp at h ⊢
      have cs : j = 0 ∨ j = 1 ∨ j = 2 ∨ j = 3 ∨ j = 4 := by omega
      rcases cs with rfl | rfl | rfl | rfl | rfl
      · obtain ⟨t', x, e2, ht', hr', hx, hvx⟩ := round self 0 14 A B t L hj rfl rfl (by omega) iA iB lA lB hr ht hL hLs
        rw [e2]
        refine ⟨_, rfl, nxt t' x true ht' hr' hx fun V hV => ?_⟩
        have := hvx V hV
        rw [do_lt] at this
        rw [vb this]
        exact decide_eq_decide.2 (by omega)
      · obtain ⟨t', x, e2, ht', hr', hx, hvx⟩ := round self 1 12 A B t L hj rfl rfl (by omega) iA iB lA lB hr ht hL hLs
        rw [e2]
        refine ⟨_, rfl, nxt t' x true ht' hr' hx fun V hV => ?_⟩
        have := hvx V hV
        rw [do_eq] at this
        rw [vb this]
        exact decide_eq_decide.2 (by omega)
      · obtain ⟨t', x, e2, ht', hr', hx, hvx⟩ := round self 2 15 A B t L hj rfl rfl (by omega) iA iB lA lB hr ht hL hLs
        rw [e2]
        refine ⟨_, rfl, nxt t' x true ht' hr' hx fun V hV => ?_⟩
        have := hvx V hV
        rw [do_le] at this
        rw [vb this]
        exact decide_eq_decide.2 (by omega)
      · obtain ⟨t', x, e2, ht', hr', hx, hvx⟩ := round self 3 13 A B t L hj rfl rfl (by omega) iA iB lA lB hr ht hL hLs
        rw [e2]
        refine ⟨_, rfl, nxt t' x true ht' hr' hx fun V hV => ?_⟩
        have := hvx V hV
        rw [do_ne, show (if (nb (bv V A) : Int) = (nb (bv V B) : Int) then (0 : Int) else 1) = if ¬ (nb (bv V A) : Int) = (nb (bv V B) : Int) then 1 else 0 by split <;> simp_all] at this
        rw [vb this]
        exact decide_eq_decide.2 (by omega)
      · obtain ⟨t', x, e2, ht', hr', hx, hvx⟩ := round self 4 14 B A t L hj rfl rfl (by omega) iB iA lB lA hr ht hL hLs
        rw [e2]
        refine ⟨_, rfl, nxt t' x true ht' hr' hx fun V hV => ?_⟩
        have := hvx V hV
        rw [do_lt] at this
        rw [vb this]
        exact decide_eq_decide.2 (by omega))
    (fun self d ⟨t, L, hd, ht, hr, hL, hLs, hv⟩ => by
      subst hd
      unfold law14_BlastOrder_l1b
      simp only [cond_dec]
      rw [if_neg (by simp)]
      match L, hL with
      | [a0, a1, a2, a3, a4], _ => exact ⟨_, rfl, t, a0, a1, a2, a3, a4, rfl, by omega, hr, hLs, fun V hV => hv V hV⟩) (by decide)
    ⟨[], [], by simp, by simp, by simpa using r, rfl, fun x hx => by simp at hx, fun V hV => rfl⟩
  subst hR
  have hgt := hr.len
  rw [show law14_BlastOrder_l1 big (A, ()) (B, ()) x5 (0, ins, g, [], ()) = _ from e1, bindS, Sum.elim_inr]
  simp only
  obtain ⟨inp, e5, hinp⟩ := bits13_f (n := big) (l := x6) hr hn
  rw [e5, bindS]
  simp only
  obtain ⟨Y, e6, hY, hM⟩ := eval_f (n := big) hr hinp hn
  have hlen : ((false :: inp) ++ Y).length = inp.length + 1 + (g ++ t).length := by rw [List.length_append, hY, List.length_cons]
  generalize (false :: inp) ++ Y = V at e6 hM hlen
  have one : ∀ a, a ∈ [a0, a1, a2, a3, a4] → law14_num big V [a] = some (((lv V a).toNat : Int), ()) := fun a ha => by
    obtain ⟨q1, q2⟩ := hLs a ha
    rw [num_f (by simp) (fun x hx => by rw [List.mem_singleton.1 hx, hlen]; exact ⟨q1, by omega, by omega⟩) hn, show bv V [a] = [lv V a] from rfl, nb_one]
  have hb := hv V hM
  simp only [bv, List.map_cons, List.map_nil, List.cons.injEq, and_true] at hb
  obtain ⟨b0, b1, b2, b3, b4⟩ := hb
  rw [e6, bindS]
  simp only [cond_dec]
  rw [hlen, wrap_small (x := 1 + ins) (by omega) (by omega), wrap_small (by omega) (by omega), if_neg (by omega), ask_of (by simp)]
  rw [show (([a0, a1, a2, a3, a4] : List Int).drop 0).take (1 : Int).toNat = [a0] from rfl, one a0 (by simp), bindS, ask_of (by simp)]
  rw [show (([a0, a1, a2, a3, a4] : List Int).drop (1 : Int).toNat).take ((2 : Int).toNat - (1 : Int).toNat) = [a1] from rfl, one a1 (by simp), bindS]
  simp only [cond_true]
  rw [ask_of (by simp), show (([a0, a1, a2, a3, a4] : List Int).drop (4 : Int).toNat).take ((5 : Int).toNat - (4 : Int).toNat) = [a4] from rfl, one a4 (by simp), bindS]
  simp only
  have t1 : ∀ b : Bool, b.toNat ≤ 1 := fun b => by cases b <;> simp
  have q0 := t1 (lv V a0)
  have q1 := t1 (lv V a1)
  have q4 := t1 (lv V a4)
  rw [w64 (n := ((lv V a0).toNat : Int) + ((lv V a1).toNat : Int)) (by omega) (by omega), w64 (n := ((lv V a0).toNat : Int) + ((lv V a1).toNat : Int) + ((lv V a4).toNat : Int)) (by omega) (by omega)]
  have s1 : (lv V a0).toNat + (lv V a1).toNat + (lv V a4).toNat = 1 := by
    rw [b0, b1, b4]
    rcases Nat.lt_trichotomy (nb (bv V A)) (nb (bv V B)) with c | c | c
    · have n1 : ¬ nb (bv V A) = nb (bv V B) := by omega
      have n2 : ¬ nb (bv V B) < nb (bv V A) := by omega
      simp only [bv] at c n1 n2
      simp [bv, c, n1, n2]
    · have n1 : ¬ nb (bv V A) < nb (bv V B) := by omega
      have n2 : ¬ nb (bv V B) < nb (bv V A) := by omega
      simp only [bv] at c n1 n2
      simp [bv, c, n1, n2]
    · have n1 : ¬ nb (bv V A) = nb (bv V B) := by omega
      have n2 : ¬ nb (bv V A) < nb (bv V B) := by omega
      simp only [bv] at c n1 n2
      simp [bv, c, n1, n2]
  have s2 : (lv V a2).toNat = (lv V a0).toNat + (lv V a1).toNat := by
    rw [b0, b1, b2]
    rcases Nat.lt_trichotomy (nb (bv V A)) (nb (bv V B)) with c | c | c
    · have n1 : ¬ nb (bv V A) = nb (bv V B) := by omega
      have n2 : nb (bv V A) ≤ nb (bv V B) := by omega
      simp only [bv] at c n1 n2
      simp [bv, c, n1, n2]
    · have n1 : ¬ nb (bv V A) < nb (bv V B) := by omega
      have n2 : nb (bv V A) ≤ nb (bv V B) := by omega
      simp only [bv] at c n1 n2
      simp [bv, c, n1, n2]
    · have n1 : ¬ nb (bv V A) = nb (bv V B) := by omega
      have n2 : ¬ nb (bv V A) < nb (bv V B) := by omega
      have n3 : ¬ nb (bv V A) ≤ nb (bv V B) := by omega
      simp only [bv] at c n1 n2 n3
      simp [bv, c, n1, n2, n3]
  have s3 : (lv V a3).toNat = 1 - (lv V a1).toNat := by
    rw [b1, b3]
    by_cases c : nb (bv V A) = nb (bv V B)
    · simp only [bv] at c
      simp [bv, c]
    · simp only [bv] at c
      simp [bv, c]
  rw [if_pos (by omega), ask_of (by simp), show (([a0, a1, a2, a3, a4] : List Int).drop (2 : Int).toNat).take ((3 : Int).toNat - (2 : Int).toNat) = [a2] from rfl, one a2 (by simp), bindS, if_pos (by simp only; omega), ask_of (by simp), show (([a0, a1, a2, a3, a4] : List Int).drop (3 : Int).toNat).take ((4 : Int).toNat - (3 : Int).toNat) = [a3] from rfl, one a3 (by simp), bindS, w64 (by omega) (by omega), decide_eq_true (by simp only; omega)]
end Go.Proofs.Ytdnfbihppellkaa.Am
namespace Go.Proofs.Ytdnfbihppellkaa.Pure
open Go.Proofs.Ytdnfbihppellkaa.Am
theorem BlastOrder (d : law14_BlastOrder_s.I) (h : BAs law14_BlastOrder_s.ar d fun _ => True) : ∃ n, law14_BlastOrder n d.1 d.2.1 d.2.2.1 d.2.2.2.1 d.2.2.2.2.1 d.2.2.2.2.2.1 = some (true, ()) := by
  obtain ⟨h1, h2, h3, h4, h5, -⟩ := h
  exact ⟨big, order14 h1 (fun x hx => h2.2 x hx) (fun x hx => h3.2 x hx) (fun x hx => h4.2 x hx) h5⟩
end Go.Proofs.Ytdnfbihppellkaa.Pure
