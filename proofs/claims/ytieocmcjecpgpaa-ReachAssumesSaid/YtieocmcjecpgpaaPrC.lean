/- A small net's rows, states and cycles, as the program goes through them. -/
import Derived.Test.YtieocmcjecpgpaaPrB
import Derived.Test.YtieocmcjecpgpaaPlHit
import Derived.Test.YtieocmcjecpgpaaPlRef2
namespace Go.Proofs.Ytieocmcjecpgpaa.Am
set_option linter.unusedVariables false
set_option linter.unusedSimpArgs false
def wI (N : List Nd) (I : List Pn) (j : Nat) : Nat := (Kiiiiiii_at N (Ksi_at I (j : Int)).2).2.1.toNat
def wC (N : List Nd) (C : List Cl) (j : Nat) : Nat := (Kiiiiiii_at N (Ksiii_at C (j : Int)).2.1).2.1.toNat
def rowV (N : List Nd) (I : List Pn) (k : Nat) : List Int := dgs (wI N I) I.length k
/-- A net's rows, legal cycles, hits. -/
noncomputable def sysN (N : List Nd) (I : List Pn) (C : List Cl) (P : List Pw) (p : Int) : Sys (List Int) := ⟨tot (wI N I) I.length, fun s k => legalB P (evalV N I C s (rowV N I k)), fun s k => if p < 0 then false else hitB P p.toNat (evalV N I C s (rowV N I k)), fun s k => afterV C (evalV N I C s (rowV N I k)), firstV C⟩
/-- A net is small. -/
structure Sm (N : List Nd) (I : List Pn) (C : List Cl) : Prop where
  m : tot (wI N I) I.length ≤ 256
  c : C.length ≤ 12
  s : tot (wC N C) C.length ≤ 4096
theorem p2_nat {w : Int} (h : 0 ≤ w) : P2 w = ((2 ^ w.toNat : Nat) : Int) := rfl
section
variable {N : List Nd} {I : List Pn} {C : List Cl} {P : List Pw} {Q : List Pn} {n : Nat}
theorem evo_f {st ins : List Int} (s : Small N I C P Q) (r : RightP N I C P Q) (hi : FitI N I ins) (hs : FitC N C st) (hn : 1000 < n) : net_Eval_o n N I C P Q st ins = some (evalV N I C st ins, ()) := (show net_Eval_o n N I C P Q st ins = net_Eval n N I C P Q st ins from rfl).trans (eval_f s r hi hs hn)
theorem afo_f {st ins : List Int} (s : Small N I C P Q) (r : RightP N I C P Q) (hi : FitI N I ins) (hs : FitC N C st) (hn : 1000 < n) : net_After_o n N I C P Q st ins = some (afterV C (evalV N I C st ins), ()) := (show net_After_o n N I C P Q st ins = net_After n N I C P Q st ins from rfl).trans (after_f s r hi hs hn)
theorem row_len (k : Nat) : (rowV N I k).length = I.length := dg_len _ _
theorem fit_row (r : RightP N I C P Q) (k : Nat) : FitI N I (rowV N I k) := by
  refine ⟨row_len k, fun j hj => ?_⟩
  obtain ⟨x, h1, h2⟩ := dg_at (w := wI N I) I.length k hj
  rw [show Ki_at (rowV N I k) (j : Int) = (x : Int) from h1]
  exact ⟨by omega, by unfold P2; unfold wI at h2; omega⟩
theorem row_of {xs : List Int} (h : FitI N I xs) : ∃ k, k < tot (wI N I) I.length ∧ rowV N I k = xs := by
  refine dg_surj I.length xs h.1 fun c hc => ?_
  have := h.2 c hc
  unfold Num_ P2 at this
  exact ⟨(Ki_at xs (c : Int)).toNat, by omega, by unfold wI; omega⟩
theorem num_of {s : List Int} (h : FitC N C s) : ∃ k, k < tot (wC N C) C.length ∧ dgs (wC N C) C.length k = s := by
  refine dg_surj C.length s h.1 fun c hc => ?_
  have := h.2 c hc
  unfold Num_ P2 at this
  exact ⟨(Ki_at s (c : Int)).toNat, by omega, by unfold wC; omega⟩
theorem row_inj {a b : Nat} (ha : a < tot (wI N I) I.length) (hb : b < tot (wI N I) I.length) (e : rowV N I a = rowV N I b) : a = b := dg_inj ha hb e
section
variable {p : Int} {i k : Nat} {l : List (List Int × List Nat)}
theorem inv_fit (r : RightP N I C P Q) (h : Inv (sysN N I C P p) i k l) : ∀ (b : Nat) e, l[b]? = some e → FitC N C e.1 := by
  intro b
  induction b using Nat.strongRecOn with
  | _ b ih =>
    intro e hb
    rcases h.up b e hb with ⟨rfl, q⟩ | ⟨a, ea, k', h1, -, h3, h4, h5, rfl⟩
    · rw [h.z] at hb
      cases hb
      exact fit_first r
    · exact fit_after r (nums_evalV r (fit_row r k') (ih a h1 ea h3))
theorem inv_few (r : RightP N I C P Q) (h : Inv (sysN N I C P p) i k l) : l.length ≤ tot (wC N C) C.length := by
  have hm : ∀ e ∈ l, ∃ v, v < tot (wC N C) C.length ∧ dgs (wC N C) C.length v = e.1 := fun e he => by
    obtain ⟨b, hb⟩ := List.getElem?_of_mem he
    exact num_of (inv_fit r h b e hb)
  let f : List Int × List Nat → Nat := fun e => if h : ∃ v, v < tot (wC N C) C.length ∧ dgs (wC N C) C.length v = e.1 then Classical.choose h else 0
  have hf : ∀ e ∈ l, f e < tot (wC N C) C.length ∧ dgs (wC N C) C.length (f e) = e.1 := fun e he => by
    have h := hm e he
    simp only [f, dif_pos h]
    exact Classical.choose_spec h
  refine few_of (f := f) (fun a b x y ha hb e => h.nd a b x y ha hb ?_) fun x hx => (hf x hx).1
  rw [← (hf x (List.mem_of_getElem? ha)).2, ← (hf y (List.mem_of_getElem? hb)).2, e]
end
/-- The row behind a row. -/
theorem odo_f (r : RightP N I C P Q) : ∀ (j a : Nat) (zs : List Int) (m : Nat), j + zs.length = I.length → a < tot (wI N I) j → j < m →
    (a + 1 < tot (wI N I) j → ∃ i' : Int, 0 ≤ i' ∧ iter (reach_rows_1__reach_search_step_o_l1b n N I) m ((j : Int) - 1, dgs (wI N I) j a ++ zs, ()) = some (i', dgs (wI N I) j (a + 1) ++ zs, ())) ∧ (¬ a + 1 < tot (wI N I) j → ∃ row, iter (reach_rows_1__reach_search_step_o_l1b n N I) m ((j : Int) - 1, dgs (wI N I) j a ++ zs, ()) = some (-1, row, ())) := by
  intro j
  induction j with
  | zero =>
    intro a zs m hl ha hm
    obtain ⟨m, rfl⟩ : ∃ k, m = k + 1 := ⟨m - 1, by omega⟩
    refine ⟨fun h => by simp [tot] at h, fun _ => ⟨dgs (wI N I) 0 a ++ zs, ?_⟩⟩
    rw [iter_s]
    unfold reach_rows_1__reach_search_step_o_l1b
    simp only [cond_dec]
    rw [if_neg (by simp)]
    rfl
  | succ j ih =>
    intro a zs m hl ha hm
    obtain ⟨m, rfl⟩ : ∃ k, m = k + 1 := ⟨m - 1, by omega⟩
    obtain ⟨m0, m1, -⟩ := pin_node r.ins (j := j) (by omega)
    have hw := node_at r.nodes m0 m1
    have w1 := hw.w1
    have w16 := hw.w16
    have hi := r.i
    have hww : wI N I j = (Kiiiiiii_at N (Ksi_at I (j : Int)).2).2.1.toNat := rfl
    have hp := p2n_pos (wI N I j)
    have hp2 : P2 (Kiiiiiii_at N (Ksi_at I (j : Int)).2).2.1 = ((2 ^ wI N I j : Nat) : Int) := rfl
    have hp3 := p2_16 w16
    have hmod := Nat.mod_lt a hp
    have hdm := Nat.div_add_mod a (2 ^ wI N I j)
    have hd : a / 2 ^ wI N I j < tot (wI N I) j := Nat.div_lt_of_lt_mul (by rw [Nat.mul_comm]; exact ha)
    have hL := dg_len (w := wI N I) j (a / 2 ^ wI N I j)
    have hsplit : dgs (wI N I) (j + 1) a ++ zs = dgs (wI N I) j (a / 2 ^ wI N I j) ++ ((a % 2 ^ wI N I j : Nat) : Int) :: zs := by
      rw [dgs, List.append_assoc]; rfl
    have hidx : ((j + 1 : Nat) : Int) - 1 = (j : Int) := by omega
    have ih := ih (a / 2 ^ wI N I j) (0 :: zs) m (by simp; omega) hd (by omega)
    have hlen : (dgs (wI N I) j (a / 2 ^ wI N I j) ++ ((a % 2 ^ wI N I j : Nat) : Int) :: zs).length = I.length := by simp [hL]; omega
    have htot : tot (wI N I) (j + 1) = tot (wI N I) j * 2 ^ wI N I j := rfl
    have body : iter (reach_rows_1__reach_search_step_o_l1b n N I) (m + 1) (((j + 1 : Nat) : Int) - 1, dgs (wI N I) (j + 1) a ++ zs, ()) = if a % 2 ^ wI N I j + 1 < 2 ^ wI N I j then some ((j : Int), dgs (wI N I) j (a / 2 ^ wI N I j) ++ ((a % 2 ^ wI N I j + 1 : Nat) : Int) :: zs, ()) else iter (reach_rows_1__reach_search_step_o_l1b n N I) m ((j : Int) - 1, dgs (wI N I) j (a / 2 ^ wI N I j) ++ 0 :: zs, ()) := by
      rw [iter_s, hidx, hsplit]
      generalize iter (reach_rows_1__reach_search_step_o_l1b n N I) m = self
      unfold reach_rows_1__reach_search_step_o_l1b
      have e1 : Ki_at (dgs (wI N I) j (a / 2 ^ wI N I j) ++ ((a % 2 ^ wI N I j : Nat) : Int) :: zs) (j : Int) = ((a % 2 ^ wI N I j : Nat) : Int) := at_mid (t := i_) hL
      have e2 : IntKind.wrap .i64 (((a % 2 ^ wI N I j : Nat) : Int) + 1) = ((a % 2 ^ wI N I j + 1 : Nat) : Int) := by
        rw [w64 (by omega) (by omega)]; push_cast; rfl
      have e3 : (dgs (wI N I) j (a / 2 ^ wI N I j) ++ ((a % 2 ^ wI N I j : Nat) : Int) :: zs).set j ((a % 2 ^ wI N I j + 1 : Nat) : Int) = dgs (wI N I) j (a / 2 ^ wI N I j) ++ ((a % 2 ^ wI N I j + 1 : Nat) : Int) :: zs := set_mid hL
      have e4 : Ki_at (dgs (wI N I) j (a / 2 ^ wI N I j) ++ ((a % 2 ^ wI N I j + 1 : Nat) : Int) :: zs) (j : Int) = ((a % 2 ^ wI N I j + 1 : Nat) : Int) := at_mid (t := i_) hL
      have e5 : (dgs (wI N I) j (a / 2 ^ wI N I j) ++ ((a % 2 ^ wI N I j + 1 : Nat) : Int) :: zs).set j 0 = dgs (wI N I) j (a / 2 ^ wI N I j) ++ 0 :: zs := set_mid hL
      have hlen2 : (dgs (wI N I) j (a / 2 ^ wI N I j) ++ ((a % 2 ^ wI N I j + 1 : Nat) : Int) :: zs).length = I.length := by simp [hL]; omega
      simp only [cond_dec, Int.toNat_natCast, e1, e2, e3, e4, e5, hlen, hlen2]
      rw [if_pos (by omega), ask_of (by omega), ask_of (by omega), ask_of (by omega), ask_of (by omega), ask_of (by omega), ask_of (by omega), shl_p2 (by omega) (by omega) (by omega), ask_of (by omega), w64 (n := (j : Int) - 1) (by omega) (by omega)]
      by_cases c : a % 2 ^ wI N I j + 1 < 2 ^ wI N I j
      · rw [if_pos c, if_pos (by omega)]
      · rw [if_neg c, if_neg (by omega)]
    by_cases c : a % 2 ^ wI N I j + 1 < 2 ^ wI N I j
    · rw [if_pos c] at body
      have h5 : (a / 2 ^ wI N I j + 1) * 2 ^ wI N I j ≤ tot (wI N I) j * 2 ^ wI N I j := Nat.mul_le_mul_right _ hd
      rw [Nat.add_mul, Nat.one_mul] at h5
      have hc := Nat.mul_comm (a / 2 ^ wI N I j) (2 ^ wI N I j)
      refine ⟨fun _ => ⟨(j : Int), by omega, ?_⟩, fun h => absurd (by rw [htot]; omega) h⟩
      rw [body]
      have : a + 1 = a / 2 ^ wI N I j * 2 ^ wI N I j + (a % 2 ^ wI N I j + 1) := by omega
      rw [this, dg_mul j _ _ c, List.append_assoc]
      rfl
    · rw [if_neg c] at body
      have hc := Nat.mul_comm (a / 2 ^ wI N I j) (2 ^ wI N I j)
      have ea : a + 1 = (a / 2 ^ wI N I j + 1) * 2 ^ wI N I j + 0 := by rw [Nat.add_mul]; omega
      refine ⟨fun h => ?_, fun h => ?_⟩
      · have h2 : a / 2 ^ wI N I j + 1 < tot (wI N I) j := by
          rw [htot, ea, Nat.add_zero] at h
          exact Nat.lt_of_mul_lt_mul_right h
        obtain ⟨i', q1, q2⟩ := ih.1 h2
        refine ⟨i', q1, ?_⟩
        rw [body, q2, ea, dg_mul j _ 0 hp, List.append_assoc]
        rfl
      · have h2 : ¬ a / 2 ^ wI N I j + 1 < tot (wI N I) j := fun q => h (by
          rw [htot, ea, Nat.add_zero]
          exact Nat.mul_lt_mul_of_pos_right q hp)
        obtain ⟨row, q⟩ := ih.2 h2
        exact ⟨row, by rw [body, q]⟩
/-- What a state and a row make. -/
theorem cycle_f {st ins : List Int} {p : Int} {x9 : List KLiiLii} {x10 : List (K12 × Bool)} (s : Small N I C P Q) (r : RightP N I C P Q) (hi : FitI N I ins) (hs : FitC N C st) (hn : 1000 < n) (hp : p < P.length) : reach_search_cycle_i5 n st p N I C P Q ins x9 x10 = some (legalB P (evalV N I C st ins), (match legalB P (evalV N I C st ins) with | false => false | true => if p < 0 then false else hitB P p.toNat (evalV N I C st ins)), N, I, C, P, Q, ins, x9, x10, ()) := by
  have s4 := s.p
  have hv := evalV_len N I C st ins
  unfold reach_search_cycle_i5
  rw [evo_f s r hi hs hn, bindS]
  generalize hV : evalV N I C st ins = v at *
  have l1 := iter_all (F := reach_search_cycle_i5_l1b n (v, ()) P) (fun j => ((j : Int), ())) (fun j => (Kisi_at P (j : Int)).1 = 9 → Ki_at v (Kisi_at P (j : Int)).2.2 ≠ 0) (fun _ => (false, false, ())) () (len := P.length) (m := n)
    (fun self j hj hall hk => by
      obtain ⟨q0, q1, -⟩ := prop_node r hj
      unfold reach_search_cycle_i5_l1b
      simp only [cond_dec]
      rw [if_pos (by omega), ask_of (by omega), succ64 (by omega)]
      by_cases e : (Kisi_at P (j : Int)).1 = 9
      · rw [if_pos e, ask_of (by omega), if_neg (hk e)]
      · rw [if_neg e])
    (fun self j hj hall hk => by
      obtain ⟨q0, q1, -⟩ := prop_node r hj
      simp only [Classical.not_imp, Classical.not_not, ne_eq] at hk
      unfold reach_search_cycle_i5_l1b
      simp only [cond_dec]
      rw [if_pos (by omega), ask_of (by omega), if_pos hk.1, ask_of (by omega), if_pos hk.2])
    (fun _ self => by
      unfold reach_search_cycle_i5_l1b
      simp only [cond_dec]
      rw [if_neg (by omega)]) (by omega)
  rcases l1 with ⟨h, e⟩ | ⟨j, hj, -, hk, e⟩
  · rw [legalB_iff.2 h, show reach_search_cycle_i5_l1 n (v, ()) P (0, ()) = _ from e]
    simp only [bindS, Sum.elim_inr, cond_dec]
    by_cases c : p < 0
    · rw [if_pos c, if_pos c]
    · obtain ⟨j, rfl⟩ := Int.eq_ofNat_of_zero_le (show 0 ≤ p by omega)
      obtain ⟨q0, q1, -⟩ := prop_node r (j := j) (by omega)
      rw [if_neg c, if_neg c, ask_of (by omega), ask_of (by omega)]
      rfl
  · rw [legalB_no.2 fun q => hk (q j hj), show reach_search_cycle_i5_l1 n (v, ()) P (0, ()) = _ from e]
    rfl
end
end Go.Proofs.Ytieocmcjecpgpaa.Am
