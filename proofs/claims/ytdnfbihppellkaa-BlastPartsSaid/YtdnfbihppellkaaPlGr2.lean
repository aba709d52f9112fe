/- Right graphs, and what the laws make of them. -/
import Derived.Test.YtdnfbihppellkaaPlGr
import Derived.Test.YtdnfbihppellkaaAmY
namespace Go.Proofs.Ytdnfbihppellkaa.Am
set_option linter.unusedVariables false
set_option linter.unusedSimpArgs false
theorem get_put {l : List (Kii × Bool)} {k x : Kii} {v : Bool} : Mii_b_get (Mii_b_put l k v) x false = if x = k then v else Mii_b_get l x false := by
  have eqk : ∀ a b : Kii, eqD Kii_ a b = true ↔ a = b := fun a b => by
    obtain ⟨a1, a2⟩ := a
    obtain ⟨b1, b2⟩ := b
    simp [eqD]
  unfold Mii_b_get Mii_b_put
  induction l with
  | nil =>
    unfold mput mget mget
    by_cases h : x = k
    · rw [(eqk x k).2 h, if_pos h]
    · rw [Bool.eq_false_iff.2 fun q => h ((eqk x k).1 q), if_neg h]
  | cons p l ih =>
    unfold mput
    cases c : eqD Kii_ k p.1 with
    | true =>
      have c := (eqk k p.1).1 c
      unfold mget
      by_cases h : x = k
      · rw [(eqk x k).2 h, if_pos h]
      · have h2 : eqD Kii_ x p.1 = false := Bool.eq_false_iff.2 fun q => h (((eqk x p.1).1 q).trans c.symm)
        simp only
        rw [Bool.eq_false_iff.2 fun q => h ((eqk x k).1 q), if_neg h, h2]
    | false =>
      have c : k ≠ p.1 := fun q => by rw [(eqk k p.1).2 q] at c; cases c
      simp only
      unfold mget
      cases h : eqD Kii_ x p.1 with
      | true =>
        have h := (eqk x p.1).1 h
        rw [if_neg fun q => c (q.symm.trans h)]
      | false => exact ih
/-- The pairs met so far. -/
def met (g : List Kii) : Nat → List (Kii × Bool)
  | 0 => []
  | j + 1 => Mii_b_put (met g j) (Kii_at g (j : Int)) true
theorem met_get {g : List Kii} {x : Kii} : ∀ j, (∀ i : Nat, i < j → Kii_at g (i : Int) ≠ x) → Mii_b_get (met g j) x false = false
  | 0, _ => rfl
  | j + 1, h => by
    rw [met, get_put, if_neg (Ne.symm (h j (by omega)))]
    exact met_get j fun i hi => h i (by omega)
theorem aigRight_f {n : Nat} {ins : Int} {g : List Kii} (r : RG ins g) (hn : 30000 < n) : aig_Right n ins g = some (true, ()) := by
  have i0 := r.i0
  have i1 := r.i1
  have hl := r.len
  have l1 := iter_up (F := aig_Right_l1b n ins g) (fun j => ((j : Int), met g j, ())) (.inr ()) (len := g.length) (m := n)
    (fun self j hj => by
      obtain ⟨a1, a2, a3, a4⟩ := r.a j hj
      have hm := met_get (g := g) (x := Kii_at g (j : Int)) j fun i hi => r.nd i j hi hj
      rw [met]
      generalize met g j = M at *
      obtain ⟨a, b, hx⟩ : ∃ a b, Kii_at g (j : Int) = (a, b) := ⟨_, _, rfl⟩
      rw [hx] at a1 a2 a3 a4 hm ⊢
      simp only at a1 a2 a3 a4
      have nt : turn a ≠ b := by unfold turn; split <;> omega
      unfold aig_Right_l1b
      simp only [cond_dec, hx]
      rw [if_pos (by omega), ask_of (by omega), ask_of (by omega), ask_of (by omega), of_f, bindS, show min a b = a by omega, show max a b = b by omega]
      simp only
      rw [plain_f (by omega) (by omega), bindS]
      simp only [if_neg (show ¬ a = 0 by omega), if_neg nt, if_neg (show ¬ (a = 1 ∨ a = b) by omega), cond_false]
      have sh : shrI .i64 b 1 = b / 2 := shr_p2 (by omega)
      simp only [beq_self_eq_true, Bool.and_self, Bool.not_true, cond_false, hm, sh]
      rw [ask_of (by omega), if_neg (by omega), ask_of (by omega), ask_of (by omega), wrap_small (x := ins + (j : Int)) (by omega) (by omega), if_neg (by omega), ask_of trivial, succ64 (by omega)])
    (fun self => by
      unfold aig_Right_l1b
      simp only [cond_dec]
      rw [if_neg (by omega)]) (by omega)
  unfold aig_Right
  simp only [cond_dec]
  rw [if_neg (by omega), if_neg (by omega), wrap_def, if_neg (by omega), show aig_Right_l1 n ins g (0, [], ()) = _ from l1]
  rfl
theorem same13_f {n : Nat} {ins : Int} {g : List Kii} (hl : g.length ≤ 20000) (hn : 30000 < n) : ref13_Same n ins g ins g = some (true, ()) := by
  have h := iter_up (F := ref13_Same_l1b n g g) (fun j => ((j : Int), ())) (.inr ()) (len := g.length) (m := n)
    (fun self j hj => by
      unfold ref13_Same_l1b
      simp only [cond_dec]
      rw [if_pos (by omega), ask_of (by omega), ask_of (by omega), succ64 (by omega)]
      simp)
    (fun self => by
      unfold ref13_Same_l1b
      simp only [cond_dec]
      rw [if_neg (by omega)]) (by omega)
  unfold ref13_Same
  simp only [cond_dec]
  rw [if_neg (by simp), if_neg (by simp), show ref13_Same_l1 n g g (0, ()) = _ from h]
  rfl
theorem literal_f {n : Nat} {ins : Int} {g : List Kii} {x : Int} (r : RG ins g) (hx : (Lit.int .u16 x).wf = true) : ∃ y, law13_literal n ins g x = some (y, ()) ∧ LitG ins g y := by
  have i0 := r.i0
  have i1 := r.i1
  have hl := r.len
  have h := lit_u16 hx
  unfold law13_literal
  rw [wrap_small (x := ins + (g.length : Int)) (by omega) (by omega), wrap_small (x := ins + (g.length : Int) + 1) (by omega) (by omega), wrap_small (x := 2 * (ins + (g.length : Int) + 1)) (by omega) (by omega), wrap_small (x := x) (by omega) (by omega), ask_of (by omega), tmodn (by omega)]
  exact ⟨_, rfl, Int.emod_nonneg _ (by omega), Int.emod_lt_of_pos _ (by omega)⟩
def OpsOk (l : List Kcwww) : Prop := ∀ x ∈ l, (Lit.int .u8 x.1).wf = true ∧ (Lit.int .u16 x.2.1).wf = true ∧ (Lit.int .u16 x.2.2.1).wf = true ∧ (Lit.int .u16 x.2.2.2).wf = true
theorem made_f {n : Nat} {x1 : Int} {l : List Kcwww} (hx : (Lit.int .u8 x1).wf = true) (hl : l.length ≤ 120) (ho : OpsOk l) (hn : 30000 < n) : ∃ ins g lits, law13_Made n x1 l = some (ins, g, lits, ()) ∧ RG ins g ∧ g.length ≤ 360 := by
  have h8 := lit_u8 hx
  have h := iter_inv (F := law13_Made_l2b n l) (fun d => ∃ j : Nat, d.1 = (j : Int) ∧ j ≤ l.length ∧ RG d.2.1 d.2.2.1 ∧ d.2.2.1.length ≤ 3 * j ∧ d.2.2.2.1.length = j) (fun d => l.length - d.1.toNat) (fun o => RG o.1 o.2.1 ∧ o.2.1.length ≤ 360)
    (fun self d ⟨j, e1, e2, r, e3, e4⟩ hs => by
      obtain ⟨d1, ins, g, lits, u⟩ := d
      simp only at e1 r e3 e4
      subst e1
      unfold law13_Made_l2b
      simp only [cond_dec]
      by_cases c : j < l.length
      · have hm : at_ Kcwww_ l (j : Int) ∈ l := by rw [at_nat (t := Kcwww_) c]; exact List.getElem_mem c
        obtain ⟨o1, o2, o3, o4⟩ := ho _ hm
        have o8 := lit_u8 o1
        obtain ⟨y1, q1, z1⟩ := literal_f (n := n) r o2
        obtain ⟨y2, q2, z2⟩ := literal_f (n := n) r o3
        obtain ⟨y3, q3, z3⟩ := literal_f (n := n) r o4
        have st : ∃ g' x, law13_Made_j1 n ((j : Int), ins, g, lits, ()) (y1, ()) (y2, ()) (y3, ()) l = some (x, ins, g', ()) ∧ RG ins g' ∧ g'.length ≤ g.length + 3 := by
          unfold law13_Made_j1
          simp only [cond_dec]
          rw [ask_of (by omega), ask_of (by omega), tmodn (show 0 ≤ (Kcwww_at l (j : Int)).1 from o8.1)]
          have turn_ : ∀ {k : Nat} {R : Option (Int × List Kii × Int × Unit)} {φ : List Bool → Bool}, k ≤ 3 → StepG k ins g R φ → ∃ g' x, (R.bind fun r11 => some (r11.2.2.1, r11.1, r11.2.1, ())) = some (x, ins, g', ()) ∧ RG ins g' ∧ g'.length ≤ g.length + 3 := fun hk ⟨t, x, e, ht, hr, _⟩ => by
            rw [e, bindS]
            exact ⟨g ++ t, x, rfl, hr, by simp; omega⟩
          split
          · exact turn_ (by omega) (rand_f r (by omega) z1 z2 hn)
          · split
            · exact turn_ (by omega) (ror_f r (by omega) z1 z2 hn)
            · split
              · exact turn_ (by omega) (rxor_f r (by omega) z1 z2 hn)
              · split
                · exact turn_ (by omega) (rmux_f r (by omega) z1 z2 z3 hn)
                · exact ⟨g, 0, rfl, r, by omega⟩
        obtain ⟨g', x, e, r', hl'⟩ := st
        rw [if_pos (by omega), ask_of (by omega), show law13_literal n ins g (Kcwww_at l (j : Int)).2.1 = _ from q1, bindS, ask_of (by omega), show law13_literal n ins g (Kcwww_at l (j : Int)).2.2.1 = _ from q2, bindS, ask_of (by omega), show law13_literal n ins g (Kcwww_at l (j : Int)).2.2.2 = _ from q3, bindS, e, bindS, ask_of (by simp; omega), succ64 (by omega)]
        exact hs _ ⟨j + 1, rfl, by omega, r', by show g'.length ≤ 3 * (j + 1); omega, by simp [e4]⟩ (by show l.length - ((j + 1 : Nat) : Int).toNat < l.length - (j : Int).toNat; omega)
      · rw [if_neg (by omega)]
        exact ⟨_, rfl, r, by show g.length ≤ 360; omega⟩) n (0, x1 % 9, [], [], ()) ⟨0, rfl, by omega, ⟨by show 0 ≤ x1 % 9; omega, by show x1 % 9 ≤ 100; omega, by simp, fun j hj => by simp at hj, fun i j _ hj => by simp at hj⟩, by simp, rfl⟩ (by show l.length - (0 : Int).toNat < n; omega)
  obtain ⟨o, e, r, hg⟩ := h
  unfold law13_Made ref13_New law13_Made_l2
  rw [ask_of (by omega), bindS, wrap_small (x := x1) (by omega) (by omega), tmodn (by omega), e, bindS]
  exact ⟨_, _, _, rfl, r, hg⟩
end Go.Proofs.Ytdnfbihppellkaa.Am
