/- A property's cone alone -/
import Derived.Test.YtfjdhdmbbfeigaaPnM
import Derived.Test.YtfjdhdmbbfeigaaPcH
namespace Go.Proofs.Ytfjdhdmbbfeigaa.Am
set_option linter.unusedVariables false
set_option linter.unusedSimpArgs false
/-- What And makes. -/
def AndS (ins : Int) (g : List Kii) (a b : Int) (g' : List Kii) (x : Int) : Prop :=
  (g' = g ∧ x = 0) ∨ (g' = g ∧ x = max a b) ∨ (∃ j : Nat, j < g.length ∧ Kii_at g (j : Int) = (min a b, max a b) ∧ g' = g ∧ x = 2 * (ins + 1 + j)) ∨ (g' = g ++ [(min a b, max a b)] ∧ x = 2 * (ins + 1 + g.length))
section
variable {n : Nat} {ins : Int} {g g' : List Kii} {a b x : Int}
theorem andS_f (r : RG ins g) (hl : g.length < 20000) (ha : LitG ins g a) (hb : LitG ins g b) (hn : 30000 < n) : ∃ g' x, aig_And n ins g a b = some (ins, g', x, ()) ∧ AndS ins g a b g' x ∧ (∃ t, g' = g ++ t ∧ t.length ≤ 1) ∧ RG ins g' ∧ LitG ins g' x ∧ ∀ V, Mod ins g' V → lv V x = (lv V a && lv V b) := by
  obtain ⟨t, x, h1, h2, h3, h4, h5⟩ := and_f (n := n) r hl ha hb hn
  refine ⟨g ++ t, x, h1, ?_, ⟨t, rfl, h2⟩, h3, h4, h5⟩
  have i0 := r.i0
  have i1 := r.i1
  have a0 := ha.1
  have a1 := ha.2
  have b0 := hb.1
  have b1 := hb.2
  have hp0 : 0 ≤ min a b := by omega
  have hp1 : min a b < 1000000 := by have := r.len; omega
  unfold AndS
  unfold aig_And at h1
  rw [of_f, bindS] at h1
  generalize min a b = p at *
  generalize max a b = q at *
  simp only at h1
  have shl : ∀ j : Nat, j ≤ g.length → shlI .i64 (IntKind.wrap .i64 (IntKind.wrap .i64 (ins + 1) + (j : Int))) 1 = 2 * (ins + 1 + j) := fun j hj => by
    have := r.len
    rw [wrap_small (x := ins + 1) (by omega) (by omega), wrap_small (by omega) (by omega), shl_p2 (by omega) (by omega) (by rw [p2_one]; omega), p2_one]
    omega
  have fin : ∀ {G : List Kii} {y : Int}, some (ins, G, y, ()) = some (ins, g ++ t, x, ()) → g ++ t = G ∧ x = y := fun h => by
    have := Option.some.inj h
    simp only [Prod.mk.injEq, and_true, true_and] at this
    exact ⟨this.1.symm, this.2.symm⟩
  rw [plain_f hp0 hp1, bindS] at h1
  by_cases h0 : p = 0
  · simp only [h0, if_true, cond_true] at h1
    exact .inl (fin h1)
  by_cases h3' : turn p = q
  · simp only [if_neg h0, if_pos h3', cond_true] at h1
    exact .inl (fin h1)
  by_cases h12 : p = 1 ∨ p = q
  · simp only [if_neg h0, if_neg h3', if_pos h12, cond_true] at h1
    exact .inr (.inl (fin h1))
  simp only [if_neg h0, if_neg h3', if_neg h12, cond_false] at h1
  rcases index_f (n := n) (p := p) (q := q) r.len hn with ⟨j, hj, he, hx⟩ | ⟨hno, hx⟩
  · rw [hx, bindS] at h1
    unfold aig_And_j1 at h1
    simp only [cond_dec] at h1
    rw [if_neg (by omega), bindS, ask_of (by omega), shl j (by omega)] at h1
    obtain ⟨q1, q2⟩ := fin h1
    exact .inr (.inr (.inl ⟨j, hj, he, q1, q2⟩))
  · rw [hx, bindS] at h1
    unfold aig_And_j1 slices_Clone_2_int_2_int_o at h1
    simp only [cond_dec] at h1
    rw [if_pos (by omega), ask_of (by simp; omega), bindS, ask_of (by simp; omega), bindS, ask_of (by omega), shl g.length (Nat.le_refl _)] at h1
    exact .inr (.inr (.inr (fin h1)))
/-- Which variables hang on good ones alone. -/
def depV (B : List Bool) (g : List Kii) : List Bool := g.foldl (fun acc x => acc ++ [Kb_at acc (x.1 / 2) && Kb_at acc (x.2 / 2)]) B
theorem depV_snoc {B : List Bool} {y : Kii} : depV B (g ++ [y]) = depV B g ++ [Kb_at (depV B g) (y.1 / 2) && Kb_at (depV B g) (y.2 / 2)] := by simp [depV, List.foldl_append]
theorem depV_len {B : List Bool} : ∀ (g : List Kii), (depV B g).length = B.length + g.length := fun g => by
  have key : ∀ (g : List Kii) (A : List Bool), (g.foldl (fun acc x => acc ++ [Kb_at acc (x.1 / 2) && Kb_at acc (x.2 / 2)]) A).length = A.length + g.length := by
    intro g
    induction g with
    | nil => intro A; rfl
    | cons y r ih => intro A; rw [List.foldl_cons, ih]; simp; omega
  exact key g B
theorem depV_pre {B : List Bool} {t : List Kii} : ∃ r, depV B (g ++ t) = depV B g ++ r := by
  unfold depV
  rw [List.foldl_append]
  generalize g.foldl (fun acc x => acc ++ [Kb_at acc (x.1 / 2) && Kb_at acc (x.2 / 2)]) B = A
  induction t generalizing A with
  | nil => exact ⟨[], by simp⟩
  | cons y t ih =>
    obtain ⟨r, h⟩ := ih (A ++ [Kb_at A (y.1 / 2) && Kb_at A (y.2 / 2)])
    exact ⟨_ :: r, by rw [List.foldl_cons, h, List.append_assoc]; rfl⟩
theorem b_app {l r : List Bool} {j : Int} (h0 : 0 ≤ j) (h : j < l.length) : Kb_at (l ++ r) j = Kb_at l j := by
  obtain ⟨m, rfl⟩ := Int.eq_ofNat_of_zero_le h0
  exact at_app1 (t := b_) (by omega)
theorem depV_old {B : List Bool} {t : List Kii} {j : Int} (h0 : 0 ≤ j) (h : j < (B.length : Int) + g.length) : Kb_at (depV B (g ++ t)) j = Kb_at (depV B g) j := by
  obtain ⟨r, e⟩ := depV_pre (B := B) (g := g) (t := t)
  rw [e, b_app h0 (by rw [depV_len]; omega)]
/-- An and's value, of its operands'. -/
theorem depV_at {B : List Bool} (r : RG ins g) (hB : (B.length : Int) = ins + 1) {j : Nat} (hj : j < g.length) : Kb_at (depV B g) (ins + 1 + j) = (Kb_at (depV B g) ((Kii_at g (j : Int)).1 / 2) && Kb_at (depV B g) ((Kii_at g (j : Int)).2 / 2)) := by
  have hg : g = g.take j ++ (Kii_at g (j : Int)) :: g.drop (j + 1) := by
    have e : Kii_at g (j : Int) = g[j] := at_nat (t := Kii_) hj
    rw [e]
    conv => lhs; rw [← List.take_append_drop j g, List.drop_eq_getElem_cons hj]
  have ha := r.a j hj
  have i0 := r.i0
  have ht : (g.take j).length = j := by simp; omega
  generalize Kii_at g (j : Int) = y at *
  have e2 : g = (g.take j ++ [y]) ++ g.drop (j + 1) := by rw [List.append_assoc]; exact hg
  have l1 := depV_len (B := B) (g.take j)
  have q : ∀ v : Int, 0 ≤ v → v < ins + 1 + j → Kb_at (depV B g) v = Kb_at (depV B (g.take j)) v := fun v h0 h1 => by
    conv => lhs; rw [hg]
    exact depV_old (B := B) h0 (by rw [ht]; omega)
  have qs : Kb_at (depV B g) (ins + 1 + j) = Kb_at (depV B (g.take j ++ [y])) (ins + 1 + j) := by
    conv => lhs; rw [e2]
    exact depV_old (B := B) (by omega) (by simp only [List.length_append, ht, List.length_cons, List.length_nil]; omega)
  rw [qs, depV_snoc, q _ (by omega) (by omega), q _ (by omega) (by omega), show ins + 1 + (j : Int) = ((depV B (g.take j)).length : Int) by rw [l1, ht]; omega]
  exact at_app2 (t := b_)
/-- What And makes hangs on what its operands hang on. -/
theorem AndS.dep {B : List Bool} (h : AndS ins g a b g' x) (r : RG ins g') (hB : (B.length : Int) = ins + 1) (ha : LitG ins g a) (hb : LitG ins g b) (h0 : Kb_at B 0 = true) (da : Kb_at (depV B g') (a / 2) = true) (db : Kb_at (depV B g') (b / 2) = true) : Kb_at (depV B g') (x / 2) = true := by
  have a0 := ha.1
  have b0 := hb.1
  have i0 := r.i0
  have z : Kb_at (depV B g') 0 = true := by
    obtain ⟨t, e⟩ := depV_pre (B := B) (g := []) (t := g')
    rw [List.nil_append] at e
    rw [e, b_app (by omega) (by rw [depV_len]; simp; omega)]
    exact h0
  have dmin : Kb_at (depV B g') (min a b / 2) = true := by
    by_cases c : a ≤ b
    · rw [show min a b = a by omega]; exact da
    · rw [show min a b = b by omega]; exact db
  have dmax : Kb_at (depV B g') (max a b / 2) = true := by
    by_cases c : a ≤ b
    · rw [show max a b = b by omega]; exact db
    · rw [show max a b = a by omega]; exact da
  rcases h with ⟨rfl, rfl⟩ | ⟨rfl, rfl⟩ | ⟨j, hj, he, rfl, rfl⟩ | ⟨rfl, rfl⟩
  · exact z
  · exact dmax
  · rw [show 2 * (ins + 1 + (j : Int)) / 2 = ins + 1 + j by omega, depV_at r hB hj, he]
    simp only
    rw [dmin, dmax]
    rfl
  · rw [show 2 * (ins + 1 + (g.length : Int)) / 2 = ins + 1 + g.length by omega, depV_at r hB (j := g.length) (by simp)]
    rw [show Kii_at (g ++ [(min a b, max a b)]) (g.length : Int) = (min a b, max a b) from at_app2 (t := Kii_)]
    simp only
    rw [dmin, dmax]
    rfl
end
/-- A literal, by those that old variables have now. -/
def litT (to : List Int) (x : Int) : Int := if x % 2 = 1 then turn (Ki_at to (x / 2)) else Ki_at to (x / 2)
/-- Ands made anew. -/
inductive Made (ins : Int) (first : List Int) : List Kii → List Kii → List Int → Prop
  | nil : Made ins first [] [] first
  | snoc {A g to x g' r} : Made ins first A g to → AndS ins g (litT to x.1) (litT to x.2) g' r → (∃ t, g' = g ++ t) → LitG ins g (litT to x.1) → LitG ins g (litT to x.2) → RG ins g' → (∀ V, Mod ins g' V → lv V r = (lv V (litT to x.1) && lv V (litT to x.2))) → Made ins first (A ++ [x]) g' (to ++ [r])
section
variable {n : Nat} {ins : Int} {g : List Kii} {to first : List Int} {A : List Kii}
theorem takeS {t : Ty} {l : List t.D} {i : Nat} (h : i < l.length) : l.take (i + 1) = l.take i ++ [at_ t l (i : Int)] := by
  rw [List.take_add_one, List.getElem?_eq_getElem h, at_nat h]
  rfl
theorem xor_zero (a : Int) (h0 : 0 ≤ a) (h1 : a < 9223372036854775807) : bits .xor .i64 a 0 = a := by
  obtain ⟨m, rfl⟩ := Int.eq_ofNat_of_zero_le h0
  have := xor_nat m 0 (by omega) (by omega)
  rw [Nat.xor_zero] at this
  exact this
theorem litT_x {x : Int} (hx : 0 ≤ x) (hx1 : x < 1000000) (h0 : 0 ≤ Ki_at to (x / 2)) (h1 : Ki_at to (x / 2) < 1000000) : bits .xor .i64 (Ki_at to (x / 2)) (bits .and .i64 x 1) = litT to x := by
  rw [and_one x hx (by omega)]
  unfold litT
  split
  · rename_i h; rw [h]; exact xor_one _ h0 (by omega)
  · rename_i h; rw [show x % 2 = 0 by omega]; exact xor_zero _ h0 (by omega)
theorem lit2_f {x : Int} (hx : 0 ≤ x) (hx1 : x < 1000000) (hl : x / 2 < to.length) (h0 : 0 ≤ Ki_at to (x / 2)) (h1 : Ki_at to (x / 2) < 1000000) : cone_anew_1_i2 n x [to] 0 = some (litT to x, ()) := by
  unfold cone_anew_1_i2
  have e : KLi_at [to] 0 = to := rfl
  rw [ask_of (by decide), tdiv2 hx, wrap_small (by omega) (by omega), e, ask_of (by omega), litT_x hx hx1 h0 h1]
theorem lit3_f {x : Int} (hx : 0 ≤ x) (hx1 : x < 1000000) (hl : x / 2 < to.length) (h0 : 0 ≤ Ki_at to (x / 2)) (h1 : Ki_at to (x / 2) < 1000000) : cone_anew_1_i3 n x to = some (litT to x, to, ()) := by
  unfold cone_anew_1_i3
  rw [ask_of (by decide), tdiv2 hx, wrap_small (by omega) (by omega), ask_of (by omega), litT_x hx hx1 h0 h1]
/-- All literals of a list are a graph's. -/
def LitsV (ins : Int) (g : List Kii) (to : List Int) : Prop := ∀ v : Nat, v < to.length → LitG ins g (Ki_at to (v : Int))
theorem LitsV.at_ (h : LitsV ins g to) {x : Int} (h0 : 0 ≤ x) (h1 : x < to.length) : LitG ins g (Ki_at to x) := by
  have := h x.toNat (by omega)
  rwa [show ((x.toNat : Nat) : Int) = x by omega] at this
theorem litT_ok (r : RG ins g) (h : LitsV ins g to) {x : Int} (hx : 0 ≤ x) (hl : x / 2 < to.length) : LitG ins g (litT to x) := by
  have hv := h.at_ (x := x / 2) (by omega) hl
  unfold litT
  split
  · exact (turn_lit r hv).2
  · exact hv
/-- Operands of old ands. -/
def OpsA (k0 : Int) (A : List Kii) : Prop := ∀ k : Nat, k < A.length → (0 ≤ (Kii_at A (k : Int)).1 ∧ (Kii_at A (k : Int)).1 / 2 < k0 + k) ∧ (0 ≤ (Kii_at A (k : Int)).2 ∧ (Kii_at A (k : Int)).2 / 2 < k0 + k)
theorem made_l (hn : 30000 < n) (hA : A.length ≤ 15000) (ho : OpsA first.length A) (hf : first.length ≤ 6000) : ∀ (d k m : Nat) (g : List Kii) (to : List Int), k + d = A.length → d < m → Made ins first (A.take k) g to → RG ins g → to.length = first.length + k → LitsV ins g to → g.length ≤ k →
    ∃ g' to', iter (cone_anew__cone_Fixed_1_l3b n A) m ((k : Int), ins, g, to, ()) = some (ins, g', to', ()) ∧ Made ins first A g' to' ∧ RG ins g' ∧ to'.length = first.length + A.length ∧ LitsV ins g' to' ∧ g'.length ≤ A.length ∧ (∃ t, g' = g ++ t) ∧ ∃ t, to' = to ++ t := by
  intro d
  induction d with
  | zero =>
    intro k m g to hk hm hM r hl hv hg
    obtain ⟨m, rfl⟩ : ∃ k, m = k + 1 := ⟨m - 1, by omega⟩
    rw [List.take_of_length_le (by omega)] at hM
    refine ⟨g, to, ?_, hM, r, by omega, hv, by omega, ⟨[], by simp⟩, ⟨[], by simp⟩⟩
    rw [iter_s]
    unfold cone_anew__cone_Fixed_1_l3b
    simp only [cond_dec]
    rw [if_neg (by omega)]
  | succ d ih =>
    intro k m g to hk hm hM r hl hv hg
    obtain ⟨m, rfl⟩ : ∃ k, m = k + 1 := ⟨m - 1, by omega⟩
    have i1 := r.i1
    obtain ⟨⟨o1, o2⟩, o3, o4⟩ := ho k (by omega)
    have v1 := hv.at_ (x := (Kii_at A (k : Int)).1 / 2) (by omega) (by omega)
    have v2 := hv.at_ (x := (Kii_at A (k : Int)).2 / 2) (by omega) (by omega)
    have w1 := v1.1
    have w1' := v1.2
    have w2 := v2.1
    have w2' := v2.2
    have l1 := litT_ok r hv o1 (by omega)
    have l2 := litT_ok r hv o3 (by omega)
    obtain ⟨g', x, h1, h2, ⟨t, h3, h3'⟩, h4, h5, h6⟩ := andS_f (n := n) r (by omega) l1 l2 hn
    have hM' : Made ins first (A.take (k + 1)) g' (to ++ [x]) := by
      rw [show A.take (k + 1) = A.take k ++ [Kii_at A (k : Int)] from takeS (t := Kii_) (by omega)]
      exact .snoc hM h2 ⟨t, h3⟩ l1 l2 h4 h6
    have hv' : LitsV ins g' (to ++ [x]) := fun v hvl => by
      simp only [List.length_append, List.length_cons, List.length_nil] at hvl
      by_cases c : v < to.length
      · rw [show Ki_at (to ++ [x]) (v : Int) = Ki_at to (v : Int) from at_app1 (t := i_) c, h3]
        exact (hv v c).more
      · rw [show v = to.length by omega, show Ki_at (to ++ [x]) (to.length : Int) = x from at_app2 (t := i_)]
        exact h5
    have hgl : g'.length ≤ k + 1 := by rw [h3]; simp; omega
    obtain ⟨g2, to2, q1, q2, q3, q4, q5, q6, ⟨t2, q7⟩, t3, q8⟩ := ih (k + 1) m g' (to ++ [x]) (by omega) (by omega) hM' h4 (by simp; omega) hv' hgl
    refine ⟨g2, to2, ?_, q2, q3, q4, q5, q6, ⟨t ++ t2, by rw [q7, h3, List.append_assoc]⟩, ⟨x :: t3, by rw [q8, List.append_assoc]; rfl⟩⟩
    rw [iter_s, ← q1]
    generalize iter (cone_anew__cone_Fixed_1_l3b n A) m = self
    unfold cone_anew__cone_Fixed_1_l3b
    simp only [cond_dec]
    rw [if_pos (by omega), ask_of (by omega), ask_of (by decide), lit3_f o1 (by omega) (by omega) w1 (by omega), bindS, ask_of (by decide)]
    simp only
    rw [lit3_f o3 (by omega) (by omega) w2 (by omega), bindS]
    simp only
    rw [h1, bindS, ask_of ⟨trivial, by simp; omega⟩, succ64 (by omega)]
theorem rg_nil (h0 : 0 ≤ ins) (h1 : ins ≤ 5000) : RG ins [] := ⟨h0, h1, by simp, fun j hj => by simp at hj, fun i j _ hj => by simp at hj⟩
theorem made_f (hn : 30000 < n) (h0 : 0 ≤ ins) (h1 : ins ≤ 5000) (hA : A.length ≤ 15000) (ho : OpsA first.length A) (hf : first.length ≤ 6000) (hv : LitsV ins [] first) :
    ∃ g' to', cone_anew__cone_Fixed_1_l3 n A (0, ins, [], first, ()) = some (ins, g', to', ()) ∧ cone_anew__cone_still_1_l3 n A (0, ins, [], first, ()) = some (ins, g', to', ()) ∧ Made ins first A g' to' ∧ RG ins g' ∧ to'.length = first.length + A.length ∧ LitsV ins g' to' ∧ g'.length ≤ A.length ∧ ∃ t, to' = first ++ t := by
  obtain ⟨g2, to2, q1, q2, q3, q4, q5, q6, -, q8⟩ := made_l (n := n) hn hA ho hf A.length 0 n [] first (by omega) (by omega) .nil (rg_nil h0 h1) (by omega) hv (by simp)
  exact ⟨g2, to2, q1, q1, q2, q3, q4, q5, q6, q8⟩
/-- What is made anew hangs on what the old ones hang on. -/
theorem Made.dep {B D : List Bool} {G : List Kii} (hB : (B.length : Int) = ins + 1) (h0 : Kb_at B 0 = true) (h : Made ins first A g to) (hp : ∃ t, G = g ++ t) (r : RG ins G)
    (hD : ∀ v : Nat, v < first.length → Kb_at D (v : Int) = true → Kb_at (depV B G) (Ki_at first (v : Int) / 2) = true) (hc : ∀ k : Nat, k < A.length → Kb_at D ((first.length : Int) + k) = true → Kb_at D ((Kii_at A (k : Int)).1 / 2) = true ∧ Kb_at D ((Kii_at A (k : Int)).2 / 2) = true) (ho : OpsA first.length A) :
    to.length = first.length + A.length ∧ ∀ v : Nat, v < to.length → Kb_at D (v : Int) = true → Kb_at (depV B G) (Ki_at to (v : Int) / 2) = true := by
  induction h with
  | nil => exact ⟨by simp, hD⟩
  | @snoc A g to x g' y hM hA ht l1 l2 rg' hsem ih =>
    obtain ⟨t, rfl⟩ := hp
    obtain ⟨t', rfl⟩ := ht
    have at1 : ∀ k : Nat, k < A.length → Kii_at (A ++ [x]) (k : Int) = Kii_at A (k : Int) := fun k hk => at_app1 (t := Kii_) hk
    have at2 : Kii_at (A ++ [x]) (A.length : Int) = x := at_app2 (t := Kii_)
    obtain ⟨e, ih⟩ := ih ⟨t' ++ t, by rw [List.append_assoc]⟩ (fun k hk hd => by
      have := hc k (by simp; omega) hd
      rwa [at1 k hk] at this) (fun k hk => by
      have := ho k (by simp; omega)
      rwa [at1 k hk] at this)
    refine ⟨by simp [e]; omega, fun v hv hd => ?_⟩
    simp only [List.length_append, List.length_cons, List.length_nil] at hv
    by_cases c : v < to.length
    · rw [show Ki_at (to ++ [y]) (v : Int) = Ki_at to (v : Int) from at_app1 (t := i_) c]
      exact ih v c hd
    · have ev : v = to.length := by omega
      subst ev
      rw [show Ki_at (to ++ [y]) (to.length : Int) = y from at_app2 (t := i_)]
      obtain ⟨d1, d2⟩ := hc A.length (by simp) (by rw [e] at hd; push_cast at hd; exact hd)
      obtain ⟨o1, o2⟩ := ho A.length (by simp)
      rw [at2] at d1 d2 o1 o2
      have key : ∀ z : Int, 0 ≤ z → z / 2 < (first.length : Int) + A.length → Kb_at D (z / 2) = true → Kb_at (depV B (g ++ t' ++ t)) (litT to z / 2) = true := fun z z0 z1 zd => by
        have := ih (z / 2).toNat (by omega) (by rw [show (((z / 2).toNat : Nat) : Int) = z / 2 by omega]; exact zd)
        rw [show (((z / 2).toNat : Nat) : Int) = z / 2 by omega] at this
        unfold litT
        split
        · rw [turn_div]; exact this
        · exact this
      have i0 := rg'.i0
      have ll : ∀ z : Int, LitG ins g z → Kb_at (depV B (g ++ t' ++ t)) (z / 2) = Kb_at (depV B (g ++ t')) (z / 2) := fun z hz => by
        have := hz.1
        have := hz.2
        exact depV_old (by omega) (by simp; omega)
      have k1 := key x.1 o1.1 o1.2 d1
      have k2 := key x.2 o2.1 o2.2 d2
      rw [ll _ l1] at k1
      rw [ll _ l2] at k2
      have := hA.dep rg' hB l1 l2 h0 k1 k2
      have hy : LitG ins (g ++ t') y := by
        rcases hA with ⟨q1, q2⟩ | ⟨q1, q2⟩ | ⟨j, hj, -, q1, q2⟩ | ⟨q1, q2⟩
        · rw [q2]; exact ⟨by omega, by omega⟩
        · rw [q2]
          have a1 := l1.1
          have a2 := l1.2
          have a3 := l2.1
          have a4 := l2.2
          exact ⟨by omega, by simp; omega⟩
        · rw [q2]; exact ⟨by omega, by simp; omega⟩
        · rw [q2, q1]; exact ⟨by omega, by simp; omega⟩
      rw [← this]
      have := hy.1
      have := hy.2
      exact depV_old (by omega) (by omega)
end
def initL (l : Kiibii) : Int := if l.2.2.1 = true then 1 else 0
def firsts (m : Nat) : List Int := (List.range (m + 1)).map fun v : Nat => 2 * (v : Int)
/-- What inputs and latches are made anew of, those that are gone being constants. -/
def stillF (m : Nat) (lL : List Kiibii) (gone : List Bool) : List Int := firsts m ++ (List.range lL.length).map fun i : Nat => if Kb_at gone (i : Int) = true then initL (Kiibii_at lL (i : Int)) else 2 * (Kiibii_at lL (i : Int)).1
section
variable {n : Nat} {ins : Int} {G g : List Kii} {iL oL : List Kiii} {lL : List Kiibii} {gone : List Bool}
theorem init_f {l : Kiibii} : cone_initOf n l.1 l.2.1 l.2.2.1 l.2.2.2.1 l.2.2.2.2 = some (initL l, ()) := by
  unfold cone_initOf initL
  cases l.2.2.1 <;> rfl
theorem firsts_len (m : Nat) : (firsts m).length = m + 1 := by simp [firsts]
theorem stillF_len (m : Nat) : (stillF m lL gone).length = m + 1 + lL.length := by simp [stillF, firsts_len]
theorem firsts_at {m v : Nat} (h : v ≤ m) : Ki_at (firsts m) (v : Int) = 2 * (v : Int) := at_range (t := i_) (by omega)
theorem stillF_lo {m v : Nat} (h : v ≤ m) : Ki_at (stillF m lL gone) (v : Int) = 2 * (v : Int) := by
  unfold stillF
  rw [show Ki_at (firsts m ++ (List.range lL.length).map fun i : Nat => if Kb_at gone (i : Int) = true then initL (Kiibii_at lL (i : Int)) else 2 * (Kiibii_at lL (i : Int)).1) (v : Int) = Ki_at (firsts m) (v : Int) from at_app1 (t := i_) (by rw [firsts_len]; omega)]
  exact firsts_at h
theorem at_appR {t : Ty} {l r : List t.D} {a j : Nat} (h : a = l.length + j) (hj : j < r.length) : at_ t (l ++ r) (a : Int) = at_ t r (j : Int) := by
  subst h
  rw [at_nat (by simp; omega), at_nat hj]
  simp [List.getElem_append_right]
theorem stillF_hi {m k : Nat} (h : k < lL.length) : Ki_at (stillF m lL gone) ((m + 1 + k : Nat) : Int) = if Kb_at gone (k : Int) = true then initL (Kiibii_at lL (k : Int)) else 2 * (Kiibii_at lL (k : Int)).1 := by
  unfold stillF
  rw [show Ki_at (firsts m ++ (List.range lL.length).map fun i : Nat => if Kb_at gone (i : Int) = true then initL (Kiibii_at lL (i : Int)) else 2 * (Kiibii_at lL (i : Int)).1) ((m + 1 + k : Nat) : Int) = _ from at_appR (t := i_) (j := k) (by rw [firsts_len]) (by simpa using h)]
  exact at_range (t := i_) (g := fun i : Nat => if Kb_at gone (i : Int) = true then initL (Kiibii_at lL (i : Int)) else 2 * (Kiibii_at lL (i : Int)).1) h
theorem first_l (hm : iL.length ≤ 5000) (hn : 30000 < n) : cone_anew__cone_still_1_l1 n iL (0, [0], ()) = some (firsts iL.length, ()) ∧ cone_anew__cone_Fixed_1_l1 n iL (0, [0], ()) = some (firsts iL.length, ()) := by
  have h := iter_up (F := cone_anew__cone_still_1_l1b n iL) (fun j => ((j : Int), firsts j, ())) (firsts iL.length, ()) (len := iL.length) (m := n)
    (fun self j hj => by
      have hl := firsts_len j
      unfold cone_anew__cone_still_1_l1b
      simp only [cond_dec]
      rw [if_pos (by omega), succ64 (by omega), wrap_small (by omega) (by omega), ask_of ⟨trivial, by simp [hl]; omega⟩]
      unfold firsts
      rw [range_app (g := fun v : Nat => 2 * (v : Int))])
    (fun self => by
      unfold cone_anew__cone_still_1_l1b
      simp only [cond_dec]
      rw [if_neg (by omega)]) (by omega)
  exact ⟨h, h⟩
theorem init01 (l : Kiibii) : initL l = 0 ∨ initL l = 1 := by unfold initL; split <;> simp
theorem still_l (hl : lL.length ≤ 256) (hm : iL.length ≤ 5000) (hg : gone.length = lL.length) (hv : ∀ k : Nat, k < lL.length → 0 ≤ (Kiibii_at lL (k : Int)).1 ∧ (Kiibii_at lL (k : Int)).1 ≤ 6000) (hn : 30000 < n) : cone_anew__cone_still_1_l2 n lL gone ins G iL lL oL (0, firsts iL.length, ()) = some (stillF iL.length lL gone, ()) := by
  have h := iter_up (F := cone_anew__cone_still_1_l2b n lL gone ins G iL lL oL) (fun j => ((j : Int), firsts iL.length ++ (List.range j).map (fun i : Nat => if Kb_at gone (i : Int) = true then initL (Kiibii_at lL (i : Int)) else 2 * (Kiibii_at lL (i : Int)).1), ())) (stillF iL.length lL gone, ()) (len := lL.length) (m := n)
    (fun self j hj => by
      have hf := firsts_len iL.length
      obtain ⟨v0, v1⟩ := hv j hj
      have e : cone_still_1 n (j : Int) [gone] 0 [(ins, G, iL, lL, oL)] 0 = some (if Kb_at gone (j : Int) = true then initL (Kiibii_at lL (j : Int)) else 2 * (Kiibii_at lL (j : Int)).1, ()) := by
        have e1 : KLb_at [gone] 0 = gone := rfl
        have e2 : (KiLPiiELPiiiELPiibiiELPiiiE_at [(ins, G, iL, lL, oL)] 0).2.2.2.1 = lL := rfl
        unfold cone_still_1
        simp only [e1, e2]
        rw [ask_of (by omega), ask_of (by omega), ask_of (by omega), init_f, bindS, wrap_small (by omega) (by omega)]
        cases Kb_at gone (j : Int) <;> rfl
      unfold cone_anew__cone_still_1_l2b
      simp only [cond_dec]
      rw [if_pos (by omega), e, bindS, ask_of ⟨trivial, by simp [hf]; omega⟩, succ64 (by omega), List.append_assoc, range_app (g := fun i : Nat => if Kb_at gone (i : Int) = true then initL (Kiibii_at lL (i : Int)) else 2 * (Kiibii_at lL (i : Int)).1)])
    (fun self => by
      unfold cone_anew__cone_still_1_l2b
      simp only [cond_dec]
      rw [if_neg (by omega)]
      rfl) (by omega)
  simp only [List.range_zero, List.map_nil, List.append_nil] at h
  exact h
/-- Literals of a list of first ones, of a graph that is empty. -/
theorem stillF_lits (m : Nat) (h0 : (m : Int) ≤ ins) (hv : ∀ k : Nat, k < lL.length → 0 ≤ (Kiibii_at lL (k : Int)).1 ∧ (Kiibii_at lL (k : Int)).1 ≤ ins) : LitsV ins [] (stillF m lL gone) := fun v hvl => by
  rw [stillF_len] at hvl
  by_cases c : v ≤ m
  · rw [stillF_lo c]
    exact ⟨by omega, by simp; omega⟩
  · obtain ⟨k, rfl⟩ : ∃ k, v = m + 1 + k := ⟨v - m - 1, by omega⟩
    obtain ⟨v0, v1⟩ := hv k (by omega)
    rw [stillF_hi (by omega)]
    split
    · rcases init01 (Kiibii_at lL (k : Int)) with e | e <;> rw [e] <;> exact ⟨by omega, by simp; omega⟩
    · exact ⟨by omega, by simp; omega⟩
/-- Old ands' operands, counted by their variables. -/
theorem ops_of (h : RG ins G) {k0 : Nat} (hk : (k0 : Int) = ins + 1) : OpsA k0 G := fun k hk' => by
  have := h.a k hk'
  have h0 := h.i0
  exact ⟨⟨by omega, by omega⟩, by omega, by omega⟩
theorem anew_still (c : CircR ins G iL lL oL) (hG : G.length ≤ 15000) (hg : gone.length = lL.length) (hn : 30000 < n) : ∃ g to, cone_anew__cone_still_1 n ins G iL lL oL ins gone ins G iL lL oL = some (ins, g, gone, ins, G, iL, lL, oL, to, ()) ∧ Made ins (stillF iL.length lL gone) G g to ∧ RG ins g ∧ to.length = iL.length + 1 + lL.length + G.length ∧ LitsV ins g to := by
  have i0 := c.r.i0
  have i1 := c.r.i1
  have hs := c.sum
  have l256 := c.l256
  have hvar : ∀ k : Nat, k < lL.length → 0 ≤ (Kiibii_at lL (k : Int)).1 ∧ (Kiibii_at lL (k : Int)).1 ≤ ins := fun k hk => by
    have := (c.l k hk).1
    omega
  have hlen := stillF_len (lL := lL) (gone := gone) iL.length
  obtain ⟨g, to, h1, h2, h3, h4, h5, h6, h7, -⟩ := made_f (n := n) (ins := ins) (A := G) (first := stillF iL.length lL gone) hn i0 i1 hG (ops_of c.r (by rw [hlen]; omega)) (by rw [hlen]; omega) (stillF_lits _ (by omega) hvar)
  refine ⟨g, to, ?_, h3, h4, by rw [h5, hlen], h6⟩
  unfold cone_anew__cone_still_1 aig_New
  rw [bindS, (first_l (by omega) hn).1, bindS]
  simp only
  rw [still_l l256 (by omega) hg (fun k hk => by have := hvar k hk; omega) hn, bindS]
  simp only
  rw [h2, bindS]
/-- How many latches are left. -/
def cntF (l : List Bool) : Nat := (l.filter fun x => !x).length
theorem cntF_set : ∀ {l : List Bool} {k : Nat}, k < l.length → Kb_at l (k : Int) = false → cntF (l.set k true) + 1 = cntF l
  | [], k, h, _ => by simp at h
  | x :: l, 0, _, h => by
    have : x = false := h
    subst this
    simp [cntF]
  | x :: l, k + 1, hk, h => by
    have h' : Kb_at l (k : Int) = false := by
      have e : Kb_at (x :: l) ((k + 1 : Nat) : Int) = Kb_at l (k : Int) := by unfold Kb_at at_; simp
      rw [← e]; exact h
    have ih := cntF_set (l := l) (k := k) (by simpa using hk) h'
    unfold cntF at ih ⊢
    rw [List.set_cons_succ]
    cases x <;> simp_all
/-- One round's latches: which are gone now. -/
theorem round_l {to : List Int} (c : CircR ins G iL lL oL) (hg : gone.length = lL.length) (hv : LitsV ins g to) (hgl : g.length ≤ 20000) (htl : to.length = iL.length + 1 + lL.length + G.length) (hn : 30000 < n) : ∃ more next, cone_still_l2 n (ins, g, gone, ins, G, iL, lL, oL, to, ()) (false, 0, gone, ()) = some (more, next, ()) ∧ next.length = lL.length ∧ (∀ k : Nat, k < lL.length → Kb_at next (k : Int) = (Kb_at gone (k : Int) || (decide (litT to (Kiibii_at lL (k : Int)).2.1 = initL (Kiibii_at lL (k : Int))) || decide (litT to (Kiibii_at lL (k : Int)).2.1 = 2 * (Kiibii_at lL (k : Int)).1)))) ∧ (more = false → next = gone) ∧ (more = true → cntF next < cntF gone) := by
  have i1 := c.r.i1
  have hs := c.sum
  have hl := c.l256
  have hGl := c.r.len
  have key : ∀ (d k m : Nat) (more : Bool) (next : List Bool), k + d = lL.length → d < m → next.length = lL.length → (∀ j : Nat, j < k → Kb_at next (j : Int) = (Kb_at gone (j : Int) || (decide (litT to (Kiibii_at lL (j : Int)).2.1 = initL (Kiibii_at lL (j : Int))) || decide (litT to (Kiibii_at lL (j : Int)).2.1 = 2 * (Kiibii_at lL (j : Int)).1)))) → (∀ j : Nat, k ≤ j → j < lL.length → Kb_at next (j : Int) = Kb_at gone (j : Int)) → (more = false → next = gone) → (more = true → cntF next < cntF gone) →
      ∃ more' next', iter (cone_still_l2b n (ins, g, gone, ins, G, iL, lL, oL, to, ())) m (more, (k : Int), next, ()) = some (more', next', ()) ∧ next'.length = lL.length ∧ (∀ j : Nat, j < lL.length → Kb_at next' (j : Int) = (Kb_at gone (j : Int) || (decide (litT to (Kiibii_at lL (j : Int)).2.1 = initL (Kiibii_at lL (j : Int))) || decide (litT to (Kiibii_at lL (j : Int)).2.1 = 2 * (Kiibii_at lL (j : Int)).1)))) ∧ (more' = false → next' = gone) ∧ (more' = true → cntF next' < cntF gone) := by
    intro d
    induction d with
    | zero =>
      intro k m more next hk hm h1 h2 h3 h4 h5
      obtain ⟨m, rfl⟩ : ∃ k, m = k + 1 := ⟨m - 1, by omega⟩
      refine ⟨more, next, ?_, h1, fun j hj => h2 j (by omega), h4, h5⟩
      rw [iter_s]
      unfold cone_still_l2b
      simp only [cond_dec]
      rw [if_neg (by omega)]
    | succ d ih =>
      intro k m more next hk hm h1 h2 h3 h4 h5
      obtain ⟨m, rfl⟩ : ∃ k, m = k + 1 := ⟨m - 1, by omega⟩
      obtain ⟨c1, c2, c3, c4⟩ := c.l k (by omega)
      have c40 := c4.1
      have c41 := c4.2
      have hto := hv.at_ (x := (Kiibii_at lL (k : Int)).2.1 / 2) (by omega) (by omega)
      have t0 := hto.1
      have t1 := hto.2
      have hlit := lit2_f (n := n) (to := to) (x := (Kiibii_at lL (k : Int)).2.1) c40 (by omega) (by omega) t0 (by omega)
      rw [iter_s]
      have ih := fun more next => ih (k + 1) m more next (by omega) (by omega)
      have hj1 : cone_still_j1 n (more, (k : Int), next, ()) (ins, g, gone, ins, G, iL, lL, oL, to, ()) (litT to (Kiibii_at lL (k : Int)).2.1, ()) = some (!(Kb_at gone (k : Int)) && (decide (litT to (Kiibii_at lL (k : Int)).2.1 = initL (Kiibii_at lL (k : Int))) || decide (litT to (Kiibii_at lL (k : Int)).2.1 = 2 * (Kiibii_at lL (k : Int)).1)), ()) := by
        unfold cone_still_j1
        simp only
        rw [ask_of (by omega), init_f, bindS, wrap_small (by omega) (by omega)]
        simp only [cond_dec]
        cases Kb_at gone (k : Int) with
        | true => rfl
        | false =>
          by_cases q : litT to (Kiibii_at lL (k : Int)).2.1 = initL (Kiibii_at lL (k : Int))
          · simp [q]
          · simp [q]
      generalize iter (cone_still_l2b n (ins, g, gone, ins, G, iL, lL, oL, to, ())) m = self at ih ⊢
      unfold cone_still_l2b
      simp only [cond_dec]
      rw [if_pos (by omega), ask_of (by omega), hlit, bindS, hj1, bindS]
      simp only
      rw [succ64 (by omega), ask_of (by omega), Int.toNat_natCast]
      have hgk := h3 k (Nat.le_refl _) (by omega)
      cases hc : (!(Kb_at gone (k : Int)) && (decide (litT to (Kiibii_at lL (k : Int)).2.1 = initL (Kiibii_at lL (k : Int))) || decide (litT to (Kiibii_at lL (k : Int)).2.1 = 2 * (Kiibii_at lL (k : Int)).1))) with
      | true =>
        simp only [Bool.and_eq_true, Bool.not_eq_true'] at hc
        have hset : ∀ j : Nat, Kb_at (next.set k true) (j : Int) = if k = j then true else Kb_at next (j : Int) := fun j => at_set (t := b_) (by omega)
        have hcn := cntF_set (l := next) (k := k) (by omega) (by rw [hgk]; exact hc.1)
        refine ih true (next.set k true) (by rw [List.length_set]; exact h1) (fun j hj => ?_) (fun j hj hj2 => ?_) (fun h => by cases h) (fun _ => ?_)
        · rw [hset]
          by_cases e : k = j
          · subst e; rw [if_pos rfl, hc.2]; simp
          · rw [if_neg e]; exact h2 j (by omega)
        · rw [hset, if_neg (by omega)]; exact h3 j (by omega) hj2
        · cases more with
          | true => have := h5 rfl; omega
          | false => rw [h4 rfl] at hcn ⊢; omega
      | false =>
        refine ih more next h1 (fun j hj => ?_) (fun j hj hj2 => h3 j (by omega) hj2) h4 h5
        by_cases e : j = k
        · subst e
          rw [hgk]
          cases hgb : Kb_at gone (j : Int) with
          | true => rfl
          | false => rw [hgb] at hc; simpa using hc.symm
        · exact h2 j (by omega)
  unfold cone_still_l2
  exact key lL.length 0 n false gone (by omega) (by omega) hg (fun j hj => by omega) (fun j _ _ => rfl) (fun _ => rfl) (fun h => by cases h)
/-- Which latches never turn: whatever holds of none, and goes from round to round, holds of them. -/
theorem still_f (c : CircR ins G iL lL oL) (hG : G.length ≤ 15000) (hn : 30000 < n) {J : List Bool → Prop} (J0 : J (List.replicate lL.length false)) (J1 : ∀ (gone next : List Bool) (g : List Kii) (to : List Int), gone.length = lL.length → J gone → Made ins (stillF iL.length lL gone) G g to → RG ins g → LitsV ins g to → to.length = iL.length + 1 + lL.length + G.length → next.length = lL.length → (∀ k : Nat, k < lL.length → Kb_at next (k : Int) = (Kb_at gone (k : Int) || (decide (litT to (Kiibii_at lL (k : Int)).2.1 = initL (Kiibii_at lL (k : Int))) || decide (litT to (Kiibii_at lL (k : Int)).2.1 = 2 * (Kiibii_at lL (k : Int)).1)))) → J next) : ∃ gone, cone_still n ins G iL lL oL = some (gone, ()) ∧ gone.length = lL.length ∧ J gone := by
  have hl := c.l256
  obtain ⟨r, hr, q1, q2⟩ := iter_inv (F := cone_still_l3b n) (fun d => ∃ more gone, d = (more, ins, G, iL, lL, oL, gone, ()) ∧ gone.length = lL.length ∧ J gone) (fun d => cntF d.2.2.2.2.2.2.1 + (match d.1 with | true => 1 | false => 0)) (fun r => r.1.length = lL.length ∧ J r.1)
    (fun self d hd ih => by
      obtain ⟨more, gone, rfl, h1, h2⟩ := hd
      unfold cone_still_l3b
      cases more with
      | false => exact ⟨_, rfl, h1, h2⟩
      | true =>
        obtain ⟨g, to, e1, e2, e3, e4, e5⟩ := anew_still (n := n) c hG h1 hn
        obtain ⟨more, next, k1, k2, k3, k4, k5⟩ := round_l (n := n) c h1 e5 e3.len e4 hn
        simp only [cond_true]
        rw [e1, bindS]
        simp only
        unfold slices_Clone_bool_bool_o
        rw [ask_of ⟨trivial, by simp; omega⟩, bindS]
        simp only
        rw [k1, bindS]
        refine ih _ ⟨more, next, rfl, k2, J1 gone next g to h1 h2 e2 e3 e5 e4 k2 k3⟩ ?_
        cases more with
        | false => simp only; rw [k4 rfl]; omega
        | true => simp only; have := k5 rfl; omega)
    n (true, ins, G, iL, lL, oL, List.replicate lL.length false, ()) ⟨true, _, rfl, by simp, J0⟩ (by
      have : cntF (List.replicate lL.length false) ≤ lL.length := by unfold cntF; exact Nat.le_trans (List.length_filter_le _ _) (by simp)
      simp only
      omega)
  refine ⟨r.1, ?_, q1, q2⟩
  unfold cone_still cone_still_l3
  rw [ask_of (by omega), Int.toNat_natCast, hr]
  rfl
end
theorem eqI (x y : Int) : eqD (.int .i64) x y = decide (x = y) := rfl
theorem mi_same {l : List (Int × Int)} {k v z : Int} : Mi_i_get (Mi_i_put l k v) k z = v := by
  unfold Mi_i_get Mi_i_put
  induction l with
  | nil => simp [mput, mget, eqI]
  | cons p r ih =>
    simp only [mput]
    by_cases c : k = p.1
    · rw [show eqD (.int .i64) k p.1 = true from decide_eq_true c]
      simp [mget, eqI]
    · rw [show eqD (.int .i64) k p.1 = false from decide_eq_false c]
      simp only [mget]
      rw [show eqD (.int .i64) k p.1 = false from decide_eq_false c]
      exact ih
theorem mi_other {l : List (Int × Int)} {k k' v z : Int} (h : k' ≠ k) : Mi_i_get (Mi_i_put l k v) k' z = Mi_i_get l k' z := by
  unfold Mi_i_get Mi_i_put
  induction l with
  | nil =>
    simp only [mput, mget]
    rw [show eqD (.int .i64) k' k = false from decide_eq_false h]
  | cons p r ih =>
    simp only [mput]
    by_cases c : k = p.1
    · rw [show eqD (.int .i64) k p.1 = true from decide_eq_true c]
      simp only [mget]
      rw [show eqD (.int .i64) k' k = false from decide_eq_false h, show eqD (.int .i64) k' p.1 = false from decide_eq_false (by rw [← c]; exact h)]
    · rw [show eqD (.int .i64) k p.1 = false from decide_eq_false c]
      simp only [mget]
      cases eqD (.int .i64) k' p.1 with
      | true => rfl
      | false => exact ih
/-- Latches that are left, of the first so many. -/
def leftN (gone : List Bool) (j : Nat) : List Nat := (List.range j).filter fun i : Nat => !(Kb_at gone (i : Int))
theorem leftN_succ {gone : List Bool} {j : Nat} : leftN gone (j + 1) = leftN gone j ++ (if Kb_at gone (j : Int) = true then [] else [j]) := by
  unfold leftN
  rw [List.range_succ, List.filter_append]
  congr 1
  cases h : Kb_at gone (j : Int) <;> simp [h]
theorem leftN_at {gone : List Bool} : ∀ {L k i : Nat}, (leftN gone L)[k]? = some i → i < L ∧ Kb_at gone (i : Int) = false ∧ (leftN gone i).length = k
  | 0, k, i, h => by simp [leftN] at h
  | L + 1, k, i, h => by
    rw [leftN_succ] at h
    by_cases c : k < (leftN gone L).length
    · rw [List.getElem?_append_left c] at h
      obtain ⟨h1, h2, h3⟩ := leftN_at h
      exact ⟨by omega, h2, h3⟩
    · rw [List.getElem?_append_right (by omega)] at h
      by_cases g : Kb_at gone (L : Int) = true
      · rw [if_pos g] at h; simp at h
      · rw [if_neg g] at h
        cases q : k - (leftN gone L).length with
        | zero =>
          rw [q] at h
          simp at h
          subst h
          exact ⟨by omega, by simpa using g, by omega⟩
        | succ z => rw [q] at h; simp at h
theorem leftN_le {gone : List Bool} : ∀ {j : Nat}, (leftN gone j).length ≤ j
  | 0 => by simp [leftN]
  | j + 1 => by
    have := leftN_le (gone := gone) (j := j)
    rw [leftN_succ, List.length_append]
    split <;> simp <;> omega
theorem leftN_mono {gone : List Bool} {i j : Nat} (h : i ≤ j) : (leftN gone i).length ≤ (leftN gone j).length := by
  induction h with
  | refl => exact Nat.le_refl _
  | step _ ih => rw [leftN_succ, List.length_append]; omega
/-- Is left: stands at its place. -/
theorem leftN_of {gone : List Bool} : ∀ {L i : Nat}, i < L → Kb_at gone (i : Int) = false → (leftN gone L)[(leftN gone i).length]? = some i
  | 0, i, h, _ => by omega
  | L + 1, i, h, g => by
    rw [leftN_succ]
    by_cases c : i < L
    · have := leftN_of c g
      rw [List.getElem?_append_left (List.getElem?_eq_some_iff.1 this).1]
      exact this
    · have : i = L := by omega
      subst this
      rw [List.getElem?_append_right (by omega), if_neg (by simp [g]), Nat.sub_self]
      rfl
def leftI (gone : List Bool) (j : Nat) : List Int := (leftN gone j).map fun i : Nat => (i : Int)
def placeM (m : Nat) (gone : List Bool) : Nat → List (Int × Int)
  | 0 => []
  | j + 1 => if Kb_at gone (j : Int) = true then placeM m gone j else Mi_i_put (placeM m gone j) (j : Int) ((m + (leftN gone j).length + 1 : Nat) : Int)
theorem placeM_succ {m j : Nat} {gone : List Bool} : placeM m gone (j + 1) = if Kb_at gone (j : Int) = true then placeM m gone j else Mi_i_put (placeM m gone j) (j : Int) ((m + (leftN gone j).length + 1 : Nat) : Int) := rfl
theorem placeM_at {m : Nat} {gone : List Bool} : ∀ {j i : Nat}, i < j → Kb_at gone (i : Int) = false → Mi_i_get (placeM m gone j) (i : Int) 0 = ((m + (leftN gone i).length + 1 : Nat) : Int)
  | 0, i, h, _ => by omega
  | j + 1, i, h, g => by
    unfold placeM
    by_cases c : i = j
    · subst c
      rw [if_neg (by simp [g]), mi_same]
    · split
      · exact placeM_at (by omega) g
      · rw [mi_other (by omega)]
        exact placeM_at (by omega) g
/-- What inputs and latches are made anew of: those that are left have new places. -/
def fixF (m : Nat) (lL : List Kiibii) (gone : List Bool) : List Int := firsts m ++ (List.range lL.length).map fun i : Nat => if Kb_at gone (i : Int) = true then initL (Kiibii_at lL (i : Int)) else 2 * ((m + (leftN gone i).length + 1 : Nat) : Int)
def latX (m : Nat) (lL : List Kiibii) (to : List Int) (l : List Nat) : List Kiibii := (List.range l.length).map fun k : Nat => (((m + k + 1 : Nat) : Int), litT to (Kiibii_at lL ((l.getD k 0 : Nat) : Int)).2.1, (Kiibii_at lL ((l.getD k 0 : Nat) : Int)).2.2.1, (Kiibii_at lL ((l.getD k 0 : Nat) : Int)).2.2.2.1, (Kiibii_at lL ((l.getD k 0 : Nat) : Int)).2.2.2.2)
def outX (oL : List Kiii) (to : List Int) : List Kiii := (List.range oL.length).map fun j : Nat => ((Kiii_at oL (j : Int)).1, litT to (Kiii_at oL (j : Int)).2.1, (Kiii_at oL (j : Int)).2.2)
section
variable {n : Nat} {ins : Int} {G g : List Kii} {iL oL : List Kiii} {lL : List Kiibii} {gone : List Bool} {to : List Int}
theorem fixF_len (m : Nat) : (fixF m lL gone).length = m + 1 + lL.length := by simp [fixF, firsts_len]
theorem fixF_lo {m v : Nat} (h : v ≤ m) : Ki_at (fixF m lL gone) (v : Int) = 2 * (v : Int) := by
  unfold fixF
  rw [show Ki_at (firsts m ++ (List.range lL.length).map fun i : Nat => if Kb_at gone (i : Int) = true then initL (Kiibii_at lL (i : Int)) else 2 * ((m + (leftN gone i).length + 1 : Nat) : Int)) (v : Int) = Ki_at (firsts m) (v : Int) from at_app1 (t := i_) (by rw [firsts_len]; omega)]
  exact firsts_at h
theorem fixF_hi {m k : Nat} (h : k < lL.length) : Ki_at (fixF m lL gone) ((m + 1 + k : Nat) : Int) = if Kb_at gone (k : Int) = true then initL (Kiibii_at lL (k : Int)) else 2 * ((m + (leftN gone k).length + 1 : Nat) : Int) := by
  unfold fixF
  rw [show Ki_at (firsts m ++ (List.range lL.length).map fun i : Nat => if Kb_at gone (i : Int) = true then initL (Kiibii_at lL (i : Int)) else 2 * ((m + (leftN gone i).length + 1 : Nat) : Int)) ((m + 1 + k : Nat) : Int) = _ from at_appR (t := i_) (j := k) (by rw [firsts_len]) (by simpa using h)]
  exact at_range (t := i_) (g := fun i : Nat => if Kb_at gone (i : Int) = true then initL (Kiibii_at lL (i : Int)) else 2 * ((m + (leftN gone i).length + 1 : Nat) : Int)) h
theorem fix_left (hl : lL.length ≤ 256) (hm : iL.length ≤ 5000) (hg : gone.length = lL.length) (hn : 30000 < n) : cone_Fixed_l1 n (gone, ()) iL (0, [], [], ()) = some (leftI gone lL.length, placeM iL.length gone lL.length, ()) := by
  exact iter_up (F := cone_Fixed_l1b n (gone, ()) iL) (fun j => ((j : Int), leftI gone j, placeM iL.length gone j, ())) (leftI gone lL.length, placeM iL.length gone lL.length, ()) (len := lL.length) (m := n)
    (fun self j hj => by
      have hle := leftN_le (gone := gone) (j := j)
      have ll : (leftI gone j).length = (leftN gone j).length := by simp [leftI]
      unfold cone_Fixed_l1b
      simp only [cond_dec]
      rw [if_pos (by omega), ask_of (by omega), succ64 (by omega)]
      have el : leftI gone (j + 1) = leftI gone j ++ (if Kb_at gone (j : Int) = true then [] else [(j : Int)]) := by
        unfold leftI
        rw [leftN_succ, List.map_append]
        congr 1
        split <;> rfl
      rw [el, placeM_succ]
      cases hb : Kb_at gone (j : Int) with
      | true => simp
      | false =>
        simp only [Bool.not_false, cond_true, Bool.false_eq_true, if_false]
        rw [ask_of ⟨trivial, by simp; omega⟩, wrap_small (x := (iL.length : Int) + _) (by omega) (by omega), wrap_small (by omega) (by omega), ll]
        have e : (iL.length : Int) + ((leftN gone j).length : Int) + 1 = ((iL.length + (leftN gone j).length + 1 : Nat) : Int) := by push_cast; rfl
        rw [e])
    (fun self => by
      unfold cone_Fixed_l1b
      simp only [cond_dec]
      rw [if_neg (by omega)]) (by omega)
theorem fix_l (hl : lL.length ≤ 256) (hm : iL.length ≤ 5000) (hg : gone.length = lL.length) (hn : 30000 < n) : cone_anew__cone_Fixed_1_l2 n lL gone ins G iL lL oL (0, placeM iL.length gone lL.length, firsts iL.length, ()) = some (placeM iL.length gone lL.length, fixF iL.length lL gone, ()) := by
  have h := iter_up (F := cone_anew__cone_Fixed_1_l2b n lL gone ins G iL lL oL) (fun j => ((j : Int), placeM iL.length gone lL.length, firsts iL.length ++ (List.range j).map (fun i : Nat => if Kb_at gone (i : Int) = true then initL (Kiibii_at lL (i : Int)) else 2 * ((iL.length + (leftN gone i).length + 1 : Nat) : Int)), ())) (placeM iL.length gone lL.length, fixF iL.length lL gone, ()) (len := lL.length) (m := n)
    (fun self j hj => by
      have hf := firsts_len iL.length
      have hle := leftN_le (gone := gone) (j := j)
      have e : cone_Fixed_1 n (j : Int) [gone] 0 [(ins, G, iL, lL, oL)] 0 (placeM iL.length gone lL.length) = some (if Kb_at gone (j : Int) = true then initL (Kiibii_at lL (j : Int)) else 2 * ((iL.length + (leftN gone j).length + 1 : Nat) : Int), placeM iL.length gone lL.length, ()) := by
        have e1 : KLb_at [gone] 0 = gone := rfl
        have e2 : (KiLPiiELPiiiELPiibiiELPiiiE_at [(ins, G, iL, lL, oL)] 0).2.2.2.1 = lL := rfl
        unfold cone_Fixed_1
        simp only [e1, e2]
        rw [ask_of (by omega), ask_of (by omega), ask_of trivial, init_f, bindS]
        cases hb : Kb_at gone (j : Int) with
        | true => rfl
        | false =>
          rw [placeM_at hj hb, wrap_small (by omega) (by omega)]
          rfl
      unfold cone_anew__cone_Fixed_1_l2b
      simp only [cond_dec]
      rw [if_pos (by omega), e, bindS, ask_of ⟨trivial, by simp [hf]; omega⟩, succ64 (by omega), List.append_assoc, range_app (g := fun i : Nat => if Kb_at gone (i : Int) = true then initL (Kiibii_at lL (i : Int)) else 2 * ((iL.length + (leftN gone i).length + 1 : Nat) : Int))])
    (fun self => by
      unfold cone_anew__cone_Fixed_1_l2b
      simp only [cond_dec]
      rw [if_neg (by omega)]
      rfl) (by omega)
  simp only [List.range_zero, List.map_nil, List.append_nil] at h
  exact h
theorem fixF_lits (m : Nat) : LitsV ((m + (leftN gone lL.length).length : Nat) : Int) [] (fixF m lL gone) := fun v hvl => by
  rw [fixF_len] at hvl
  by_cases c : v ≤ m
  · rw [fixF_lo c]
    exact ⟨by omega, by simp; omega⟩
  · obtain ⟨k, rfl⟩ : ∃ k, v = m + 1 + k := ⟨v - m - 1, by omega⟩
    rw [fixF_hi (by omega)]
    by_cases g : Kb_at gone (k : Int) = true
    · rw [if_pos g]
      rcases init01 (Kiibii_at lL (k : Int)) with e | e <;> rw [e] <;> exact ⟨by omega, by simp; omega⟩
    · rw [if_neg g]
      have h1 := leftN_mono (gone := gone) (i := k + 1) (j := lL.length) (by omega)
      rw [leftN_succ, if_neg g, List.length_append, List.length_singleton] at h1
      exact ⟨by omega, by simp; omega⟩
theorem fix_lats {X : Int} {gx : List Kii} (c : CircR ins G iL lL oL) (hg : gone.length = lL.length) (hv : LitsV X gx to) (hX : X ≤ 6000) (hgx : gx.length ≤ 20000) (htl : to.length = iL.length + 1 + lL.length + G.length) (hn : 30000 < n) {i0 : Int} {g0 : List Kii} {z : List Kiii} :
    cone_Fixed_l2 n (leftI gone lL.length, placeM iL.length gone lL.length, ()) (X, gx, gone, ins, G, iL, lL, oL, placeM iL.length gone lL.length, to, ()) (0, i0, g0, z, [], ()) = some (i0, g0, z, latX iL.length lL to (leftN gone lL.length), ()) := by
  have i1 := c.r.i1
  have hs := c.sum
  have hl := c.l256
  have hGl := c.r.len
  have hle := leftN_le (gone := gone) (j := lL.length)
  have ll : (leftI gone lL.length).length = (leftN gone lL.length).length := by simp [leftI]
  have h := iter_up (F := cone_Fixed_l2b n (leftI gone lL.length, placeM iL.length gone lL.length, ()) (X, gx, gone, ins, G, iL, lL, oL, placeM iL.length gone lL.length, to, ())) (fun j => ((j : Int), i0, g0, z, (List.range j).map (fun k : Nat => (((iL.length + k + 1 : Nat) : Int), litT to (Kiibii_at lL (((leftN gone lL.length).getD k 0 : Nat) : Int)).2.1, (Kiibii_at lL (((leftN gone lL.length).getD k 0 : Nat) : Int)).2.2.1, (Kiibii_at lL (((leftN gone lL.length).getD k 0 : Nat) : Int)).2.2.2.1, (Kiibii_at lL (((leftN gone lL.length).getD k 0 : Nat) : Int)).2.2.2.2)), ())) (i0, g0, z, latX iL.length lL to (leftN gone lL.length), ()) (len := (leftN gone lL.length).length) (m := n)
    (fun self j hj => by
      have hgt := List.getElem?_eq_getElem hj
      obtain ⟨k1, k2, k3⟩ := leftN_at hgt
      have ed : (leftN gone lL.length).getD j 0 = (leftN gone lL.length)[j] := by simp [List.getD_eq_getElem?_getD, hgt]
      have eat : Ki_at (leftI gone lL.length) (j : Int) = (((leftN gone lL.length)[j] : Nat) : Int) := by
        rw [show Ki_at (leftI gone lL.length) (j : Int) = _ from at_nat (t := i_) (by omega)]
        simp [leftI]
      rw [← range_app (g := fun k : Nat => ((((iL.length + k + 1 : Nat) : Int), litT to (Kiibii_at lL (((leftN gone lL.length).getD k 0 : Nat) : Int)).2.1, (Kiibii_at lL (((leftN gone lL.length).getD k 0 : Nat) : Int)).2.2.1, (Kiibii_at lL (((leftN gone lL.length).getD k 0 : Nat) : Int)).2.2.2.1, (Kiibii_at lL (((leftN gone lL.length).getD k 0 : Nat) : Int)).2.2.2.2) : Kiibii))]
      simp only [ed]
      generalize (leftN gone lL.length)[j] = i at *
      obtain ⟨c1, c2, c3, c4⟩ := c.l i k1
      have c40 := c4.1
      have c41 := c4.2
      have hto := hv.at_ (x := (Kiibii_at lL (i : Int)).2.1 / 2) (by omega) (by omega)
      have t0 := hto.1
      have t1 := hto.2
      unfold cone_Fixed_l2b
      simp only [cond_dec, eat]
      rw [if_pos (by omega), ask_of (by omega), ask_of (by omega), ask_of trivial, lit2_f c40 (by omega) (by omega) t0 (by omega), bindS, ask_of ⟨trivial, by simp; omega⟩, succ64 (by omega), placeM_at k1 k2, k3])
    (fun self => by
      unfold cone_Fixed_l2b
      simp only [cond_dec]
      rw [if_neg (by omega)]
      rfl) (by omega)
  exact h
theorem fix_outs {X : Int} {gx : List Kii} (c : CircR ins G iL lL oL) (hv : LitsV X gx to) (hX : X ≤ 6000) (hgx : gx.length ≤ 20000) (htl : to.length = iL.length + 1 + lL.length + G.length) (hn : 30000 < n) {i0 : Int} {g0 : List Kii} {z : List Kiii} {pm : List (Int × Int)} :
    cone_Fixed_l3 n (X, gx, gone, ins, G, iL, lL, oL, pm, to, ()) (0, i0, g0, z, [], ()) = some (i0, g0, z, outX oL to, ()) := by
  have i1 := c.r.i1
  have hs := c.sum
  have ho := c.o1000
  have hGl := c.r.len
  have h := iter_up (F := cone_Fixed_l3b n (X, gx, gone, ins, G, iL, lL, oL, pm, to, ())) (fun j => ((j : Int), i0, g0, z, (List.range j).map (fun j : Nat => ((Kiii_at oL (j : Int)).1, litT to (Kiii_at oL (j : Int)).2.1, (Kiii_at oL (j : Int)).2.2)), ())) (i0, g0, z, outX oL to, ()) (len := oL.length) (m := n)
    (fun self j hj => by
      obtain ⟨c1, c2, c3, c4⟩ := c.o j hj
      have c40 := c4.1
      have c41 := c4.2
      have hto := hv.at_ (x := (Kiii_at oL (j : Int)).2.1 / 2) (by omega) (by omega)
      have t0 := hto.1
      have t1 := hto.2
      unfold cone_Fixed_l3b
      simp only [cond_dec]
      rw [if_pos (by omega), ask_of (by omega), lit2_f c40 (by omega) (by omega) t0 (by omega), bindS, ask_of ⟨trivial, by simp; omega⟩, succ64 (by omega), range_app (g := fun j : Nat => (((Kiii_at oL (j : Int)).1, litT to (Kiii_at oL (j : Int)).2.1, (Kiii_at oL (j : Int)).2.2) : Kiii))])
    (fun self => by
      unfold cone_Fixed_l3b
      simp only [cond_dec]
      rw [if_neg (by omega)]
      rfl) (by omega)
  exact h
/-- What Fixed makes of a right circuit. -/
theorem fixed_f (c : CircR ins G iL lL oL) (hG : G.length ≤ 15000) (hn : 30000 < n) {J : List Bool → Prop} (J0 : J (List.replicate lL.length false)) (J1 : ∀ (gone next : List Bool) (g : List Kii) (to : List Int), gone.length = lL.length → J gone → Made ins (stillF iL.length lL gone) G g to → RG ins g → LitsV ins g to → to.length = iL.length + 1 + lL.length + G.length → next.length = lL.length → (∀ k : Nat, k < lL.length → Kb_at next (k : Int) = (Kb_at gone (k : Int) || (decide (litT to (Kiibii_at lL (k : Int)).2.1 = initL (Kiibii_at lL (k : Int))) || decide (litT to (Kiibii_at lL (k : Int)).2.1 = 2 * (Kiibii_at lL (k : Int)).1)))) → J next) :
    ∃ gone gx to, gone.length = lL.length ∧ J gone ∧ cone_Fixed n ins G iL lL oL = some (((iL.length + (leftN gone lL.length).length : Nat) : Int), gx, iL, latX iL.length lL to (leftN gone lL.length), outX oL to, leftI gone lL.length, ()) ∧ Made ((iL.length + (leftN gone lL.length).length : Nat) : Int) (fixF iL.length lL gone) G gx to ∧ RG ((iL.length + (leftN gone lL.length).length : Nat) : Int) gx ∧ LitsV ((iL.length + (leftN gone lL.length).length : Nat) : Int) gx to ∧ to.length = iL.length + 1 + lL.length + G.length ∧ gx.length ≤ G.length := by
  have i1 := c.r.i1
  have hs := c.sum
  have hl := c.l256
  obtain ⟨gone, s1, s2, s3⟩ := still_f (n := n) c hG hn J0 J1
  have hle := leftN_le (gone := gone) (j := lL.length)
  have ll : (leftI gone lL.length).length = (leftN gone lL.length).length := by simp [leftI]
  have hlen := fixF_len (lL := lL) (gone := gone) iL.length
  obtain ⟨gx, to, h1, h2, h3, h4, h5, h6, h7, -⟩ := made_f (n := n) (ins := ((iL.length + (leftN gone lL.length).length : Nat) : Int)) (A := G) (first := fixF iL.length lL gone) hn (by omega) (by omega) hG (ops_of c.r (by rw [hlen]; omega)) (by rw [hlen]; omega) (fixF_lits _)
  have htl : to.length = iL.length + 1 + lL.length + G.length := by rw [h5, hlen]
  refine ⟨gone, gx, to, s2, s3, ?_, h3, h4, h6, htl, h7⟩
  have hX : IntKind.wrap .i64 ((iL.length : Int) + ((leftI gone lL.length).length : Int)) = ((iL.length + (leftN gone lL.length).length : Nat) : Int) := by rw [ll, wrap_small (by omega) (by omega)]; push_cast; rfl
  unfold cone_Fixed
  rw [s1, bindS, fix_left hl (by omega) s2 hn, bindS]
  simp only
  rw [hX]
  have ha : cone_anew__cone_Fixed_1 n ins G iL lL oL ((iL.length + (leftN gone lL.length).length : Nat) : Int) gone ins G iL lL oL (placeM iL.length gone lL.length) = some (((iL.length + (leftN gone lL.length).length : Nat) : Int), gx, gone, ins, G, iL, lL, oL, placeM iL.length gone lL.length, to, ()) := by
    unfold cone_anew__cone_Fixed_1 aig_New
    rw [bindS, (first_l (by omega) hn).2, bindS]
    simp only
    rw [fix_l hl (by omega) s2 hn, bindS]
    simp only
    rw [h1, bindS]
  rw [ha, bindS]
  simp only
  unfold slices_Clone_3_int_3_int
  rw [ask_of ⟨trivial, by simp; omega⟩, bindS]
  simp only
  rw [fix_lats c s2 h6 (by omega) (by omega) htl hn, bindS]
  simp only
  rw [fix_outs c h6 (by omega) (by omega) htl hn, bindS]
end
abbrev Mk := List (Int × Bool)
def mkd (m : Mk) (v : Int) : Bool := Mi_b_get m v false
theorem mk_same {l : Mk} {k : Int} : mkd (Mi_b_put l k true) k = true := by
  unfold mkd Mi_b_get Mi_b_put
  induction l with
  | nil => simp [mput, mget, eqI]
  | cons p r ih =>
    simp only [mput]
    by_cases c : k = p.1
    · rw [show eqD (.int .i64) k p.1 = true from decide_eq_true c]
      simp [mget, eqI]
    · rw [show eqD (.int .i64) k p.1 = false from decide_eq_false c]
      simp only [mget]
      rw [show eqD (.int .i64) k p.1 = false from decide_eq_false c]
      exact ih
theorem mk_other {l : Mk} {k k' : Int} (h : k' ≠ k) : mkd (Mi_b_put l k true) k' = mkd l k' := by
  unfold mkd Mi_b_get Mi_b_put
  induction l with
  | nil =>
    simp only [mput, mget]
    rw [show eqD (.int .i64) k' k = false from decide_eq_false h]
  | cons p r ih =>
    simp only [mput]
    by_cases c : k = p.1
    · rw [show eqD (.int .i64) k p.1 = true from decide_eq_true c]
      simp only [mget]
      rw [show eqD (.int .i64) k' k = false from decide_eq_false h, show eqD (.int .i64) k' p.1 = false from decide_eq_false (by rw [← c]; exact h)]
    · rw [show eqD (.int .i64) k p.1 = false from decide_eq_false c]
      simp only [mget]
      cases eqD (.int .i64) k' p.1 with
      | true => rfl
      | false => exact ih
theorem has_put {l : List (Int × Int)} {k v z : Int} : Mi_i_has (Mi_i_put l k z) v = (decide (v = k) || Mi_i_has l v) := by
  unfold Mi_i_has Mi_i_put
  induction l with
  | nil => simp [mput, mhas, eqI]
  | cons p r ih =>
    simp only [mput]
    by_cases c : k = p.1
    · rw [show eqD (.int .i64) k p.1 = true from decide_eq_true c]
      simp only [mhas]
      rw [show eqD (.int .i64) v k = decide (v = k) from rfl, show eqD (.int .i64) v p.1 = decide (v = p.1) from rfl, c]
      cases decide (v = p.1) <;> simp
    · rw [show eqD (.int .i64) k p.1 = false from decide_eq_false c]
      simp only [mhas]
      rw [ih]
      cases eqD (.int .i64) v p.1 <;> simp
/-- How many of the first variables aren't marked. -/
def cntU (m : Mk) : Nat → Nat
  | 0 => 0
  | T + 1 => cntU m T + if mkd m (T : Int) = true then 0 else 1
theorem cntU_mono {m m' : Mk} (h : ∀ v, mkd m v = true → mkd m' v = true) : ∀ T, cntU m' T ≤ cntU m T
  | 0 => Nat.le_refl _
  | T + 1 => by
    have := cntU_mono h T
    unfold cntU
    by_cases c : mkd m (T : Int) = true
    · rw [if_pos c, if_pos (h _ c)]; omega
    · rw [if_neg c]; split <;> omega
theorem cntU_put {m : Mk} {v : Nat} (hv : mkd m (v : Int) = false) : ∀ T, v < T → cntU (Mi_b_put m (v : Int) true) T + 1 = cntU m T
  | 0, h => by omega
  | T + 1, h => by
    unfold cntU
    by_cases c : v = T
    · subst c
      rw [if_pos mk_same, hv]
      have : ∀ T', T' ≤ v → cntU (Mi_b_put m (v : Int) true) T' = cntU m T' := by
        intro T'
        induction T' with
        | zero => intro _; rfl
        | succ T' ih =>
          intro h
          unfold cntU
          rw [ih (by omega), mk_other (by omega)]
      rw [this v (Nat.le_refl _)]
      simp
    · have := cntU_put hv T (by omega)
      rw [mk_other (by omega)]
      omega
theorem cntU_le (m : Mk) : ∀ T, cntU m T ≤ T
  | 0 => Nat.le_refl _
  | T + 1 => by
    have := cntU_le m T
    unfold cntU
    split <;> omega
/-- Literals that a variable hangs on at once. -/
def kids (G : List Kii) (iL : List Kiii) (lL : List Kiibii) (v : Int) : List Int := if v ≤ iL.length then [] else if v ≤ (iL.length : Int) + lL.length then [(Kiibii_at lL (v - iL.length - 1)).2.1] else [(Kii_at G (v - iL.length - lL.length - 1)).1, (Kii_at G (v - iL.length - lL.length - 1)).2]
section
variable {n : Nat} {ins : Int} {G : List Kii} {iL oL : List Kiii} {lL : List Kiibii}
/-- What a marking comes to. -/
structure MarkR (G : List Kii) (iL : List Kiii) (lL : List Kiibii) (T : Int) (roots : List Int) (m m' : Mk) : Prop where
  mono : ∀ v, mkd m v = true → mkd m' v = true
  root : ∀ x ∈ roots, mkd m' (x / 2) = true
  new : ∀ v, mkd m' v = true → mkd m v = false → 0 ≤ v ∧ v < T ∧ ∀ y ∈ kids G iL lL v, mkd m' (y / 2) = true
  sound : ∀ S : Int → Prop, (∀ x ∈ roots, S (x / 2)) → (∀ v, S v → ∀ y ∈ kids G iL lL v, S (y / 2)) → ∀ v, mkd m' v = true → mkd m v = true ∨ S v
theorem MarkR.refl {T : Int} {m : Mk} {x : Int} (h : mkd m (x / 2) = true) : MarkR G iL lL T [x] m m := ⟨fun _ h => h, fun y hy => by rw [List.mem_singleton.1 hy]; exact h, fun v h1 h2 => (by rw [h1] at h2; cases h2), fun S _ _ v hv => .inl hv⟩
theorem MarkR.seq {T : Int} {r1 r2 : List Int} {m m1 m2 : Mk} (h1 : MarkR G iL lL T r1 m m1) (h2 : MarkR G iL lL T r2 m1 m2) : MarkR G iL lL T (r1 ++ r2) m m2 := by
  refine ⟨fun v h => h2.mono v (h1.mono v h), fun x hx => ?_, fun v hv hn => ?_, fun S hS hc v hv => ?_⟩
  · rcases List.mem_append.1 hx with hx | hx
    · exact h2.mono _ (h1.root x hx)
    · exact h2.root x hx
  · cases c : mkd m1 v with
    | true =>
      obtain ⟨q0, q1, q2⟩ := h1.new v c hn
      exact ⟨q0, q1, fun y hy => h2.mono _ (q2 y hy)⟩
    | false => exact h2.new v hv c
  · rcases h2.sound S (fun x hx => hS x (List.mem_append_right _ hx)) hc v hv with h | h
    · exact h1.sound S (fun x hx => hS x (List.mem_append_left _ hx)) hc v h
    · exact .inr h
/-- A variable that is marked, and then what it hangs on. -/
theorem MarkR.cons {T : Int} {m m' : Mk} {x : Int} (h0 : 0 ≤ x / 2) (hT : x / 2 < T) (hn : mkd m (x / 2) = false) (h : MarkR G iL lL T (kids G iL lL (x / 2)) (Mi_b_put m (x / 2) true) m') : MarkR G iL lL T [x] m m' := by
  refine ⟨fun v hv => h.mono v ?_, fun y hy => ?_, fun v hv hnv => ?_, fun S hS hc v hv => ?_⟩
  · by_cases c : v = x / 2
    · subst c; exact mk_same
    · rw [mk_other c]; exact hv
  · rw [List.mem_singleton.1 hy]; exact h.mono _ mk_same
  · by_cases c : v = x / 2
    · subst c
      exact ⟨h0, hT, h.root⟩
    · exact h.new v hv (by rw [mk_other c]; exact hnv)
  · have hx := hS x List.mem_cons_self
    rcases h.sound S (fun y hy => hc _ hx y hy) hc v hv with q | q
    · by_cases c : v = x / 2
      · subst c; exact .inr hx
      · rw [mk_other c] at q; exact .inl q
    · exact .inr q
theorem mark_k (c : CircR ins G iL lL oL) (hG : G.length ≤ 15000) (hn : 30000 < n) : ∀ (k : Nat) (x : Int) (m : Mk), 0 ≤ x → x / 2 < ins + 1 + G.length → cntU m (ins.toNat + 1 + G.length) < k → ∃ m', cone_hung_1__cone_hung_1_k n k x ins G iL lL oL m = some (ins, G, iL, lL, oL, m', ()) ∧ MarkR G iL lL (ins + 1 + G.length) [x] m m' := by
  have i0 := c.r.i0
  have i1 := c.r.i1
  have hs := c.sum
  intro k
  induction k with
  | zero => intro x m hx hxl hu; omega
  | succ k ih =>
    intro x m hx hxl hu
    show ∃ m', cone_hung_1__cone_hung_1_b n (cone_hung_1__cone_hung_1_k n k) x ins G iL lL oL m = _ ∧ _
    have ev : IntKind.wrap .i64 (Int.tdiv x 2) = x / 2 := by rw [tdiv2 hx, wrap_small (by omega) (by omega)]
    have e1 : IntKind.wrap .i64 (IntKind.wrap .i64 (x / 2 - (iL.length : Int)) - 1) = x / 2 - iL.length - 1 := by rw [wrap_small (x := x / 2 - _) (by omega) (by omega), wrap_small (by omega) (by omega)]
    have e2 : IntKind.wrap .i64 (IntKind.wrap .i64 (x / 2 - ins) - 1) = x / 2 - ins - 1 := by rw [wrap_small (x := x / 2 - _) (by omega) (by omega), wrap_small (by omega) (by omega)]
    generalize hrec : cone_hung_1__cone_hung_1_k n k = rec_ at ih ⊢
    unfold cone_hung_1__cone_hung_1_b cone_hung_1__cone_hung_1_j1
    simp only [ev, e1, e2]
    rw [ask_of (by decide), ask_of trivial]
    cases hm : Mi_b_get m (x / 2) false with
    | true => exact ⟨m, rfl, .refl hm⟩
    | false =>
      have hm' : mkd m (x / 2) = false := hm
      have exn : ((x / 2).toNat : Int) = x / 2 := by omega
      have hu' : cntU (Mi_b_put m (x / 2) true) (ins.toNat + 1 + G.length) < k := by
        have := cntU_put (m := m) (v := (x / 2).toNat) (by rw [exn]; exact hm') (ins.toNat + 1 + G.length) (by omega)
        rw [exn] at this
        omega
      have fin : ∀ {m'}, MarkR G iL lL (ins + 1 + G.length) (kids G iL lL (x / 2)) (Mi_b_put m (x / 2) true) m' → MarkR G iL lL (ins + 1 + G.length) [x] m m' := fun h => .cons (by omega) hxl hm' h
      simp only [cond_false, cond_dec]
      by_cases c1 : (0 : Int) ≤ x / 2 - iL.length - 1
      · rw [if_pos c1, bindS]
        by_cases c2 : x / 2 - iL.length - 1 < (lL.length : Int)
        · rw [decide_eq_true c2, cond_true, ask_of ⟨c1, c2⟩]
          have ek : kids G iL lL (x / 2) = [(Kiibii_at lL (x / 2 - iL.length - 1)).2.1] := by unfold kids; rw [if_neg (by omega), if_pos (by omega)]
          obtain ⟨-, -, -, cl⟩ := c.l (x / 2 - iL.length - 1).toNat (by omega)
          rw [show (((x / 2 - iL.length - 1).toNat : Nat) : Int) = x / 2 - iL.length - 1 by omega] at cl
          have cl0 := cl.1
          have cl1 := cl.2
          obtain ⟨m', h1, h2⟩ := ih (Kiibii_at lL (x / 2 - iL.length - 1)).2.1 (Mi_b_put m (x / 2) true) cl0 (by omega) hu'
          rw [h1, bindS]
          exact ⟨m', rfl, fin (by rw [ek]; exact h2)⟩
        · rw [decide_eq_false c2, cond_false, if_pos (by omega), ask_of (by omega)]
          have ek : kids G iL lL (x / 2) = [(Kii_at G (x / 2 - ins - 1)).1] ++ [(Kii_at G (x / 2 - ins - 1)).2] := by
            unfold kids
            rw [if_neg (by omega), if_neg (by omega), show x / 2 - (iL.length : Int) - lL.length - 1 = x / 2 - ins - 1 by omega]
            rfl
          have ca := c.r.a (x / 2 - ins - 1).toNat (by omega)
          rw [show (((x / 2 - ins - 1).toNat : Nat) : Int) = x / 2 - ins - 1 by omega] at ca
          obtain ⟨m1, h1, h2⟩ := ih (Kii_at G (x / 2 - ins - 1)).1 (Mi_b_put m (x / 2) true) (by omega) (by omega) hu'
          have hu2 := cntU_mono h2.mono (ins.toNat + 1 + G.length)
          obtain ⟨m2, h3, h4⟩ := ih (Kii_at G (x / 2 - ins - 1)).2 m1 (by omega) (by omega) (by omega)
          rw [ask_of (by decide), h1, bindS, ask_of (by decide)]
          simp only
          rw [h3, bindS]
          exact ⟨m2, rfl, fin (by rw [ek]; exact h2.seq h4)⟩
      · rw [if_neg c1, bindS, cond_false, if_neg (by omega)]
        have ek : kids G iL lL (x / 2) = [] := by unfold kids; rw [if_pos (by omega)]
        refine ⟨_, rfl, fin ?_⟩
        rw [ek]
        exact ⟨fun _ h => h, fun y hy => (by cases hy), fun v h1 h2 => (by rw [h1] at h2; cases h2), fun S _ _ v hv => .inl hv⟩
def numM (m : Mk) : Nat → List (Int × Int)
  | 0 => Mi_i_put [] 0 0
  | j + 1 => if mkd m ((j + 1 : Nat) : Int) = true then Mi_i_put (numM m j) ((j + 1 : Nat) : Int) ((numM m j).length : Int) else numM m j
theorem numM_succ {m : Mk} {j : Nat} : numM m (j + 1) = if mkd m ((j + 1 : Nat) : Int) = true then Mi_i_put (numM m j) ((j + 1 : Nat) : Int) ((numM m j).length : Int) else numM m j := rfl
theorem numM_has {m : Mk} : ∀ {j v : Nat}, 1 ≤ v → Mi_i_has (numM m j) (v : Int) = (decide (v ≤ j) && mkd m (v : Int))
  | 0, v, h => by
    have : Mi_i_has (numM m 0) (v : Int) = (decide ((v : Int) = 0) || Mi_i_has [] (v : Int)) := has_put
    rw [this, decide_eq_false (by omega), decide_eq_false (by omega)]
    rfl
  | j + 1, v, h => by
    rw [numM_succ]
    by_cases c : mkd m ((j + 1 : Nat) : Int) = true
    · rw [if_pos c, has_put, numM_has h]
      by_cases e : v = j + 1
      · subst e; rw [decide_eq_true rfl, decide_eq_true (Nat.le_refl _), c]; rfl
      · rw [decide_eq_false (by omega), Bool.false_or]
        congr 1
        exact decide_eq_decide.2 (by omega)
    · rw [if_neg c, numM_has h]
      by_cases e : v = j + 1
      · subst e
        rw [decide_eq_false (by omega), decide_eq_true (Nat.le_refl _)]
        cases q : mkd m ((j + 1 : Nat) : Int) with
        | true => exact absurd q c
        | false => rfl
      · congr 1
        exact decide_eq_decide.2 (by omega)
/-- All that some literals hang on. -/
theorem hung_f (c : CircR ins G iL lL oL) (hG : G.length ≤ 15000) (hn : 30000 < n) {lits : List Int} (hl : lits.length ≤ 5000) (hx : ∀ j : Nat, j < lits.length → LitG ins G (Ki_at lits (j : Int))) : ∃ m, cone_hung_o n ins G iL lL oL lits = some (ins, G, iL, lL, oL, numM m (ins.toNat + G.length), ()) ∧ MarkR G iL lL (ins + 1 + G.length) lits (Mi_b_put [] 0 true) m := by
  have i0 := c.r.i0
  have i1 := c.r.i1
  have hs := c.sum
  have h1 : ∀ (d j f : Nat) (m : Mk), j + d = lits.length → d < f → MarkR G iL lL (ins + 1 + G.length) (lits.take j) (Mi_b_put [] 0 true) m → ∃ m', iter (cone_hung_o_l1b n lits) f ((j : Int), ins, G, iL, lL, oL, m, ()) = some (ins, G, iL, lL, oL, m', ()) ∧ MarkR G iL lL (ins + 1 + G.length) lits (Mi_b_put [] 0 true) m' := by
    intro d
    induction d with
    | zero =>
      intro j f m hj hf hm
      obtain ⟨f, rfl⟩ : ∃ k, f = k + 1 := ⟨f - 1, by omega⟩
      refine ⟨m, ?_, by rw [List.take_of_length_le (by omega)] at hm; exact hm⟩
      rw [iter_s]
      unfold cone_hung_o_l1b
      simp only [cond_dec]
      rw [if_neg (by omega)]
    | succ d ih =>
      intro j f m hj hf hm
      obtain ⟨f, rfl⟩ : ∃ k, f = k + 1 := ⟨f - 1, by omega⟩
      have hxj := hx j (by omega)
      have x0 := hxj.1
      have x1 := hxj.2
      obtain ⟨m1, k1, k2⟩ := mark_k (n := n) c hG hn n (Ki_at lits (j : Int)) m x0 (by omega) (by have := cntU_le m (ins.toNat + 1 + G.length); omega)
      obtain ⟨m2, k3, k4⟩ := ih (j + 1) f m1 (by omega) (by omega) (by
        rw [show lits.take (j + 1) = lits.take j ++ [Ki_at lits (j : Int)] from takeS (t := i_) (by omega)]
        exact hm.seq k2)
      refine ⟨m2, ?_, k4⟩
      rw [iter_s, ← k3]
      generalize iter (cone_hung_o_l1b n lits) f = self
      unfold cone_hung_o_l1b cone_hung_1__cone_hung_1
      simp only [cond_dec]
      rw [if_pos (by omega), ask_of (by omega), k1, bindS, succ64 (by omega)]
  obtain ⟨m, k1, k2⟩ := h1 lits.length 0 n (Mi_b_put [] 0 true) (by omega) (by omega) ⟨fun _ h => h, fun y hy => by simp at hy, fun v h1 h2 => (by rw [h1] at h2; cases h2), fun S _ _ v hv => .inl hv⟩
  have h2 := iter_up (F := cone_hung_o_l2b n (ins, G, iL, lL, oL, m, ())) (fun j => (((j + 1 : Nat) : Int), ins, G, iL, lL, oL, numM m j, ())) (ins, G, iL, lL, oL, numM m (ins.toNat + G.length), ()) (len := ins.toNat + G.length) (m := n)
    (fun self j hj => by
      unfold cone_hung_o_l2b
      simp only [cond_dec]
      rw [if_pos (by rw [wrap_small (by omega) (by omega)]; omega), ask_of trivial, succ64 (by omega), numM_succ]
      show cond (mkd m ((j + 1 : Nat) : Int)) _ _ = _
      cases mkd m ((j + 1 : Nat) : Int) <;> rfl)
    (fun self => by
      unfold cone_hung_o_l2b
      simp only [cond_dec]
      rw [if_neg (by rw [wrap_small (by omega) (by omega)]; omega)]) (by omega)
  refine ⟨m, ?_, k2⟩
  unfold cone_hung_o cone_hung_o_l1 cone_hung_o_l2
  rw [show iter (cone_hung_o_l1b n lits) n (0, ins, G, iL, lL, oL, Mi_b_put [] 0 true, ()) = _ from k1, bindS, show iter (cone_hung_o_l2b n (ins, G, iL, lL, oL, m, ())) n (1, ins, G, iL, lL, oL, Mi_i_put [] 0 0, ()) = _ from h2]
  rfl
end
/-- Those of the first numbers that are so, in order. -/
def pickN (p : Nat → Bool) (j : Nat) : List Nat := (List.range j).filter p
theorem pickN_succ {p : Nat → Bool} {j : Nat} : pickN p (j + 1) = pickN p j ++ (if p j = true then [j] else []) := by
  unfold pickN
  rw [List.range_succ, List.filter_append]
  congr 1
  cases h : p j <;> simp [h]
theorem pickN_le {p : Nat → Bool} {j : Nat} : (pickN p j).length ≤ j := by
  unfold pickN
  exact Nat.le_trans (List.length_filter_le _ _) (by simp)
theorem pickN_mem {p : Nat → Bool} {j i : Nat} : i ∈ pickN p j ↔ i < j ∧ p i = true := by
  unfold pickN
  rw [List.mem_filter, List.mem_range]
theorem pickN_lt {p : Nat → Bool} {j a b x y : Nat} (h : a < b) (ha : (pickN p j)[a]? = some x) (hb : (pickN p j)[b]? = some y) : x < y := by
  have hp : (pickN p j).Pairwise (· < ·) := List.pairwise_lt_range.sublist List.filter_sublist
  obtain ⟨a1, a2⟩ := List.getElem?_eq_some_iff.1 ha
  obtain ⟨b1, b2⟩ := List.getElem?_eq_some_iff.1 hb
  rw [← a2, ← b2]
  exact List.pairwise_iff_getElem.1 hp a b a1 b1 h
theorem eqM_self (l : List (Int × Int)) : eqM i_ i_ l l = true := eqL_self (f := fun p q : Int × Int => eqT i_ p.1 q.1 && eqT i_ p.2 q.2) (fun a => by simp [eqT]) l
/-- A literal, by new numbers. -/
def litN (num : List (Int × Int)) (x : Int) : Int := IntKind.wrap .i64 ((IntKind.wrap .i64 ((2 : Int) * (Mi_i_get num (IntKind.wrap .i64 (Int.tdiv x 2)) 0))) + (bits .and .i64 x 1))
def keepI (num : List (Int × Int)) (iL : List Kiii) (l : List Nat) : List Kiii := l.map fun i : Nat => (Mi_i_get num (Kiii_at iL (i : Int)).1 0, (Kiii_at iL (i : Int)).2.1, (Kiii_at iL (i : Int)).2.2)
def keepL (num : List (Int × Int)) (lL : List Kiibii) (l : List Nat) : List Kiibii := l.map fun i : Nat => (Mi_i_get num (Kiibii_at lL (i : Int)).1 0, litN num (Kiibii_at lL (i : Int)).2.1, (Kiibii_at lL (i : Int)).2.2.1, (Kiibii_at lL (i : Int)).2.2.2.1, (Kiibii_at lL (i : Int)).2.2.2.2)
def keepA (num : List (Int × Int)) (G : List Kii) (l : List Nat) : List Kii := l.map fun i : Nat => (litN num (Kii_at G (i : Int)).1, litN num (Kii_at G (i : Int)).2)
def keepO (num : List (Int × Int)) (oL : List Kiii) : List Kiii := (List.range oL.length).map fun j : Nat => ((Kiii_at oL (j : Int)).1, litN num (Kiii_at oL (j : Int)).2.1, (Kiii_at oL (j : Int)).2.2)
def natI (l : List Nat) : List Int := l.map fun i : Nat => (i : Int)
/-- A property's Outs: it, and all others that are assumed. -/
def selO (oL : List Kiii) (q : Nat) : List Kiii := Kiii_at oL (q : Int) :: (pickN (fun j => decide (j ≠ q) && decide ((Kiii_at oL (j : Int)).1 = 9)) oL.length).map fun j : Nat => Kiii_at oL (j : Int)
section
variable {n : Nat} {ins : Int} {G : List Kii} {iL oL sO : List Kiii} {lL : List Kiibii} {num : List (Int × Int)}
theorem lit_f {x : Int} : cone_parts_lit n ins G iL lL oL x num = some (litN num x, num, ()) := by
  unfold cone_parts_lit
  rw [ask_of (by decide), ask_of trivial]
  rfl
theorem has_f {v : Int} : cone_parts_has n ins G iL lL oL v num = some (Mi_i_has num v, num, ()) := rfl
theorem keep_f (hi0 : 0 ≤ ins) (hi1 : ins ≤ 5000) (hi : iL.length ≤ 5000) (hl : lL.length ≤ 5000) (hG : G.length ≤ 20000) (ho : sO.length ≤ 5000) (hn : 30000 < n) :
    cone_parts_keep_o n ins G iL lL oL sO num = some ((((pickN (fun j => Mi_i_has num (Kiii_at iL (j : Int)).1) iL.length).length + (pickN (fun j => Mi_i_has num (Kiibii_at lL (j : Int)).1) lL.length).length : Nat) : Int), num, keepA num G (pickN (fun k => Mi_i_has num (ins + k + 1)) G.length), keepI num iL (pickN (fun j => Mi_i_has num (Kiii_at iL (j : Int)).1) iL.length), keepL num lL (pickN (fun j => Mi_i_has num (Kiibii_at lL (j : Int)).1) lL.length), keepO num sO, natI (pickN (fun j => Mi_i_has num (Kiibii_at lL (j : Int)).1) lL.length), ()) := by
  have h1 := iter_up (F := cone_parts_keep_o_l1b n iL) (fun j => ((j : Int), num, ins, G, iL, lL, oL, 0, keepI num iL (pickN (fun j => Mi_i_has num (Kiii_at iL (j : Int)).1) j), ())) (num, ins, G, iL, lL, oL, 0, keepI num iL (pickN (fun j => Mi_i_has num (Kiii_at iL (j : Int)).1) iL.length), ()) (len := iL.length) (m := n)
    (fun self j hj => by
      have hle := pickN_le (p := fun j => Mi_i_has num (Kiii_at iL (j : Int)).1) (j := j)
      have e : keepI num iL (pickN (fun j => Mi_i_has num (Kiii_at iL (j : Int)).1) (j + 1)) = keepI num iL (pickN (fun j => Mi_i_has num (Kiii_at iL (j : Int)).1) j) ++ (if Mi_i_has num (Kiii_at iL (j : Int)).1 = true then [(Mi_i_get num (Kiii_at iL (j : Int)).1 0, (Kiii_at iL (j : Int)).2.1, (Kiii_at iL (j : Int)).2.2)] else []) := by
        unfold keepI
        rw [pickN_succ, List.map_append]
        congr 1
        split <;> rfl
      unfold cone_parts_keep_o_l1b
      simp only [cond_dec]
      rw [if_pos (by omega), ask_of (by omega), ask_of (by decide), has_f, bindS, e, succ64 (by omega)]
      simp only
      cases Mi_i_has num (Kiii_at iL (j : Int)).1 with
      | true =>
        simp only [cond_true, if_true]
        rw [ask_of (by decide), ask_of trivial, ask_of (by decide), ask_of (by decide), ask_of ⟨trivial, by simp [keepI]; omega⟩]
      | false => simp)
    (fun self => by
      unfold cone_parts_keep_o_l1b
      simp only [cond_dec]
      rw [if_neg (by omega)]) (by omega)
  have h2 := fun d13 => fun (hd : d13 = (num, ins, G, iL, lL, oL, 0, keepI num iL (pickN (fun j => Mi_i_has num (Kiii_at iL (j : Int)).1) iL.length), ())) => iter_up (F := cone_parts_keep_o_l2b n d13) (fun j => ((j : Int), num, ins, G, iL, lL, oL, 0, natI (pickN (fun j => Mi_i_has num (Kiibii_at lL (j : Int)).1) j), keepL num lL (pickN (fun j => Mi_i_has num (Kiibii_at lL (j : Int)).1) j), ())) (num, ins, G, iL, lL, oL, 0, natI (pickN (fun j => Mi_i_has num (Kiibii_at lL (j : Int)).1) lL.length), keepL num lL (pickN (fun j => Mi_i_has num (Kiibii_at lL (j : Int)).1) lL.length), ()) (len := lL.length) (m := n)
    (fun self j hj => by
      subst hd
      have hle := pickN_le (p := fun j => Mi_i_has num (Kiibii_at lL (j : Int)).1) (j := j)
      have e : keepL num lL (pickN (fun j => Mi_i_has num (Kiibii_at lL (j : Int)).1) (j + 1)) = keepL num lL (pickN (fun j => Mi_i_has num (Kiibii_at lL (j : Int)).1) j) ++ (if Mi_i_has num (Kiibii_at lL (j : Int)).1 = true then [(Mi_i_get num (Kiibii_at lL (j : Int)).1 0, litN num (Kiibii_at lL (j : Int)).2.1, (Kiibii_at lL (j : Int)).2.2.1, (Kiibii_at lL (j : Int)).2.2.2.1, (Kiibii_at lL (j : Int)).2.2.2.2)] else []) := by
        unfold keepL
        rw [pickN_succ, List.map_append]
        congr 1
        split <;> rfl
      have e2 : natI (pickN (fun j => Mi_i_has num (Kiibii_at lL (j : Int)).1) (j + 1)) = natI (pickN (fun j => Mi_i_has num (Kiibii_at lL (j : Int)).1) j) ++ (if Mi_i_has num (Kiibii_at lL (j : Int)).1 = true then [(j : Int)] else []) := by
        unfold natI
        rw [pickN_succ, List.map_append]
        congr 1
        split <;> rfl
      unfold cone_parts_keep_o_l2b
      simp only [cond_dec]
      rw [if_pos (by omega), ask_of (by omega), has_f, bindS, e, e2, succ64 (by omega)]
      simp only
      cases Mi_i_has num (Kiibii_at lL (j : Int)).1 with
      | true =>
        simp only [cond_true, if_true]
        rw [ask_of trivial, lit_f, bindS, ask_of (eqM_self num), ask_of ⟨trivial, by simp [keepL]; omega⟩, ask_of ⟨trivial, by simp [natI]; omega⟩]
      | false => simp)
    (fun self => by
      subst hd
      unfold cone_parts_keep_o_l2b
      simp only [cond_dec]
      rw [if_neg (by omega)]) (by omega)
  have h3 := fun (d20 : List (Int × Int) × Int × List Kii × List Kiii × List Kiibii × List Kiii × Int × List Int × List Kiibii × Unit) (y : Int) => fun (hd : d20.2.2.1 = G) => iter_up (F := cone_parts_keep_o_l3b n d20) (fun j => ((j : Int), num, ins, G, iL, lL, oL, y, keepA num G (pickN (fun k => Mi_i_has num (ins + k + 1)) j), ())) (num, ins, G, iL, lL, oL, y, keepA num G (pickN (fun k => Mi_i_has num (ins + k + 1)) G.length), ()) (len := G.length) (m := n)
    (fun self j hj => by
      have hle := pickN_le (p := fun k => Mi_i_has num (ins + k + 1)) (j := j)
      have e : keepA num G (pickN (fun k => Mi_i_has num (ins + k + 1)) (j + 1)) = keepA num G (pickN (fun k => Mi_i_has num (ins + k + 1)) j) ++ (if Mi_i_has num (ins + j + 1) = true then [(litN num (Kii_at G (j : Int)).1, litN num (Kii_at G (j : Int)).2)] else []) := by
        unfold keepA
        rw [pickN_succ, List.map_append]
        congr 1
        split <;> rfl
      unfold cone_parts_keep_o_l3b
      simp only [cond_dec, hd]
      rw [if_pos (by omega), ask_of (by omega), wrap_small (x := ins + _) (by omega) (by omega), wrap_small (x := ins + (j : Int) + 1) (by omega) (by omega), has_f, bindS, e, succ64 (by omega)]
      simp only
      cases Mi_i_has num (ins + j + 1) with
      | true =>
        simp only [cond_true, if_true]
        rw [ask_of (by decide), lit_f, bindS, ask_of (eqM_self num), ask_of (by decide), lit_f, bindS, ask_of (eqM_self num), ask_of ⟨trivial, by simp [keepA]; omega⟩]
      | false => simp)
    (fun self => by
      unfold cone_parts_keep_o_l3b
      simp only [cond_dec, hd]
      rw [if_neg (by omega)]) (by omega)
  have h4 := fun (y : Int) => iter_up (F := cone_parts_keep_o_l4b n sO) (fun j => ((j : Int), num, ins, G, iL, lL, oL, y, (List.range j).map (fun j : Nat => ((Kiii_at sO (j : Int)).1, litN num (Kiii_at sO (j : Int)).2.1, (Kiii_at sO (j : Int)).2.2)), ())) (num, y, keepO num sO, ()) (len := sO.length) (m := n)
    (fun self j hj => by
      unfold cone_parts_keep_o_l4b
      simp only [cond_dec]
      rw [if_pos (by omega), ask_of (by omega), lit_f, bindS, ask_of ⟨trivial, by simp; omega⟩, succ64 (by omega), range_app (g := fun j : Nat => (((Kiii_at sO (j : Int)).1, litN num (Kiii_at sO (j : Int)).2.1, (Kiii_at sO (j : Int)).2.2) : Kiii))])
    (fun self => by
      unfold cone_parts_keep_o_l4b
      simp only [cond_dec]
      rw [if_neg (by omega)]
      rfl) (by omega)
  unfold cone_parts_keep_o cone_parts_keep_o_l1 cone_parts_keep_o_l2 cone_parts_keep_o_l3 cone_parts_keep_o_l4
  rw [show iter (cone_parts_keep_o_l1b n iL) n (0, num, ins, G, iL, lL, oL, 0, [], ()) = _ from h1, bindS]
  simp only
  rw [show iter (cone_parts_keep_o_l2b n _) n (0, num, ins, G, iL, lL, oL, 0, [], [], ()) = _ from h2 _ rfl, bindS]
  simp only
  rw [show iter (cone_parts_keep_o_l3b n _) n (0, num, ins, G, iL, lL, oL, _, [], ()) = _ from h3 _ _ rfl, bindS]
  simp only
  rw [show iter (cone_parts_keep_o_l4b n sO) n (0, num, ins, G, iL, lL, oL, _, [], ()) = _ from h4 _, bindS]
  have k1 := pickN_le (p := fun j => Mi_i_has num (Kiii_at iL (j : Int)).1) (j := iL.length)
  have k2 := pickN_le (p := fun j => Mi_i_has num (Kiibii_at lL (j : Int)).1) (j := lL.length)
  simp only
  rw [keepI, keepL, List.length_map, List.length_map, wrap_small (by omega) (by omega), Int.natCast_add]
/-- Which latches a property hangs on. -/
def conL (m : Mk) (lL : List Kiibii) : List Nat := pickN (fun j => mkd m (Kiibii_at lL (j : Int)).1) lL.length
theorem pickN_congr {p q : Nat → Bool} {j : Nat} (h : ∀ i, i < j → p i = q i) : pickN p j = pickN q j := by
  unfold pickN
  exact List.filter_congr fun i hi => h i (List.mem_range.1 hi)
theorem cone1_f (c : CircR ins G iL lL oL) (hG : G.length ≤ 15000) (hn : 30000 < n) {q : Nat} (hq : q < oL.length) : ∃ (m : Mk), cone_Cone n ins G iL lL oL (q : Int) = some ((((pickN (fun j => Mi_i_has (numM m (ins.toNat + G.length)) (Kiii_at iL (j : Int)).1) iL.length).length + (conL m lL).length : Nat) : Int), keepA (numM m (ins.toNat + G.length)) G (pickN (fun k => Mi_i_has (numM m (ins.toNat + G.length)) (ins + k + 1)) G.length), keepI (numM m (ins.toNat + G.length)) iL (pickN (fun j => Mi_i_has (numM m (ins.toNat + G.length)) (Kiii_at iL (j : Int)).1) iL.length), keepL (numM m (ins.toNat + G.length)) lL (conL m lL), keepO (numM m (ins.toNat + G.length)) (selO oL q), natI (conL m lL), ()) ∧ MarkR G iL lL (ins + 1 + G.length) ((selO oL q).map (·.2.1)) (Mi_b_put [] 0 true) m := by
  have i0 := c.r.i0
  have i1 := c.r.i1
  have hs := c.sum
  have l256 := c.l256
  have ho := c.o1000
  have h1 := iter_up (F := cone_Cone_l1b n oL (q : Int)) (fun j => ((j : Int), Kiii_at oL (q : Int) :: (pickN (fun j => decide (j ≠ q) && decide ((Kiii_at oL (j : Int)).1 = 9)) j).map (fun j : Nat => Kiii_at oL (j : Int)), ())) (selO oL q, ()) (len := oL.length) (m := n)
    (fun self j hj => by
      have hle := pickN_le (p := fun j => decide (j ≠ q) && decide ((Kiii_at oL (j : Int)).1 = 9)) (j := j)
      unfold cone_Cone_l1b
      simp only [cond_dec]
      rw [if_pos (by omega), ask_of (by omega), pickN_succ, List.map_append, succ64 (by omega)]
      by_cases c1 : j = q
      · rw [if_neg (by omega), bindS]
        simp [c1]
      · rw [if_pos (by omega), bindS]
        by_cases c2 : (Kiii_at oL (j : Int)).1 = 9
        · simp only [c2, decide_true, cond_true]
          rw [ask_of ⟨trivial, by simp only [List.length_cons, List.length_map, List.length_append, List.length_nil]; omega⟩]
          simp [c1, c2]
          rw [← c2]
        · simp [c1, c2])
    (fun self => by
      unfold cone_Cone_l1b
      simp only [cond_dec]
      rw [if_neg (by omega)]
      rfl) (by omega)
  have hsl : (selO oL q).length ≤ 1001 := by
    have := pickN_le (p := fun j => decide (j ≠ q) && decide ((Kiii_at oL (j : Int)).1 = 9)) (j := oL.length)
    simp only [selO, List.length_cons, List.length_map]
    omega
  have h2 := iter_up (F := cone_Cone_l2b n (selO oL q, ())) (fun j => ((j : Int), (List.range j).map (fun j : Nat => (Kiii_at (selO oL q) (j : Int)).2.1), ())) ((selO oL q).map (·.2.1), ()) (len := (selO oL q).length) (m := n)
    (fun self j hj => by
      unfold cone_Cone_l2b
      simp only [cond_dec]
      rw [if_pos (by omega), ask_of (by omega), ask_of ⟨trivial, by simp; omega⟩, succ64 (by omega), range_app (g := fun j : Nat => (Kiii_at (selO oL q) (j : Int)).2.1)])
    (fun self => by
      unfold cone_Cone_l2b
      simp only [cond_dec]
      rw [if_neg (by omega)]
      congr 2
      refine List.ext_getElem (by simp) fun j h1 h2 => ?_
      simp only [List.length_map, List.length_range] at h1
      simp only [List.getElem_map, List.getElem_range]
      rw [show Kiii_at (selO oL q) (j : Int) = (selO oL q)[j] from at_nat (t := Kiii_) h1]) (by omega)
  have hmem : ∀ x ∈ selO oL q, ∃ j : Nat, j < oL.length ∧ x = Kiii_at oL (j : Int) := fun x hx => by
    rcases List.mem_cons.1 hx with rfl | hx
    · exact ⟨q, hq, rfl⟩
    · obtain ⟨j, hj, rfl⟩ := List.mem_map.1 hx
      exact ⟨j, (pickN_mem.1 hj).1, rfl⟩
  obtain ⟨m, k1, k2⟩ := hung_f (n := n) c hG hn (lits := (selO oL q).map (·.2.1)) (by simp; omega) (fun j hj => by
    simp only [List.length_map] at hj
    rw [show Ki_at ((selO oL q).map (·.2.1)) (j : Int) = _ from at_nat (t := i_) (by simpa using hj), List.getElem_map]
    obtain ⟨j', hj', e⟩ := hmem _ (List.getElem_mem hj)
    rw [e]
    exact (c.o j' hj').2.2.2)
  have k3 := keep_f (n := n) (ins := ins) (G := G) (iL := iL) (lL := lL) (oL := oL) (sO := selO oL q) (num := numM m (ins.toNat + G.length)) i0 i1 (by omega) (by omega) (by omega) (by omega) hn
  have ec : pickN (fun j => Mi_i_has (numM m (ins.toNat + G.length)) (Kiibii_at lL (j : Int)).1) lL.length = conL m lL := pickN_congr fun j hj => by
    obtain ⟨v, -⟩ := c.l j hj
    have : (Kiibii_at lL (j : Int)).1 = ((iL.length + j + 1 : Nat) : Int) := by omega
    rw [this, numM_has (by omega), decide_eq_true (by omega)]
    rfl
  rw [ec] at k3
  refine ⟨m, ?_, k2⟩
  unfold cone_Cone cone_Cone_l1 cone_Cone_l2
  rw [ask_of (by omega), show iter (cone_Cone_l1b n oL (q : Int)) n (0, ([((Kiii_at oL (q : Int)).1, ((Kiii_at oL (q : Int)).2).1, ((Kiii_at oL (q : Int)).2).2)] : List Kiii), ()) = _ from h1, bindS, show iter (cone_Cone_l2b n (selO oL q, ())) n (0, [], ()) = _ from h2, bindS]
  simp only
  rw [k1, bindS]
  simp only
  rw [k3, bindS]
theorem cone_f (c : CircR ins G iL lL oL) (hG : G.length ≤ 15000) (hn : 30000 < n) {q : Nat} (hq : q < oL.length) : ∃ (m : Mk) (num : List (Int × Int)) (z : Int) (a : List Kii) (i : List Kiii), cone_Cone n ins G iL lL oL (q : Int) = some (z, a, i, keepL num lL (conL m lL), keepO num (selO oL q), natI (conL m lL), ()) ∧ a.length ≤ G.length ∧ i.length ≤ iL.length ∧ MarkR G iL lL (ins + 1 + G.length) ((selO oL q).map (·.2.1)) (Mi_b_put [] 0 true) m := by
  obtain ⟨m, h, hm⟩ := cone1_f (n := n) c hG hn hq
  exact ⟨m, _, _, _, _, h, by rw [keepA, List.length_map]; exact pickN_le, by rw [keepI, List.length_map]; exact pickN_le, hm⟩
end
section
variable {n : Nat} {ins : Int} {g G : List Kii} {iL oL : List Kiii} {lL zL : List Kiibii}
theorem natI_at {l : List Nat} {k : Nat} (h : k < l.length) : Ki_at (natI l) (k : Int) = (l.getD k 0 : Nat) := by
  unfold natI
  rw [show Ki_at (l.map fun i : Nat => (i : Int)) (k : Int) = _ from at_nat (t := i_) (by simpa using h), List.getElem_map]
  simp [List.getD, h]
/-- A place in a list. -/
theorem place_f {x : Int} {m : Nat} (h0 : 0 ≤ x) (h1 : x ≤ 255) (hm : 0 < m) : ∃ q : Nat, law16_place n x (m : Int) = some ((q : Int), ()) ∧ q < m := by
  have hx : (if (m : Int) > 1 then (m : Int) else 1) = (m : Int) := by split <;> omega
  unfold law16_place
  rw [ask_of trivial, hx, ask_of (by omega), wrap_small (by omega) (by omega), Int.tmod_eq_emod_of_nonneg h0]
  have a := Int.emod_nonneg x (b := (m : Int)) (by omega)
  have b := Int.emod_lt_of_pos x (b := (m : Int)) (by omega)
  exact ⟨(x % (m : Int)).toNat, by rw [Int.toNat_of_nonneg a], by omega⟩
/-- Not too great for this chapter. -/
theorem great16_f {N : List Nd} {I : List Pn} {C : List Cl} {P : List Pw} {Q : List Pn} (hn : 30000 < n) : ∃ b : Bool, law16_Great n N I C P Q = some (b, ()) ∧ (b = false → Small N I C P Q ∧ RightP N I C P Q ∧ wts N N.length ≤ 1000) := by
  obtain ⟨g, hg, hs⟩ := great_f (n := n) (N := N) (I := I) (C := C) (P := P) (Q := Q)
  unfold law16_Great
  rw [hg, bindS]
  cases g with
  | true => exact ⟨true, rfl, fun h => by cases h⟩
  | false =>
  have s := hs rfl
  obtain ⟨b, hb, hr⟩ := right_f s (n := n) (by omega)
  simp only [cond_false, hb, bindS]
  cases b with
  | false => exact ⟨true, rfl, fun h => by cases h⟩
  | true =>
  have r := hr.1 rfl
  simp only [Bool.not_true, cond_false, cond_dec]
  by_cases c1 : (100 : Int) < (N.length : Int)
  · exact ⟨true, by rw [if_pos c1], fun h => by cases h⟩
  rw [if_neg c1]
  by_cases c2 : (16 : Int) < (C.length : Int)
  · exact ⟨true, by rw [if_pos c2], fun h => by cases h⟩
  rw [if_neg c2, weight15_f s r hn, bindS]
  refine ⟨_, rfl, fun h => ⟨s, r, ?_⟩⟩
  have := of_decide_eq_false h
  omega
end
theorem lex_trans {a b c d e f : Int} (h : lex a b c d) (h2 : lex c d e f) : lex a b e f := by
  unfold lex at *
  omega
section
variable {n : Nat} {ins X : Int} {G gx : List Kii} {iL oL : List Kiii} {lL : List Kiibii} {gone : List Bool} {to : List Int} {m mx : Mk}
theorem leftN_get {L k : Nat} (hk : k < (leftN gone L).length) : (leftN gone L)[k]? = some ((leftN gone L).getD k 0) := by simp [List.getD, hk]
theorem leftN_bnd {L k : Nat} (hk : k < (leftN gone L).length) : (leftN gone L).getD k 0 < L ∧ Kb_at gone ((leftN gone L).getD k 0 : Nat) = false ∧ (leftN gone ((leftN gone L).getD k 0)).length = k := leftN_at (leftN_get hk)
theorem leftN_lt {L k : Nat} (hk : k + 1 < (leftN gone L).length) : (leftN gone L).getD k 0 < (leftN gone L).getD (k + 1) 0 := by
  obtain ⟨-, -, h1⟩ := leftN_bnd (gone := gone) (L := L) (k := k) (by omega)
  obtain ⟨-, -, h2⟩ := leftN_bnd (gone := gone) (L := L) (k := k + 1) hk
  rcases Nat.lt_or_ge ((leftN gone L).getD k 0) ((leftN gone L).getD (k + 1) 0) with h | h
  · exact h
  · have := leftN_mono (gone := gone) h
    omega
theorem latX_len {mm : Nat} {l : List Nat} : (latX mm lL to l).length = l.length := by simp [latX]
theorem outX_len : (outX oL to).length = oL.length := by simp [outX]
theorem latX_at {mm k : Nat} {l : List Nat} (h : k < l.length) : Kiibii_at (latX mm lL to l) (k : Int) = (((mm + k + 1 : Nat) : Int), litT to (Kiibii_at lL ((l.getD k 0 : Nat) : Int)).2.1, (Kiibii_at lL ((l.getD k 0 : Nat) : Int)).2.2.1, (Kiibii_at lL ((l.getD k 0 : Nat) : Int)).2.2.2.1, (Kiibii_at lL ((l.getD k 0 : Nat) : Int)).2.2.2.2) := by
  unfold latX
  exact at_range (t := Kiibii_) (g := fun k : Nat => (((mm + k + 1 : Nat) : Int), litT to (Kiibii_at lL ((l.getD k 0 : Nat) : Int)).2.1, (Kiibii_at lL ((l.getD k 0 : Nat) : Int)).2.2.1, (Kiibii_at lL ((l.getD k 0 : Nat) : Int)).2.2.2.1, (Kiibii_at lL ((l.getD k 0 : Nat) : Int)).2.2.2.2)) h
theorem outX_at {j : Nat} (h : j < oL.length) : Kiii_at (outX oL to) (j : Int) = ((Kiii_at oL (j : Int)).1, litT to (Kiii_at oL (j : Int)).2.1, (Kiii_at oL (j : Int)).2.2) := by
  unfold outX
  exact at_range (t := Kiii_) (g := fun j : Nat => ((Kiii_at oL (j : Int)).1, litT to (Kiii_at oL (j : Int)).2.1, (Kiii_at oL (j : Int)).2.2)) h
theorem lats_lex (c : CircR ins G iL lL oL) {i j : Nat} (h : i < j) (hj : j < lL.length) : lex (Kiibii_at lL (i : Int)).2.2.2.1 (Kiibii_at lL (i : Int)).2.2.2.2 (Kiibii_at lL (j : Int)).2.2.2.1 (Kiibii_at lL (j : Int)).2.2.2.2 := by
  induction j with
  | zero => omega
  | succ j ih =>
    have h1 := c.lp j hj
    by_cases e : i = j
    · subst e; exact h1
    · exact lex_trans (ih (by omega) (by omega)) h1
/-- What is left is right. -/
theorem fix_right (c : CircR ins G iL lL oL) (hX : X = ((iL.length + (leftN gone lL.length).length : Nat) : Int)) (r : RG X gx) (hv : LitsV X gx to) (htl : to.length = iL.length + 1 + lL.length + G.length) : CircR X gx iL (latX iL.length lL to (leftN gone lL.length)) (outX oL to) := by
  have i0 := c.r.i0
  have hs := c.sum
  have hle := leftN_le (gone := gone) (j := lL.length)
  refine ⟨r, by rw [latX_len, hX]; omega, by rw [latX_len]; have := c.l256; omega, by rw [outX_len]; exact c.o1000, c.i, c.ip, fun j hj => ?_, fun j hj => ?_, fun j hj => ?_⟩
  · rw [latX_len] at hj
    obtain ⟨b1, -, -⟩ := leftN_bnd hj
    obtain ⟨q1, q2, q3, q4⟩ := c.l _ b1
    have := q4.1
    have := q4.2
    rw [latX_at hj]
    exact ⟨by simp only; omega, q2, q3, litT_ok r hv q4.1 (by omega)⟩
  · rw [latX_len] at hj
    rw [latX_at hj, latX_at (by omega)]
    exact lats_lex c (leftN_lt hj) (leftN_bnd hj).1
  · rw [outX_len] at hj
    obtain ⟨q1, q2, q3, q4⟩ := c.o j hj
    have := q4.1
    have := q4.2
    rw [outX_at hj]
    exact ⟨q1, q2, q3, litT_ok r hv q4.1 (by omega)⟩
theorem first_mk {v : Int} (h : v ≠ 0) : mkd (Mi_b_put [] 0 true) v = false := by rw [mk_other h]; rfl
theorem litT_div {x : Int} : litT to x / 2 = Ki_at to (x / 2) / 2 := by
  unfold litT
  split
  · exact turn_div _
  · rfl
/-- A mark of what Fixed leaves is a mark of what there was. -/
theorem mark_fix (c : CircR ins G iL lL oL) (hX : X = ((iL.length + (leftN gone lL.length).length : Nat) : Int)) (hM : Made X (fixF iL.length lL gone) G gx to) (r : RG X gx) (hv : LitsV X gx to) (htl : to.length = iL.length + 1 + lL.length + G.length) {q : Nat} (hq : q < oL.length) (h : MarkR G iL lL (ins + 1 + G.length) ((selO oL q).map (·.2.1)) (Mi_b_put [] 0 true) m) (hx : MarkR gx iL (latX iL.length lL to (leftN gone lL.length)) (X + 1 + gx.length) ((selO (outX oL to) q).map (·.2.1)) (Mi_b_put [] 0 true) mx) {k : Nat} (hk : k < (leftN gone lL.length).length) (hm : mkd mx ((iL.length + k + 1 : Nat) : Int) = true) : mkd m ((iL.length + (leftN gone lL.length).getD k 0 + 1 : Nat) : Int) = true := by
  have i0 := c.r.i0
  have hs := c.sum
  have hfl := fixF_len (lL := lL) (gone := gone) iL.length
  obtain ⟨D, hD⟩ : ∃ D : List Bool, D = (List.range (ins.toNat + 1 + G.length)).map fun v : Nat => mkd m (v : Int) := ⟨_, rfl⟩
  obtain ⟨B, hB⟩ : ∃ B : List Bool, B = (List.range (X.toNat + 1)).map fun v : Nat => if v ≤ iL.length then true else mkd m ((iL.length + (leftN gone lL.length).getD (v - iL.length - 1) 0 + 1 : Nat) : Int) := ⟨_, rfl⟩
  have hBl : (B.length : Int) = X + 1 := by rw [hB]; simp; omega
  have Dat : ∀ v : Int, 0 ≤ v → v < ins + 1 + G.length → Kb_at D v = mkd m v := fun v h0 h1 => by
    obtain ⟨w, rfl⟩ := Int.eq_ofNat_of_zero_le h0
    rw [hD]
    exact at_range (t := b_) (g := fun v : Nat => mkd m (v : Int)) (by omega)
  have Bat : ∀ w : Nat, w < X.toNat + 1 → Kb_at B (w : Int) = if w ≤ iL.length then true else mkd m ((iL.length + (leftN gone lL.length).getD (w - iL.length - 1) 0 + 1 : Nat) : Int) := fun w hw => by
    rw [hB]
    exact at_range (t := b_) (g := fun v : Nat => if v ≤ iL.length then true else mkd m ((iL.length + (leftN gone lL.length).getD (v - iL.length - 1) 0 + 1 : Nat) : Int)) hw
  have dB : ∀ w : Int, 0 ≤ w → w < X + 1 → Kb_at (depV B gx) w = Kb_at B w := fun w h0 h1 => by
    obtain ⟨t, e⟩ := depV_pre (B := B) (g := []) (t := gx)
    rw [List.nil_append] at e
    rw [e]
    exact b_app h0 (by rw [depV_len]; simp; omega)
  have B0 : Kb_at B 0 = true := by
    have := Bat 0 (by omega)
    rw [if_pos (by omega)] at this
    exact this
  have d0 : Kb_at (depV B gx) 0 = true := by rw [dB 0 (by omega) (by omega), B0]
  have old : ∀ v : Int, v ≠ 0 → mkd m v = true → ∀ y ∈ kids G iL lL v, mkd m (y / 2) = true := fun v h0 h1 => (h.new v h1 (first_mk h0)).2.2
  obtain ⟨-, key⟩ := Made.dep (G := gx) (D := D) hBl B0 hM ⟨[], by simp⟩ r (fun v hvl hd => by
    rw [hfl] at hvl
    by_cases c1 : v ≤ iL.length
    · rw [fixF_lo c1, show 2 * (v : Int) / 2 = v by omega, dB _ (by omega) (by omega), Bat _ (by omega), if_pos c1]
    · obtain ⟨i, rfl⟩ : ∃ i, v = iL.length + 1 + i := ⟨v - iL.length - 1, by omega⟩
      rw [fixF_hi (by omega)]
      cases hg : Kb_at gone (i : Int) with
      | true =>
        rw [if_pos rfl]
        rcases init01 (Kiibii_at lL (i : Int)) with e | e <;> rw [e] <;> exact d0
      | false =>
        have e := leftN_of (gone := gone) (L := lL.length) (i := i) (by omega) hg
        have hlt : (leftN gone i).length < (leftN gone lL.length).length := (List.getElem?_eq_some_iff.1 e).1
        rw [if_neg (by simp), show 2 * ((iL.length + (leftN gone i).length + 1 : Nat) : Int) / 2 = ((iL.length + (leftN gone i).length + 1 : Nat) : Int) by omega, dB _ (by omega) (by omega), Bat _ (by omega), if_neg (by omega), show iL.length + (leftN gone i).length + 1 - iL.length - 1 = (leftN gone i).length by omega, show (leftN gone lL.length).getD (leftN gone i).length 0 = i by simp [List.getD, e], ← hd, Dat _ (by omega) (by omega)]
        congr 1
        omega) (fun j hj hd => by
    rw [hfl] at hd
    have ha := c.r.a j hj
    rw [Dat _ (by omega) (by omega)] at hd
    have hk2 := old _ (by omega) hd
    unfold kids at hk2
    rw [if_neg (by omega), if_neg (by omega), show ((iL.length + 1 + lL.length : Nat) : Int) + (j : Int) - iL.length - lL.length - 1 = (j : Int) by omega] at hk2
    rw [Dat _ (by omega) (by omega), Dat _ (by omega) (by omega)]
    exact ⟨hk2 _ (by simp), hk2 _ (by simp)⟩) (ops_of c.r (by rw [hfl]; omega))
  have lit : ∀ x : Int, LitG ins G x → mkd m (x / 2) = true → Kb_at (depV B gx) (litT to x / 2) = true := fun x hx0 hmx => by
    have a := hx0.1
    have a2 := hx0.2
    rw [litT_div]
    have := key (x / 2).toNat (by omega) (by rw [show (((x / 2).toNat : Nat) : Int) = x / 2 by omega, Dat _ (by omega) (by omega)]; exact hmx)
    rwa [show (((x / 2).toNat : Nat) : Int) = x / 2 by omega] at this
  have hS := hx.sound (fun v => Kb_at (depV B gx) v = true) (fun x hxr => by
    obtain ⟨y, hy, rfl⟩ := List.mem_map.1 hxr
    have main : ∀ j : Nat, j < oL.length → Kiii_at oL (j : Int) ∈ selO oL q → Kb_at (depV B gx) ((Kiii_at (outX oL to) (j : Int)).2.1 / 2) = true := fun j hj hj2 => by
      rw [outX_at hj]
      exact lit _ (c.o j hj).2.2.2 (h.root _ (List.mem_map.2 ⟨_, hj2, rfl⟩))
    rcases List.mem_cons.1 hy with rfl | hy
    · exact main q hq List.mem_cons_self
    · obtain ⟨j, hj, rfl⟩ := List.mem_map.1 hy
      obtain ⟨j1, j2⟩ := pickN_mem.1 hj
      rw [outX_len] at j1
      rw [outX_at j1] at j2
      exact main j j1 (List.mem_cons_of_mem _ (List.mem_map.2 ⟨j, pickN_mem.2 ⟨j1, j2⟩, rfl⟩))) (fun v hvS y hy => by
    unfold kids at hy
    by_cases c1 : v ≤ iL.length
    · rw [if_pos c1] at hy; simp at hy
    rw [if_neg c1, latX_len] at hy
    by_cases c2 : v ≤ (iL.length : Int) + ((leftN gone lL.length).length : Nat)
    · rw [if_pos c2] at hy
      obtain ⟨k', rfl⟩ : ∃ k' : Nat, v = ((iL.length + k' + 1 : Nat) : Int) := ⟨(v - iL.length - 1).toNat, by omega⟩
      rw [show ((iL.length + k' + 1 : Nat) : Int) - iL.length - 1 = (k' : Int) by omega, latX_at (by omega), List.mem_singleton] at hy
      obtain ⟨b1, -, -⟩ := leftN_bnd (gone := gone) (L := lL.length) (k := k') (by omega)
      have hvS' : Kb_at (depV B gx) ((iL.length + k' + 1 : Nat) : Int) = true := hvS
      rw [dB _ (by omega) (by omega), Bat _ (by omega), if_neg (by omega), show iL.length + k' + 1 - iL.length - 1 = k' by omega] at hvS'
      have hk2 := old _ (by omega) hvS'
      unfold kids at hk2
      rw [if_neg (by omega), if_pos (by omega), show ((iL.length + (leftN gone lL.length).getD k' 0 + 1 : Nat) : Int) - iL.length - 1 = (((leftN gone lL.length).getD k' 0 : Nat) : Int) by omega] at hk2
      rw [hy]
      exact lit _ (c.l _ b1).2.2.2 (hk2 _ (by simp))
    · rw [if_neg c2] at hy
      obtain ⟨k', hk'⟩ : ∃ k' : Nat, v = X + 1 + k' := ⟨(v - X - 1).toNat, by omega⟩
      subst hk'
      rw [show X + 1 + (k' : Int) - iL.length - ((leftN gone lL.length).length : Nat) - 1 = (k' : Int) by omega] at hy
      have hvS' : Kb_at (depV B gx) (X + 1 + (k' : Int)) = true := hvS
      by_cases c3 : k' < gx.length
      · rw [depV_at r hBl c3, Bool.and_eq_true] at hvS'
        simp only [List.mem_cons, List.not_mem_nil, or_false] at hy
        rcases hy with rfl | rfl
        · exact hvS'.1
        · exact hvS'.2
      · exfalso
        have : Kb_at (depV B gx) (X + 1 + (k' : Int)) = false := by
          unfold Kb_at at_
          have hlen := depV_len (B := B) gx
          have : ¬ (X + 1 + (k' : Int)).toNat < (depV B gx).length := by omega
          simp [List.getD, this]
          rfl
        rw [this] at hvS'
        cases hvS') _ hm
  rcases hS with h0 | h0
  · rw [first_mk (by omega)] at h0; cases h0
  · have h0' : Kb_at (depV B gx) ((iL.length + k + 1 : Nat) : Int) = true := h0
    rw [dB _ (by omega) (by omega), Bat _ (by omega), if_neg (by omega), show iL.length + k + 1 - iL.length - 1 = k by omega] at h0'
    exact h0'
/-- So a property hangs on no more latches than it did. -/
theorem con_le (c : CircR ins G iL lL oL) (hX : X = ((iL.length + (leftN gone lL.length).length : Nat) : Int)) (hM : Made X (fixF iL.length lL gone) G gx to) (r : RG X gx) (hv : LitsV X gx to) (htl : to.length = iL.length + 1 + lL.length + G.length) {q : Nat} (hq : q < oL.length) (h : MarkR G iL lL (ins + 1 + G.length) ((selO oL q).map (·.2.1)) (Mi_b_put [] 0 true) m) (hx : MarkR gx iL (latX iL.length lL to (leftN gone lL.length)) (X + 1 + gx.length) ((selO (outX oL to) q).map (·.2.1)) (Mi_b_put [] 0 true) mx) : (conL mx (latX iL.length lL to (leftN gone lL.length))).length ≤ (conL m lL).length := by
  have e1 : conL mx (latX iL.length lL to (leftN gone lL.length)) = pickN (fun k => mkd mx ((iL.length + k + 1 : Nat) : Int)) (leftN gone lL.length).length := by
    unfold conL
    rw [latX_len]
    exact pickN_congr fun k hk => by rw [latX_at hk]
  have e2 : conL m lL = pickN (fun k => mkd m ((iL.length + k + 1 : Nat) : Int)) lL.length := by
    unfold conL
    refine pickN_congr fun k hk => ?_
    obtain ⟨v, -⟩ := c.l k hk
    rw [v]
    exact congrArg (mkd m) (by omega)
  have e3 : leftN gone lL.length = (List.range (leftN gone lL.length).length).map fun k => (leftN gone lL.length).getD k 0 := by
    refine List.ext_getElem (by simp) fun k h1 h2 => ?_
    simp [List.getD, h1]
  have s1 : ((leftN gone lL.length).filter fun k => mkd m ((iL.length + k + 1 : Nat) : Int)).length ≤ (pickN (fun k => mkd m ((iL.length + k + 1 : Nat) : Int)) lL.length).length := by
    unfold leftN pickN
    rw [List.filter_filter, ← List.countP_eq_length_filter, ← List.countP_eq_length_filter]
    exact List.countP_mono_left fun x _ hp => by simp at hp; simpa using hp.1
  have s2 := congrArg (fun l : List Nat => (l.filter fun k => mkd m ((iL.length + k + 1 : Nat) : Int)).length) e3
  rw [List.filter_map, List.length_map] at s2
  rw [e1, e2]
  refine Nat.le_trans ?_ s1
  rw [s2]
  unfold pickN
  rw [← List.countP_eq_length_filter, ← List.countP_eq_length_filter]
  refine List.countP_mono_left fun k hk hp => ?_
  exact mark_fix c hX hM r hv htl hq h hx (List.mem_range.1 hk) hp
end
section
variable {n : Nat} {N : List Nd} {I : List Pn} {C : List Cl} {P : List Pw} {Q : List Pn}
end
section
variable {n : Nat} {ins : Int} {g : List Kii}
theorem b_app1 {V W : List Bool} {k : Int} (h0 : 0 ≤ k) (h : k < (V.length : Int)) : Kb_at (V ++ W) k = Kb_at V k := by
  obtain ⟨j, rfl⟩ := Int.eq_ofNat_of_zero_le h0
  exact at_app1 (t := .bool) (by omega)
theorem lv_app {V W : List Bool} {x : Int} (h0 : 0 ≤ x) (h : x / 2 < (V.length : Int)) : lv (V ++ W) x = lv V x := by
  unfold lv
  rw [b_app1 (by omega) h]
theorem alit_f {V : List Bool} {x : Int} (h0 : 0 ≤ x) (h1 : x / 2 < (V.length : Int)) (h2 : x < 1000000) : aig_Lit n V x = some (lv V x, ()) := by
  unfold aig_Lit
  have sh : shrI .i64 x 1 = x / 2 := shr_p2 (by omega)
  rw [ask_of (by omega), sh, ask_of (by omega), and_one _ h0 (by omega)]
  rfl
theorem aeval_f {inp : List Bool} (r : RG ins g) (hi : (inp.length : Int) = ins) (hn : 30000 < n) : ∃ W, aig_Eval_o n ins g inp = some ((false :: inp) ++ W, ()) ∧ W.length = g.length ∧ Mod ins g ((false :: inp) ++ W) := by
  have i0 := r.i0
  have i1 := r.i1
  have hg := r.len
  have hV0 : (false :: inp).length = inp.length + 1 := rfl
  obtain ⟨R, e, W, hR, hW, hM⟩ := iter_ex (F := aig_Eval_o_l1b n g) (len := g.length) (m := n) (d := (0, false :: inp, ()))
    (fun j d => ∃ W, d = ((j : Int), (false :: inp) ++ W, ()) ∧ W.length = j ∧ ∀ i : Nat, i < j → Kb_at ((false :: inp) ++ W) (ins + 1 + (i : Int)) = (lv ((false :: inp) ++ W) (Kii_at g (i : Int)).1 && lv ((false :: inp) ++ W) (Kii_at g (i : Int)).2))
    (fun R => ∃ W, R = ((false :: inp) ++ W, ()) ∧ W.length = g.length ∧ Mod ins g ((false :: inp) ++ W))
    (fun self j d hj ⟨W, hd, hW, hM⟩ => by
      subst hd
      obtain ⟨a1, a2, a3, a4⟩ := r.a j hj
      have hlen : ((false :: inp) ++ W).length = inp.length + 1 + j := by simp [hW]; omega
      generalize hV : (false :: inp) ++ W = V at hM hlen ⊢
      have ext : ∀ b, b = (lv V (Kii_at g (j : Int)).1 && lv V (Kii_at g (j : Int)).2) → ∃ W', ((((j + 1 : Nat) : Int), V ++ [b], ()) : Int × List Bool × Unit) = (((j + 1 : Nat) : Int), (false :: inp) ++ W', ()) ∧ W'.length = j + 1 ∧ ∀ i : Nat, i < j + 1 → Kb_at ((false :: inp) ++ W') (ins + 1 + (i : Int)) = (lv ((false :: inp) ++ W') (Kii_at g (i : Int)).1 && lv ((false :: inp) ++ W') (Kii_at g (i : Int)).2) := fun b hb => by
        refine ⟨W ++ [b], by rw [← hV, List.append_assoc], by simp [hW], fun i hi => ?_⟩
        rw [← List.append_assoc, hV]
        obtain ⟨b1, b2, b3, b4⟩ := r.a i (by omega)
        rw [lv_app (x := (Kii_at g (i : Int)).1) (by omega) (by omega), lv_app (x := (Kii_at g (i : Int)).2) (by omega) (by omega)]
        by_cases c : i = j
        · subst c
          have : Kb_at (V ++ [b]) (V.length : Int) = b := at_app2 (t := .bool)
          rw [show ins + 1 + (i : Int) = (V.length : Int) by omega, this, hb]
        · rw [b_app1 (by omega) (by omega), hM i (by omega)]
      unfold aig_Eval_o_l1b
      simp only [cond_dec, cond_if, decide_eq_true_eq]
      rw [if_pos (by omega), ask_of (by omega), ask_of (by omega), alit_f (by omega) (by omega) (by omega), bindS]
      cases hx : lv V (Kii_at g (j : Int)).1 with
      | true =>
        simp only [↓reduceIte]
        rw [ask_of (by omega), alit_f (by omega) (by omega) (by omega), bindS, ask_of (by simp; omega), succ64 (by omega)]
        obtain ⟨W', e1, e2, e3⟩ := ext _ rfl
        rw [hx, Bool.true_and] at e1
        exact ⟨_, rfl, W', e1, e2, e3⟩
      | false =>
        simp only [Bool.false_eq_true, ↓reduceIte]
        rw [ask_of (by simp; omega), succ64 (by omega)]
        obtain ⟨W', e1, e2, e3⟩ := ext _ rfl
        rw [hx, Bool.false_and] at e1
        exact ⟨_, rfl, W', e1, e2, e3⟩)
    (fun self d ⟨W, hd, hW, hM⟩ => by
      subst hd
      unfold aig_Eval_o_l1b
      simp only [cond_dec]
      rw [if_neg (by omega)]
      exact ⟨_, rfl, W, rfl, hW, rfl, hM⟩) (by omega) ⟨[], by simp, rfl, fun i hi => absurd hi (Nat.not_lt_zero _)⟩
  subst hR
  unfold aig_Eval_o
  have w1 : IntKind.wrap .i64 (1 + ins) = ((inp.length + 1 : Nat) : Int) := by rw [wrap_small (by omega) (by omega)]; omega
  have hc : cpy (List.replicate (inp.length + 1) false) 1 (inp.length + 1 - 1) inp = false :: inp := by
    unfold cpy
    simp
    omega
  rw [w1, wrap_small (x := ((inp.length + 1 : Nat) : Int) + (g.length : Int)) (by omega) (by omega), ask_of (by omega), Int.toNat_natCast, ask_of (by simp; omega), ask_of trivial, List.length_replicate, show (1 : Int).toNat = 1 from rfl, hc, show aig_Eval_o_l1 n g (0, false :: inp, ()) = _ from e, bindS]
  exact ⟨W, rfl, hW, hM⟩
/-- A circuit's step. -/
theorem step15_w {iL oL : List Kiii} {lL : List Kiibii} {lats inps : List Bool} (h : CircR ins g iL lL oL) (h1 : lats.length = lL.length) (h2 : inps.length = iL.length) (hn : 30000 < n) : ∃ W, circ_Step n ins g iL lL oL lats inps = some ((List.range lL.length).map (fun j : Nat => lv ((false :: (inps ++ lats)) ++ W) (Kiibii_at lL (j : Int)).2.1), (List.range oL.length).map (fun j : Nat => lv ((false :: (inps ++ lats)) ++ W) (Kiii_at oL (j : Int)).2.1), ()) ∧ W.length = g.length ∧ Mod ins g ((false :: (inps ++ lats)) ++ W) := by
  have hr := h.r
  have i0 := hr.i0
  have i1 := hr.i1
  have hg := hr.len
  have hs := h.sum
  have h256 := h.l256
  have ho := h.o1000
  have hlen : ((inps ++ lats).length : Int) = ins := by simp; omega
  obtain ⟨W, e, hW, hM⟩ := aeval_f (n := n) (inp := inps ++ lats) hr hlen hn
  refine ⟨W, ?_, hW, hM⟩
  have hV : ((false :: (inps ++ lats)) ++ W).length = 1 + ins.toNat + g.length := by simp at hlen ⊢; omega
  unfold circ_Step
  have hw : IntKind.wrap .i64 ((inps.length : Int) + (lats.length : Int)) = (inps.length : Int) + (lats.length : Int) := w64 (by omega) (by omega)
  rw [hw, ask_of (by omega), show List.replicate (0 : Int).toNat false = [] from rfl, List.nil_append, ask_of (by simp; omega), ask_of (by simp; omega), e, bindS]
  generalize (false :: (inps ++ lats)) ++ W = V at hV ⊢
  have l1 := iter_up (F := circ_Step_l1b n (V, ()) lL) (fun j => ((j : Int), fillN lL.length (fun j : Nat => lv V (Kiibii_at lL (j : Int)).2.1) false j, ())) ((List.range lL.length).map (fun j : Nat => lv V (Kiibii_at lL (j : Int)).2.1), ()) (len := lL.length) (m := n)
    (fun self j hj => by
      have hl := fillN_len (g := fun j : Nat => lv V (Kiibii_at lL (j : Int)).2.1) (z := false) (Nat.le_of_lt hj)
      obtain ⟨q1, q2, q3, q4, q5⟩ := h.l j hj
      unfold circ_Step_l1b
      simp only [cond_dec]
      rw [if_pos (by omega), ask_of (by omega), alit_f q4 (by omega) (by omega), bindS]
      simp only
      rw [ask_of (by omega), succ64 (by omega), Int.toNat_natCast, ← fillN_set hj])
    (fun self => by
      unfold circ_Step_l1b
      simp only [cond_dec]
      rw [if_neg (by omega), fillN_n]) (by omega)
  have l2 := iter_up (F := circ_Step_l2b n (V, ()) oL) (fun j => ((j : Int), fillN oL.length (fun j : Nat => lv V (Kiii_at oL (j : Int)).2.1) false j, ())) ((List.range oL.length).map (fun j : Nat => lv V (Kiii_at oL (j : Int)).2.1), ()) (len := oL.length) (m := n)
    (fun self j hj => by
      have hl := fillN_len (g := fun j : Nat => lv V (Kiii_at oL (j : Int)).2.1) (z := false) (Nat.le_of_lt hj)
      obtain ⟨q1, q2, q3, q4, q5⟩ := h.o j hj
      unfold circ_Step_l2b
      simp only [cond_dec]
      rw [if_pos (by omega), ask_of (by omega), alit_f q4 (by omega) (by omega), bindS]
      simp only
      rw [ask_of (by omega), succ64 (by omega), Int.toNat_natCast, ← fillN_set hj])
    (fun self => by
      unfold circ_Step_l2b
      simp only [cond_dec]
      rw [if_neg (by omega), fillN_n]) (by omega)
  rw [fillN_0] at l1 l2
  rw [ask_of (by omega), ask_of (by omega), Int.toNat_natCast, Int.toNat_natCast, show circ_Step_l1 n (V, ()) lL (0, List.replicate lL.length false, ()) = _ from l1, bindS, show circ_Step_l2 n (V, ()) oL (0, List.replicate oL.length false, ()) = _ from l2, bindS]
theorem step15_f {iL oL : List Kiii} {lL : List Kiibii} {lats inps : List Bool} (h : CircR ins g iL lL oL) (h1 : lats.length = lL.length) (h2 : inps.length = iL.length) (hn : 30000 < n) : ∃ W, circ_Step n ins g iL lL oL lats inps = some ((List.range lL.length).map (fun j : Nat => lv ((false :: (inps ++ lats)) ++ W) (Kiibii_at lL (j : Int)).2.1), (List.range oL.length).map (fun j : Nat => lv ((false :: (inps ++ lats)) ++ W) (Kiii_at oL (j : Int)).2.1), ()) ∧ Mod ins g ((false :: (inps ++ lats)) ++ W) := by
  obtain ⟨W, e, -, hM⟩ := step15_w (n := n) h h1 h2 hn
  exact ⟨W, e, hM⟩
/-- A graph and what it is given tell all. -/
theorem mod_ext {V W : List Bool} (r : RG ins g) (hV : (V.length : Int) = 1 + ins + g.length) (hW : W.length = V.length) (h0 : ∀ j : Nat, (j : Int) < 1 + ins → Kb_at V (j : Int) = Kb_at W (j : Int)) (mV : Mod ins g V) (mW : Mod ins g W) : V = W := by
  have i0 := r.i0
  refine ext_at (t := b_) hW.symm fun j hj => ?_
  show Kb_at V (j : Int) = Kb_at W (j : Int)
  induction j using Nat.strongRecOn with
  | ind j ih =>
  by_cases c : (j : Int) < 1 + ins
  · exact h0 j c
  · obtain ⟨k, hk⟩ : ∃ k : Nat, (j : Int) = ins + 1 + (k : Int) := ⟨(j - (ins + 1)).toNat, by omega⟩
    have hkl : k < g.length := by omega
    obtain ⟨a1, a2, a3, a4⟩ := r.a k hkl
    have one : ∀ x : Int, 0 ≤ x → x / 2 ≤ ins + k → lv V x = lv W x := fun x x0 x1 => by
      unfold lv
      obtain ⟨m, hm⟩ := Int.eq_ofNat_of_zero_le (show 0 ≤ x / 2 by omega)
      rw [hm, ih m (by omega) (by omega)]
    rw [hk, mV.a k hkl, mW.a k hkl, one _ (by omega) (by omega), one _ (by omega) (by omega)]
/-- Inputs and states stand ahead of the ands. -/
theorem val_in {inp st W : List Bool} {v : Nat} (h0 : 1 ≤ v) (h : v ≤ inp.length) : Kb_at ((false :: (inp ++ st)) ++ W) (v : Int) = Kb_at inp ((v - 1 : Nat) : Int) := by
  obtain ⟨k, rfl⟩ : ∃ k, v = k + 1 := ⟨v - 1, by omega⟩
  rw [show k + 1 - 1 = k by omega]
  rw [show Kb_at ((false :: (inp ++ st)) ++ W) ((k + 1 : Nat) : Int) = _ from at_nat (t := b_) (by simp; omega), show Kb_at inp (k : Int) = _ from at_nat (t := b_) (by omega)]
  simp only [List.cons_append, List.getElem_cons_succ]
  rw [List.getElem_append_left (by simp; omega), List.getElem_append_left (by omega)]
theorem val_st {inp st W : List Bool} {k : Nat} (h : k < st.length) : Kb_at ((false :: (inp ++ st)) ++ W) ((inp.length + k + 1 : Nat) : Int) = Kb_at st (k : Int) := by
  rw [show Kb_at ((false :: (inp ++ st)) ++ W) ((inp.length + k + 1 : Nat) : Int) = _ from at_nat (t := b_) (by simp; omega), show Kb_at st (k : Int) = _ from at_nat (t := b_) (by omega)]
  simp only [List.cons_append, List.getElem_cons_succ]
  rw [List.getElem_append_left (by simp; omega), List.getElem_append_right (by omega)]
  congr 1
  omega
theorem val_0 {inp W : List Bool} : Kb_at ((false :: inp) ++ W) 0 = false := rfl
theorem litT_val {to : List Int} {U V : List Bool} {x : Int} (h : lv U (Ki_at to (x / 2)) = Kb_at V (x / 2)) : lv U (litT to x) = lv V x := by
  unfold litT
  by_cases c : x % 2 = 1
  · rw [if_pos c, lv_turn, h]
    unfold lv
    rw [decide_eq_true c]
    cases Kb_at V (x / 2) <;> rfl
  · rw [if_neg c, h]
    unfold lv
    rw [decide_eq_false c]
    cases Kb_at V (x / 2) <;> rfl
/-- What is made anew means what it did. -/
theorem Made.sem {first : List Int} {A G' : List Kii} {to : List Int} {U V : List Bool} (h : Made ins first A g to) (hp : ∃ t, G' = g ++ t) (hU : Mod ins G' U) (hf : ∀ v : Nat, v < first.length → lv U (Ki_at first (v : Int)) = Kb_at V (v : Int)) (hV : ∀ k : Nat, k < A.length → Kb_at V ((first.length + k : Nat) : Int) = (lv V (Kii_at A (k : Int)).1 && lv V (Kii_at A (k : Int)).2)) (ho : OpsA first.length A) :
    to.length = first.length + A.length ∧ ∀ v : Nat, v < to.length → lv U (Ki_at to (v : Int)) = Kb_at V (v : Int) := by
  induction h with
  | nil => exact ⟨by simp, hf⟩
  | @snoc A g to x g' y hM hA ht l1 l2 rg' hsem ih =>
    obtain ⟨t, rfl⟩ := hp
    obtain ⟨t', rfl⟩ := ht
    have at1 : ∀ k : Nat, k < A.length → Kii_at (A ++ [x]) (k : Int) = Kii_at A (k : Int) := fun k hk => at_app1 (t := Kii_) hk
    have at2 : Kii_at (A ++ [x]) (A.length : Int) = x := at_app2 (t := Kii_)
    obtain ⟨e, ih⟩ := ih ⟨t' ++ t, by rw [List.append_assoc]⟩ (fun k hk => by
      have := hV k (by simp; omega)
      rwa [at1 k hk] at this) (fun k hk => by
      have := ho k (by simp; omega)
      rwa [at1 k hk] at this)
    refine ⟨by simp [e]; omega, fun v hv => ?_⟩
    simp only [List.length_append, List.length_cons, List.length_nil] at hv
    by_cases c : v < to.length
    · rw [show Ki_at (to ++ [y]) (v : Int) = Ki_at to (v : Int) from at_app1 (t := i_) c]
      exact ih v c
    · have ev : v = to.length := by omega
      subst ev
      rw [show Ki_at (to ++ [y]) (to.length : Int) = y from at_app2 (t := i_)]
      obtain ⟨o1, o2⟩ := ho A.length (by simp)
      have d := hV A.length (by simp)
      rw [at2] at d o1 o2
      have key : ∀ z : Int, 0 ≤ z → z / 2 < (first.length : Int) + A.length → lv U (litT to z) = lv V z := fun z z0 z1 => by
        have := ih (z / 2).toNat (by omega)
        rw [show (((z / 2).toNat : Nat) : Int) = z / 2 by omega] at this
        exact litT_val this
      rw [hsem U hU.pre, key x.1 o1.1 o1.2, key x.2 o2.1 o2.2, ← d, e]
end
def firstB (lL : List Kiibii) : List Bool := (List.range lL.length).map fun j : Nat => (Kiibii_at lL (j : Int)).2.2.1
def nextB (lL : List Kiibii) (V : List Bool) : List Bool := (List.range lL.length).map fun j : Nat => lv V (Kiibii_at lL (j : Int)).2.1
def outB (oL : List Kiii) (V : List Bool) : List Bool := (List.range oL.length).map fun j : Nat => lv V (Kiii_at oL (j : Int)).2.1
/-- States that a circuit comes to. -/
inductive RS (ins : Int) (G : List Kii) (iL : List Kiii) (lL : List Kiibii) : List Bool → Prop
  | first : RS ins G iL lL (firstB lL)
  | step {s x W : List Bool} : RS ins G iL lL s → x.length = iL.length → W.length = G.length → Mod ins G ((false :: (x ++ s)) ++ W) → RS ins G iL lL (nextB lL ((false :: (x ++ s)) ++ W))
def pickS (s : List Bool) (l : List Nat) : List Bool := l.map fun i : Nat => Kb_at s (i : Int)
/-- Latches that are gone have their first values, wherever the circuit comes to. -/
def StJ (ins : Int) (G : List Kii) (iL : List Kiii) (lL : List Kiibii) (gone : List Bool) : Prop := ∀ s, RS ins G iL lL s → ∀ k : Nat, k < lL.length → Kb_at gone (k : Int) = true → Kb_at s (k : Int) = (Kiibii_at lL (k : Int)).2.2.1
section
variable {n : Nat} {ins X : Int} {G g gx : List Kii} {iL oL : List Kiii} {lL : List Kiibii} {gone : List Bool} {to : List Int} {s x W U V : List Bool}
theorem RS.len (h : RS ins G iL lL s) : s.length = lL.length := by cases h <;> simp [firstB, nextB]
theorem lv_init {l : Kiibii} (h : Mod X g U) : lv U (initL l) = l.2.2.1 := by
  unfold initL
  cases l.2.2.1 with
  | true => exact lv_1 h
  | false => exact lv_0 h
theorem val_V (c : CircR ins G iL lL oL) (hx : x.length = iL.length) (hs : s.length = lL.length) {k : Nat} (hk : k < lL.length) : Kb_at ((false :: (x ++ s)) ++ W) ((iL.length + k + 1 : Nat) : Int) = Kb_at s (k : Int) := by
  rw [← hx]
  exact val_st (by omega)
/-- A round: the graph made anew, with constants for latches that are gone, means what the old one does. -/
theorem still_sem (c : CircR ins G iL lL oL) (hM : Made ins (stillF iL.length lL gone) G g to) (hx : x.length = iL.length) (hs : s.length = lL.length) (hV : Mod ins G ((false :: (x ++ s)) ++ W)) {W2 : List Bool} (hU : Mod ins g ((false :: (x ++ s)) ++ W2)) (hg : ∀ k : Nat, k < lL.length → Kb_at gone (k : Int) = true → Kb_at s (k : Int) = (Kiibii_at lL (k : Int)).2.2.1) : ∀ v : Nat, v < to.length → lv ((false :: (x ++ s)) ++ W2) (Ki_at to (v : Int)) = Kb_at ((false :: (x ++ s)) ++ W) (v : Int) := by
  have i0 := c.r.i0
  have hsum := c.sum
  have hlen := stillF_len (lL := lL) (gone := gone) iL.length
  refine (hM.sem ⟨[], by simp⟩ hU (fun v hv => ?_) (fun k hk => ?_) (ops_of c.r (by rw [hlen]; omega))).2
  · rw [hlen] at hv
    by_cases c1 : v ≤ iL.length
    · rw [stillF_lo c1, lv_var]
      by_cases c2 : v = 0
      · subst c2; rfl
      · rw [val_in (by omega) (by omega), val_in (by omega) (by omega)]
    · obtain ⟨k, rfl⟩ : ∃ k, v = iL.length + 1 + k := ⟨v - iL.length - 1, by omega⟩
      rw [stillF_hi (by omega), show iL.length + 1 + k = iL.length + k + 1 by omega, val_V c hx hs (by omega)]
      split
      · rename_i e
        rw [lv_init hU, hg k (by omega) e]
      · rw [lv_var, (c.l k (by omega)).1, show (iL.length : Int) + (k : Int) + 1 = ((iL.length + k + 1 : Nat) : Int) by omega, val_V c hx hs (by omega)]
  · rw [hlen, show ((iL.length + 1 + lL.length + k : Nat) : Int) = ins + 1 + k by omega]
    exact hV.a k hk
theorem stJ0 : StJ ins G iL lL (List.replicate lL.length false) := fun s _ k hk h => by
  rw [show Kb_at (List.replicate lL.length false) (k : Int) = _ from at_nat (t := b_) (by simpa using hk)] at h
  simp at h
theorem stJ1 (c : CircR ins G iL lL oL) (hJ : StJ ins G iL lL gone) (hM : Made ins (stillF iL.length lL gone) G g to) (r : RG ins g) (htl : to.length = iL.length + 1 + lL.length + G.length) {next : List Bool} (hk : ∀ k : Nat, k < lL.length → Kb_at next (k : Int) = (Kb_at gone (k : Int) || (decide (litT to (Kiibii_at lL (k : Int)).2.1 = initL (Kiibii_at lL (k : Int))) || decide (litT to (Kiibii_at lL (k : Int)).2.1 = 2 * (Kiibii_at lL (k : Int)).1)))) : StJ ins G iL lL next := by
  have hsum := c.sum
  intro s hs
  induction hs with
  | first => exact fun k hk2 _ => at_range (t := b_) hk2
  | @step s x W hs hx hW hV ih =>
    intro k hk2 hn
    have hsl := hs.len
    rw [hk k hk2] at hn
    cases hg : Kb_at gone (k : Int) with
    | true => exact hJ _ (.step hs hx hW hV) k hk2 hg
    | false =>
      rw [hg, Bool.false_or, Bool.or_eq_true] at hn
      obtain ⟨W2, -, hW2, hU⟩ := aeval_f (n := 30001) (inp := x ++ s) r (by simp; omega) (by omega)
      obtain ⟨c1, c2, c3, c40, c41⟩ := c.l k hk2
      have sem := still_sem c hM hx hsl hV hU (hJ s hs)
      have hz := sem ((Kiibii_at lL (k : Int)).2.1 / 2).toNat (by omega)
      rw [show ((((Kiibii_at lL (k : Int)).2.1 / 2).toNat : Nat) : Int) = (Kiibii_at lL (k : Int)).2.1 / 2 by omega] at hz
      have hz := litT_val hz
      rw [show Kb_at (nextB lL ((false :: (x ++ s)) ++ W)) (k : Int) = lv ((false :: (x ++ s)) ++ W) (Kiibii_at lL (k : Int)).2.1 from at_range (t := b_) hk2, ← hz]
      rcases hn with hn | hn
      · rw [of_decide_eq_true hn, lv_init hU]
      · rw [of_decide_eq_true hn, lv_var, c1, show (iL.length : Int) + (k : Int) + 1 = ((iL.length + k + 1 : Nat) : Int) by omega, val_V c hx hsl hk2]
        exact ih k hk2 (by rw [hk k hk2, hn]; simp)
/-- What Fixed leaves means what there was. -/
theorem fix_sem (c : CircR ins G iL lL oL) (hM : Made X (fixF iL.length lL gone) G gx to) (hx : x.length = iL.length) (hs : s.length = lL.length) (hV : Mod ins G ((false :: (x ++ s)) ++ W)) {W2 : List Bool} (hU : Mod X gx ((false :: (x ++ pickS s (leftN gone lL.length))) ++ W2)) (hg : ∀ k : Nat, k < lL.length → Kb_at gone (k : Int) = true → Kb_at s (k : Int) = (Kiibii_at lL (k : Int)).2.2.1) : ∀ v : Nat, v < to.length → lv ((false :: (x ++ pickS s (leftN gone lL.length))) ++ W2) (Ki_at to (v : Int)) = Kb_at ((false :: (x ++ s)) ++ W) (v : Int) := by
  have i0 := c.r.i0
  have hsum := c.sum
  have hlen := fixF_len (lL := lL) (gone := gone) iL.length
  refine (hM.sem ⟨[], by simp⟩ hU (fun v hv => ?_) (fun k hk => ?_) (ops_of c.r (by rw [hlen]; omega))).2
  · rw [hlen] at hv
    by_cases c1 : v ≤ iL.length
    · rw [fixF_lo c1, lv_var]
      by_cases c2 : v = 0
      · subst c2; rfl
      · rw [val_in (by omega) (by omega), val_in (by omega) (by omega)]
    · obtain ⟨k, rfl⟩ : ∃ k, v = iL.length + 1 + k := ⟨v - iL.length - 1, by omega⟩
      rw [fixF_hi (by omega), show iL.length + 1 + k = iL.length + k + 1 by omega, val_V c hx hs (by omega)]
      split
      · rename_i e
        rw [lv_init hU, hg k (by omega) e]
      · rename_i e
        have e := leftN_of (gone := gone) (L := lL.length) (i := k) (by omega) (by simpa using e)
        obtain ⟨e1, e2⟩ := List.getElem?_eq_some_iff.1 e
        rw [lv_var, ← hx, val_st (by simpa [pickS] using e1)]
        rw [show Kb_at (pickS s (leftN gone lL.length)) ((leftN gone k).length : Int) = _ from at_nat (t := b_) (by simpa [pickS] using e1)]
        simp only [pickS, List.getElem_map]
        rw [e2]
  · rw [hlen, show ((iL.length + 1 + lL.length + k : Nat) : Int) = ins + 1 + k by omega]
    exact hV.a k hk
theorem pickS_at {l : List Nat} {k : Nat} (h : k < l.length) : Kb_at (pickS s l) (k : Int) = Kb_at s ((l.getD k 0 : Nat) : Int) := by
  rw [show Kb_at (pickS s l) (k : Int) = _ from at_nat (t := b_) (by simpa [pickS] using h)]
  simp [pickS, List.getD, h]
/-- So it steps alike. -/
theorem fix_next (c : CircR ins G iL lL oL) (htl : to.length = iL.length + 1 + lL.length + G.length) (h : ∀ v : Nat, v < to.length → lv U (Ki_at to (v : Int)) = Kb_at V (v : Int)) : nextB (latX iL.length lL to (leftN gone lL.length)) U = pickS (nextB lL V) (leftN gone lL.length) ∧ outB (outX oL to) U = outB oL V := by
  have hsum := c.sum
  have lit : ∀ z : Int, LitG ins G z → lv U (litT to z) = lv V z := fun z hz => by
    have := h (z / 2).toNat (by have := hz.1; have := hz.2; omega)
    rw [show (((z / 2).toNat : Nat) : Int) = z / 2 by have := hz.1; omega] at this
    exact litT_val this
  constructor
  · refine List.ext_getElem (by simp [nextB, pickS, latX]) fun k h1 h2 => ?_
    have hk : k < (leftN gone lL.length).length := by simpa [pickS] using h2
    obtain ⟨b1, -, -⟩ := leftN_bnd hk
    have e1 : Kb_at (pickS (nextB lL V) (leftN gone lL.length)) (k : Int) = _ := at_nat (t := b_) h2
    rw [← e1, pickS_at hk]
    rw [show Kb_at (nextB lL V) (((leftN gone lL.length).getD k 0 : Nat) : Int) = _ from at_range (t := b_) b1]
    simp only [nextB, List.getElem_map, List.getElem_range]
    rw [latX_at hk]
    exact lit _ (c.l _ b1).2.2.2
  · unfold outB
    rw [outX_len]
    refine List.map_congr_left fun j hj => ?_
    have hj := List.mem_range.1 hj
    rw [outX_at hj]
    exact lit _ (c.o j hj).2.2.2
theorem fix_first : firstB (latX iL.length lL to (leftN gone lL.length)) = pickS (firstB lL) (leftN gone lL.length) := by
  refine List.ext_getElem (by simp [firstB, pickS, latX]) fun k h1 h2 => ?_
  have hk : k < (leftN gone lL.length).length := by simpa [pickS] using h2
  obtain ⟨b1, -, -⟩ := leftN_bnd hk
  have e1 : Kb_at (pickS (firstB lL) (leftN gone lL.length)) (k : Int) = _ := at_nat (t := b_) h2
  rw [← e1, pickS_at hk]
  rw [show Kb_at (firstB lL) (((leftN gone lL.length).getD k 0 : Nat) : Int) = _ from at_range (t := b_) b1]
  simp only [firstB, List.getElem_map, List.getElem_range]
  rw [latX_at hk]
/-- Bits, as many as asked for. -/
def bits16 (l : List Bool) (m : Nat) : List Bool := (List.range m).map fun i => if i < l.length then Kb_at l (i : Int) else false
theorem bits16_f {l : List Bool} {m : Nat} (hm : m ≤ 10000) (hn : 30000 < n) : law16_bits n l (m : Int) = some (bits16 l m, ()) := by
  have h := iter_up (F := law16_bits_l1b n l (m : Int)) (fun j => ((j : Int), bits16 l j, ())) (bits16 l m, ()) (len := m) (m := n)
    (fun self j hj => by
      have e : bits16 l (j + 1) = bits16 l j ++ [if j < l.length then Kb_at l (j : Int) else false] := by simp [bits16, List.range_succ]
      unfold law16_bits_l1b
      simp only [cond_dec]
      rw [if_pos (by omega), e]
      by_cases c : j < l.length
      · rw [if_pos (by omega), ask_of (by omega), ask_of ⟨trivial, by simp [bits16]; omega⟩, succ64 (by omega), if_pos c]
      · rw [if_neg (by omega), ask_of ⟨trivial, by simp [bits16]; omega⟩, succ64 (by omega), if_neg c])
    (fun self => by
      unfold law16_bits_l1b
      simp only [cond_dec]
      rw [if_neg (by omega)]) (by omega)
  unfold law16_bits law16_bits_l1
  rw [show iter (law16_bits_l1b n l (m : Int)) n (0, [], ()) = _ from h, bindS]
theorem pick16_f {l : List Nat} (hl : l.length ≤ 5000) (h : ∀ k : Nat, k < l.length → l.getD k 0 < s.length) (hn : 30000 < n) : law16_pick n s (natI l) = some (pickS s l, ()) := by
  have ln : (natI l).length = l.length := by simp [natI]
  have key : ∀ j, j ≤ l.length → pickS s (l.take j) = (List.range j).map fun k : Nat => Kb_at s ((l.getD k 0 : Nat) : Int) := fun j hj => by
    refine List.ext_getElem (by simp [pickS]; omega) fun k h1 h2 => ?_
    simp [pickS] at h1 ⊢
    rw [List.getElem?_eq_getElem (by omega)]
    rfl
  have h1 := iter_up (F := law16_pick_l1b n s (natI l)) (fun j => ((j : Int), (List.range j).map (fun k : Nat => Kb_at s ((l.getD k 0 : Nat) : Int)), ())) (pickS s l, ()) (len := l.length) (m := n)
    (fun self j hj => by
      have h2 := h j hj
      unfold law16_pick_l1b
      simp only [cond_dec, natI_at hj]
      rw [if_pos (by omega), ask_of (by omega), if_pos (by omega), ask_of (by omega), if_pos (by omega), ask_of (by omega), ask_of (by omega), ask_of ⟨trivial, by simp; omega⟩, succ64 (by omega), range_app (g := fun k : Nat => Kb_at s ((l.getD k 0 : Nat) : Int))])
    (fun self => by
      unfold law16_pick_l1b
      simp only [cond_dec]
      rw [if_neg (by omega), ← key _ (Nat.le_refl _), List.take_length]) (by omega)
  unfold law16_pick law16_pick_l1
  rw [show iter (law16_pick_l1b n s (natI l)) n (0, [], ()) = _ from h1, bindS]
end
section
variable {n : Nat} {ins : Int} {G g : List Kii} {iL oL : List Kiii} {lL : List Kiibii} {gone : List Bool} {a b : Int} {A : List Kii} {to first : List Int}
/-- Which latches are gone behind a round. -/
def nextG (lL : List Kiibii) (to : List Int) (gone : List Bool) : List Bool := (List.range lL.length).map fun k : Nat => (Kb_at gone (k : Int) || (decide (litT to (Kiibii_at lL (k : Int)).2.1 = initL (Kiibii_at lL (k : Int))) || decide (litT to (Kiibii_at lL (k : Int)).2.1 = 2 * (Kiibii_at lL (k : Int)).1)))
theorem nextG_of {next : List Bool} (h : next.length = lL.length) (hk : ∀ k : Nat, k < lL.length → Kb_at next (k : Int) = (Kb_at gone (k : Int) || (decide (litT to (Kiibii_at lL (k : Int)).2.1 = initL (Kiibii_at lL (k : Int))) || decide (litT to (Kiibii_at lL (k : Int)).2.1 = 2 * (Kiibii_at lL (k : Int)).1)))) : next = nextG lL to gone := by
  refine List.ext_getElem (by simp [nextG, h]) fun k h1 h2 => ?_
  have := hk k (by omega)
  rw [show Kb_at next (k : Int) = next[k] from at_nat (t := b_) h1] at this
  rw [this]
  simp [nextG]
end
section
variable {n : Nat} {ins : Int} {G g : List Kii} {iL oL : List Kiii} {lL : List Kiibii} {gone : List Bool} {to : List Int}
end
def cntT (l : List Bool) : Nat := (l.filter fun x => x).length
theorem cntT_set : ∀ {l : List Bool} {k : Nat}, k < l.length → Kb_at l (k : Int) = false → cntT (l.set k true) = cntT l + 1
  | [], k, h, _ => by simp at h
  | x :: l, 0, _, h => by
    have : x = false := h
    subst this
    simp [cntT]
  | x :: l, k + 1, hk, h => by
    have h' : Kb_at l (k : Int) = false := by
      have e : Kb_at (x :: l) ((k + 1 : Nat) : Int) = Kb_at l (k : Int) := by unfold Kb_at at_; simp
      rw [← e]; exact h
    have ih := cntT_set (l := l) (k := k) (by simpa using hk) h'
    unfold cntT at ih ⊢
    rw [List.set_cons_succ]
    cases x <;> simp_all
theorem cntT_le (l : List Bool) : cntT l ≤ l.length := List.length_filter_le _ _
def mT (M : List Bool) (v : Nat) : Prop := Kb_at M (v : Int) = true
theorem mT_set {M : List Bool} {i v : Nat} (h : i < M.length) : mT (M.set i true) v ↔ (i = v ∨ mT M v) := by
  unfold mT
  rw [show Kb_at (M.set i true) (v : Int) = _ from at_set (t := b_) h]
  split
  · rename_i e
    simp [e]
  · rename_i e
    exact ⟨fun q => .inr q, fun q => q.resolve_left e⟩
theorem cnt_set {M : List Bool} {i : Nat} (h : i < M.length) : cntT M ≤ cntT (M.set i true) ∧ (cntT (M.set i true) = cntT M → mT M i) := by
  cases c : Kb_at M (i : Int) with
  | true =>
    have e : M.set i true = M := by
      refine List.ext_getElem (by simp) fun k h1 h2 => ?_
      rw [List.getElem_set]
      split
      · rename_i e; subst e
        rw [show Kb_at M (i : Int) = M[i] from at_nat (t := b_) h2] at c
        exact c.symm
      · rfl
    rw [e]
    exact ⟨Nat.le_refl _, fun _ => c⟩
  | false =>
    have := cntT_set h c
    exact ⟨by omega, fun q => by omega⟩
theorem mT_lt {M : List Bool} {v : Nat} (h : mT M v) : v < M.length := by
  unfold mT Kb_at at_ at h
  rcases Nat.lt_or_ge v M.length with q | q
  · exact q
  · simp [List.getD, q] at h
    cases h
/-- A set of variables that holds what they hang on. -/
structure CloP (ins : Nat) (G : List Kii) (lL : List Kiibii) (P : Nat → Prop) : Prop where
  l : ∀ k : Nat, k < lL.length → P (Kiibii_at lL (k : Int)).1.toNat → P ((Kiibii_at lL (k : Int)).2.1 / 2).toNat
  a : ∀ k : Nat, k < G.length → P (ins + 1 + k) → P ((Kii_at G (k : Int)).1 / 2).toNat ∧ P ((Kii_at G (k : Int)).2 / 2).toNat
structure Grow (ins : Nat) (G : List Kii) (lL : List Kiibii) (M M' : List Bool) : Prop where
  len : M'.length = M.length
  mono : ∀ v, mT M v → mT M' v
  sound : ∀ P, CloP ins G lL P → (∀ v, mT M v → P v) → ∀ v, mT M' v → P v
  cnt : cntT M ≤ cntT M'
  same : cntT M' = cntT M → ∀ v, mT M' v → mT M v
section
variable {n ins : Nat} {G : List Kii} {iL oL : List Kiii} {lL : List Kiibii} {M M' M2 : List Bool}
theorem Grow.refl : Grow ins G lL M M := ⟨rfl, fun _ h => h, fun _ _ h => h, Nat.le_refl _, fun _ _ h => h⟩
theorem Grow.trans (h : Grow ins G lL M M') (h2 : Grow ins G lL M' M2) : Grow ins G lL M M2 := by
  have a := h.cnt
  have b := h2.cnt
  exact ⟨h2.len.trans h.len, fun v q => h2.mono v (h.mono v q), fun P hP q => h2.sound P hP (h.sound P hP q), by omega, fun e v q => h.same (by omega) v (h2.same (by omega) v q)⟩
/-- One more mark. -/
theorem Grow.set {i : Nat} (h : i < M.length) (hP : ∀ P, CloP ins G lL P → (∀ v, mT M v → P v) → P i) : Grow ins G lL M (M.set i true) := by
  obtain ⟨c1, c2⟩ := cnt_set h
  refine ⟨by simp, fun v q => (mT_set h).2 (.inr q), fun P hc q v hv => ?_, c1, fun e v hv => ?_⟩
  · rcases (mT_set h).1 hv with rfl | hv
    · exact hP P hc q
    · exact q v hv
  · rcases (mT_set h).1 hv with rfl | hv
    · exact c2 e
    · exact hv
end
/-- How many of the first variables are marked, and the numbers they get. -/
def rk (m : Mk) : Nat → Nat
  | 0 => 0
  | j + 1 => rk m j + if mkd m ((j + 1 : Nat) : Int) = true then 1 else 0
def nmF (m : Mk) (v : Nat) : Int := if v = 0 then 0 else if mkd m (v : Int) = true then (rk m v : Int) else 0
theorem rk_le (m : Mk) : ∀ j, rk m j ≤ j
  | 0 => Nat.le_refl _
  | j + 1 => by
    have := rk_le m j
    unfold rk
    split <;> omega
theorem put_len {l : List (Int × Int)} {k v : Int} (h : Mi_i_has l k = false) : (Mi_i_put l k v).length = l.length + 1 := by
  unfold Mi_i_has at h
  unfold Mi_i_put
  induction l with
  | nil => rfl
  | cons p r ih =>
    unfold mhas at h
    rw [Bool.or_eq_false_iff] at h
    unfold mput
    rw [h.1]
    simp only [List.length_cons]
    rw [ih h.2]
theorem numM_len {m : Mk} : ∀ j, (numM m j).length = rk m j + 1
  | 0 => rfl
  | j + 1 => by
    have ih := numM_len (m := m) j
    rw [numM_succ, rk]
    split
    · rw [put_len (by rw [numM_has (by omega), decide_eq_false (by omega)]; rfl), ih]
    · exact ih
theorem numM_get {m : Mk} : ∀ {j v : Nat}, v ≤ j → Mi_i_get (numM m j) (v : Int) 0 = nmF m v
  | 0, v, h => by
    have : v = 0 := by omega
    subst this
    exact mi_same
  | j + 1, v, h => by
    rw [numM_succ]
    by_cases e : v = j + 1
    · subst e
      have none : ∀ j v : Nat, j < v → Mi_i_get (numM m j) (v : Int) 0 = 0 := by
        intro j
        induction j with
        | zero => intro v hv; exact mi_other (by omega)
        | succ j ih =>
          intro v hv
          rw [numM_succ]
          split
          · rw [mi_other (by omega)]; exact ih v (by omega)
          · exact ih v (by omega)
      by_cases hm : mkd m ((j + 1 : Nat) : Int) = true
      · rw [if_pos hm, mi_same, numM_len]
        unfold nmF
        rw [if_neg (by omega), if_pos hm, rk, if_pos hm]
      · rw [if_neg hm]
        unfold nmF
        rw [if_neg (by omega), if_neg hm]
        exact none j (j + 1) (by omega)
    · have ih := numM_get (m := m) (j := j) (v := v) (by omega)
      split
      · rw [mi_other (by omega)]; exact ih
      · exact ih
section
variable {n ins : Nat} {G : List Kii} {iL oL : List Kiii} {lL : List Kiibii} {m : Mk}
/-- The document's sorted outs. -/
theorem selO_mem {q : Nat} (hq : q < oL.length) : ∀ x ∈ selO oL q, ∃ j : Nat, j < oL.length ∧ x = Kiii_at oL (j : Int) := fun x hx => by
  rcases List.mem_cons.1 hx with rfl | hx
  · exact ⟨q, hq, rfl⟩
  · obtain ⟨j, hj, rfl⟩ := List.mem_map.1 hx
    exact ⟨j, (pickN_mem.1 hj).1, rfl⟩
theorem selO_len {q : Nat} : (selO oL q).length ≤ oL.length + 1 := by
  have := pickN_le (p := fun j => decide (j ≠ q) && decide ((Kiii_at oL (j : Int)).1 = 9)) (j := oL.length)
  simp only [selO, List.length_cons, List.length_map]
  omega
/-- Marks: the program's are the document's. -/
theorem marks_eq (c : CircR ins G iL lL oL) {q : Nat} (hq : q < oL.length) {M M0 : List Bool} (h0 : ∀ x ∈ selO oL q, mT M0 (x.2.1 / 2).toNat) (h1 : ∀ v, mT M0 v → ∃ x ∈ selO oL q, v = (x.2.1 / 2).toNat) (hl : M0.length = ins + 1 + G.length) (hg : Grow ins G lL M0 M) (hc : CloP ins G lL (mT M)) (hm : MarkR G iL lL (ins + 1 + G.length) ((selO oL q).map (·.2.1)) (Mi_b_put [] 0 true) m) {v : Nat} (hv : 1 ≤ v) : Kb_at M (v : Int) = mkd m (v : Int) := by
  have hs := c.sum
  have hlit : ∀ x ∈ selO oL q, LitG ins G x.2.1 := fun x hx => by
    obtain ⟨j, hj, rfl⟩ := selO_mem hq x hx
    exact (c.o j hj).2.2.2
  have old : ∀ v : Int, v ≠ 0 → mkd m v = true → ∀ y ∈ kids G iL lL v, mkd m (y / 2) = true := fun v h0 h1 => (hm.new v h1 (first_mk h0)).2.2
  have a1 : mT M v → mkd m (v : Int) = true := hg.sound (fun v => mkd m (v : Int) = true) ⟨fun k hk hp => by
    obtain ⟨c1, c2, c3, c40, c41⟩ := c.l k hk
    have hp' : mkd m (Kiibii_at lL (k : Int)).1 = true := by
      rw [show (((Kiibii_at lL (k : Int)).1.toNat : Nat) : Int) = (Kiibii_at lL (k : Int)).1 by omega] at hp
      exact hp
    have := old _ (by omega) hp' (Kiibii_at lL (k : Int)).2.1 (by
      unfold kids
      rw [if_neg (by omega), if_pos (by omega), show (Kiibii_at lL (k : Int)).1 - iL.length - 1 = (k : Int) by omega]
      simp)
    show mkd m _ = true
    rwa [show ((((Kiibii_at lL (k : Int)).2.1 / 2).toNat : Nat) : Int) = (Kiibii_at lL (k : Int)).2.1 / 2 by omega], fun k hk hp => by
    have ha := c.r.a k hk
    have hp' : mkd m ((ins + 1 + k : Nat) : Int) = true := hp
    have hk2 := old _ (by omega) hp'
    unfold kids at hk2
    rw [if_neg (by omega), if_neg (by omega), show ((ins + 1 + k : Nat) : Int) - iL.length - lL.length - 1 = (k : Int) by omega] at hk2
    constructor
    · show mkd m _ = true
      rw [show ((((Kii_at G (k : Int)).1 / 2).toNat : Nat) : Int) = (Kii_at G (k : Int)).1 / 2 by omega]
      exact hk2 _ (by simp)
    · show mkd m _ = true
      rw [show ((((Kii_at G (k : Int)).2 / 2).toNat : Nat) : Int) = (Kii_at G (k : Int)).2 / 2 by omega]
      exact hk2 _ (by simp)⟩ (fun v hv => by
    obtain ⟨x, hx, rfl⟩ := h1 v hv
    have hl := (hlit x hx).1
    show mkd m _ = true
    rw [show (((x.2.1 / 2).toNat : Nat) : Int) = x.2.1 / 2 by omega]
    exact hm.root _ (List.mem_map.2 ⟨x, hx, rfl⟩)) v
  have a2 : mkd m (v : Int) = true → mT M v := fun hmk => by
    have := hm.sound (fun w => 0 ≤ w ∧ mT M w.toNat) (fun x hx => by
      obtain ⟨y, hy, rfl⟩ := List.mem_map.1 hx
      have hl := (hlit y hy).1
      exact ⟨by omega, hg.mono _ (h0 y hy)⟩) (fun w hw y hy => by
      obtain ⟨w0, hw⟩ := hw
      obtain ⟨w, rfl⟩ := Int.eq_ofNat_of_zero_le w0
      rw [Int.toNat_natCast] at hw
      unfold kids at hy
      by_cases c1 : (w : Int) ≤ iL.length
      · rw [if_pos c1] at hy; simp at hy
      rw [if_neg c1] at hy
      by_cases c2 : (w : Int) ≤ (iL.length : Int) + lL.length
      · rw [if_pos c2] at hy
        obtain ⟨k, rfl⟩ : ∃ k, w = iL.length + 1 + k := ⟨w - iL.length - 1, by omega⟩
        rw [show ((iL.length + 1 + k : Nat) : Int) - iL.length - 1 = (k : Int) by omega, List.mem_singleton] at hy
        obtain ⟨d1, d2, d3, d40, d41⟩ := c.l k (by omega)
        rw [hy]
        exact ⟨by omega, hc.l k (by omega) (by rw [d1, show ((iL.length : Int) + (k : Int) + 1).toNat = iL.length + 1 + k by omega]; exact hw)⟩
      · rw [if_neg c2] at hy
        have hlt := mT_lt hw
        have hgl := hg.len
        obtain ⟨k, rfl⟩ : ∃ k, w = ins + 1 + k := ⟨w - ins - 1, by omega⟩
        have hk : k < G.length := by omega
        have ha := c.r.a k hk
        rw [show ((ins + 1 + k : Nat) : Int) - iL.length - lL.length - 1 = (k : Int) by omega] at hy
        have hcl := hc.a k hk hw
        simp only [List.mem_cons, List.not_mem_nil, or_false] at hy
        rcases hy with rfl | rfl
        · exact ⟨by omega, hcl.1⟩
        · exact ⟨by omega, hcl.2⟩) _ hmk
    rcases this with h | h
    · rw [first_mk (by omega)] at h; cases h
    · have := h.2
      rwa [Int.toNat_natCast] at this
  unfold mT at a1 a2
  cases hb : Kb_at M (v : Int) with
  | true => exact (a1 hb).symm
  | false =>
    cases hb2 : mkd m (v : Int) with
    | true => rw [a2 hb2] at hb; cases hb
    | false => rfl
theorem nmF_at {T v : Nat} (h : v ≤ T) : Ki_at ((List.range (T + 1)).map (nmF m)) (v : Int) = Mi_i_get (numM m T) (v : Int) 0 := by
  rw [numM_get h]
  exact at_range (t := i_) (by omega)
theorem nmF_bnd {T : Nat} (v : Nat) (h : v ≤ T) : 0 ≤ nmF m v ∧ nmF m v ≤ T := by
  have := rk_le m v
  unfold nmF
  split
  · omega
  · split <;> omega
end
section
variable {n ins T : Nat} {G : List Kii} {iL oL sO : List Kiii} {lL : List Kiibii} {m : Mk} {M : List Bool}
end
def I64 (x : Int) : Prop := -9223372036854775808 ≤ x ∧ x ≤ 9223372036854775807
def EntP (ins : Int) (g : List Kii) (j : Nat) : Prop := 2 ≤ (Kii_at g (j : Int)).1 ∧ (Kii_at g (j : Int)).1 < (Kii_at g (j : Int)).2 ∧ (Kii_at g (j : Int)).2 / 2 ≤ ins + j ∧ (Kii_at g (j : Int)).1 / 2 ≠ (Kii_at g (j : Int)).2 / 2 ∧ ∀ i : Nat, i < j → Kii_at g (i : Int) ≠ Kii_at g (j : Int)
def AigP (ins : Int) (g : List Kii) : Prop := 0 ≤ ins ∧ ins ≤ 1048576 ∧ ins + g.length ≤ 1048576 ∧ ∀ j : Nat, j < g.length → EntP ins g j
section
variable {n : Nat} {ins : Int} {g : List Kii}
theorem find_ex {p q : Int} {j : Nat} (hj : j ≤ g.length) (hl : g.length ≤ 1000) (hn : 30000 < n) : ∃ x : Int, ref13_find n ins g p q (j : Int) = some (x, ()) ∧ (0 ≤ x ↔ ∃ i : Nat, i < j ∧ Kii_at g (i : Int) = (p, q)) := by
  have l := iter_all (F := ref13_find_l1b n g p q (j : Int)) (fun k => ((k : Int), ())) (fun k => Kii_at g (k : Int) ≠ (p, q)) (fun k => ((k : Int), ())) () (len := j) (m := n)
    (fun self k hk _ ok => by
      unfold ref13_find_l1b
      simp only [cond_dec]
      rw [if_pos (by omega), ask_of (by omega), ask_of (by omega), succ64 (by omega)]
      by_cases h1 : (Kii_at g (k : Int)).1 = p
      · rw [if_pos h1, ask_of (by omega), ask_of (by omega), if_neg fun h2 => ok (by rw [← h1, ← h2])]
      · rw [if_neg h1])
    (fun self k hk _ ok => by
      have h := Classical.not_not.1 ok
      unfold ref13_find_l1b
      simp only [cond_dec]
      rw [if_pos (by omega), ask_of (by omega), ask_of (by omega), if_pos (by rw [h]), ask_of (by omega), ask_of (by omega), if_pos (by rw [h])])
    (fun _ self => by
      unfold ref13_find_l1b
      simp only [cond_dec]
      rw [if_neg (by omega)]) (by omega)
  unfold ref13_find ref13_find_l1
  rcases l with ⟨h, e⟩ | ⟨k, hk, -, ok, e⟩
  · rw [show iter (ref13_find_l1b n g p q (j : Int)) n (0, ()) = _ from e]
    refine ⟨-1, rfl, ⟨fun q => by omega, ?_⟩⟩
    rintro ⟨i, hi, hx⟩
    exact absurd hx (h i hi)
  · rw [show iter (ref13_find_l1b n g p q (j : Int)) n (0, ()) = _ from e]
    exact ⟨(k : Int), rfl, ⟨fun _ => ⟨k, hk, Classical.not_not.1 ok⟩, fun _ => by omega⟩⟩
theorem raig_iff (hi : I64 ins) (hg : g.length ≤ 1000) (hv : ∀ j : Nat, j < g.length → I64 (Kii_at g (j : Int)).1 ∧ I64 (Kii_at g (j : Int)).2) (hn : 30000 < n) : ∃ b : Bool, ref13_Right n ins g = some (b, ()) ∧ (b = true ↔ AigP ins g) := by
  unfold I64 at hi hv
  unfold ref13_Right
  simp only [cond_dec]
  by_cases h1 : ins < 0
  · exact ⟨false, by rw [if_pos h1], by simp; exact fun q => by have := q.1; omega⟩
  rw [if_neg h1]
  by_cases h2 : 1048576 < ins
  · exact ⟨false, by rw [if_pos h2], by simp; exact fun q => by have := q.2.1; omega⟩
  rw [if_neg h2, if_neg (by omega), w64 (by omega) (by omega)]
  by_cases h3 : 1048576 < ins + (g.length : Int)
  · exact ⟨false, by rw [if_pos h3], by simp; exact fun q => by have := q.2.2.1; omega⟩
  rw [if_neg h3]
  have l := iter_all (F := ref13_Right_l1b n ins g) (fun j => ((j : Int), ())) (EntP ins g) (fun _ => (false, ())) () (len := g.length) (m := n)
    (fun self j hj _ hk => by
      obtain ⟨a1, a2, a3, a4, a5⟩ := hk
      have hvj := hv j hj
      obtain ⟨x, e, hx⟩ := find_ex (n := n) (ins := ins) (g := g) (p := (Kii_at g (j : Int)).1) (q := (Kii_at g (j : Int)).2) (j := j) (by omega) hg hn
      have hx' : ¬ 0 ≤ x := fun q => by
        obtain ⟨i, hi, h⟩ := hx.1 q
        exact a5 i hi h
      unfold ref13_Right_l1b
      simp only [cond_dec]
      rw [if_pos (by omega), ask_of (by omega), ask_of (by omega), ask_of (by omega), ask_of (by omega), if_neg (by omega), if_neg (by omega), ask_of (by omega), tdiv2 (show 0 ≤ (Kii_at g (j : Int)).2 by omega), tdiv2 (show 0 ≤ (Kii_at g (j : Int)).1 by omega), w64 (n := ins + (j : Int)) (by omega) (by omega), w64 (n := (Kii_at g (j : Int)).2 / 2) (by omega) (by omega), w64 (n := (Kii_at g (j : Int)).1 / 2) (by omega) (by omega), if_neg (by omega), ask_of (by omega), ask_of (by omega), if_neg a4, e, bindS, if_neg hx', succ64 (by omega)])
    (fun self j hj _ hk => by
      have hvj := hv j hj
      obtain ⟨x, e, hx⟩ := find_ex (n := n) (ins := ins) (g := g) (p := (Kii_at g (j : Int)).1) (q := (Kii_at g (j : Int)).2) (j := j) (by omega) hg hn
      unfold ref13_Right_l1b
      simp only [cond_dec]
      rw [if_pos (by omega), ask_of (by omega), ask_of (by omega), ask_of (by omega), ask_of (by omega)]
      by_cases h1 : (Kii_at g (j : Int)).1 < 2
      · rw [if_pos h1]
      rw [if_neg h1]
      by_cases h2 : (Kii_at g (j : Int)).2 ≤ (Kii_at g (j : Int)).1
      · rw [if_pos h2]
      rw [if_neg h2, ask_of (by omega), tdiv2 (show 0 ≤ (Kii_at g (j : Int)).2 by omega), tdiv2 (show 0 ≤ (Kii_at g (j : Int)).1 by omega), w64 (n := ins + (j : Int)) (by omega) (by omega), w64 (n := (Kii_at g (j : Int)).2 / 2) (by omega) (by omega), w64 (n := (Kii_at g (j : Int)).1 / 2) (by omega) (by omega)]
      by_cases h3 : ins + (j : Int) < (Kii_at g (j : Int)).2 / 2
      · rw [if_pos h3]
      rw [if_neg h3, ask_of (by omega), ask_of (by omega)]
      by_cases h4 : (Kii_at g (j : Int)).1 / 2 = (Kii_at g (j : Int)).2 / 2
      · rw [if_pos h4]
      rw [if_neg h4, e, bindS]
      by_cases h5 : 0 ≤ x
      · rw [if_pos h5]
      exact absurd ⟨by omega, by omega, by omega, h4, fun i hi q => h5 (hx.2 ⟨i, hi, q⟩)⟩ hk)
    (fun _ self => by
      unfold ref13_Right_l1b
      simp only [cond_dec]
      rw [if_neg (by omega)]) (by omega)
  unfold ref13_Right_l1
  rcases l with ⟨h, e⟩ | ⟨j, hj, -, hk, e⟩
  · rw [show iter (ref13_Right_l1b n ins g) n (0, ()) = _ from e]
    exact ⟨true, rfl, by simp; exact ⟨by omega, by omega, by omega, h⟩⟩
  · rw [show iter (ref13_Right_l1b n ins g) n (0, ()) = _ from e]
    exact ⟨false, rfl, by simp; exact fun q => hk (q.2.2.2 j hj)⟩
end
def LitP (ins : Int) (g : List Kii) (x : Int) : Prop := 0 ≤ x ∧ x / 2 ≤ ins + g.length
instance {ins : Int} {g : List Kii} {x : Int} : Decidable (LitP ins g x) := inferInstanceAs (Decidable (_ ∧ _))
def InP (L : List Kiii) (j : Nat) : Prop := (Kiii_at L (j : Int)).1 = (j : Int) + 1 ∧ 0 ≤ (Kiii_at L (j : Int)).2.1 ∧ 0 ≤ (Kiii_at L (j : Int)).2.2 ∧ ∀ k : Nat, j = k + 1 → lex (Kiii_at L (k : Int)).2.1 (Kiii_at L (k : Int)).2.2 (Kiii_at L (j : Int)).2.1 (Kiii_at L (j : Int)).2.2
def LaP (ins : Int) (g : List Kii) (nI : Nat) (L : List Kiibii) (j : Nat) : Prop := (Kiibii_at L (j : Int)).1 = (nI : Int) + (j : Int) + 1 ∧ LitP ins g (Kiibii_at L (j : Int)).2.1 ∧ 0 ≤ (Kiibii_at L (j : Int)).2.2.2.1 ∧ 0 ≤ (Kiibii_at L (j : Int)).2.2.2.2 ∧ ∀ k : Nat, j = k + 1 → lex (Kiibii_at L (k : Int)).2.2.2.1 (Kiibii_at L (k : Int)).2.2.2.2 (Kiibii_at L (j : Int)).2.2.2.1 (Kiibii_at L (j : Int)).2.2.2.2
def OuP (ins : Int) (g : List Kii) (L : List Kiii) (j : Nat) : Prop := 8 ≤ (Kiii_at L (j : Int)).1 ∧ (Kiii_at L (j : Int)).1 ≤ 10 ∧ 0 ≤ (Kiii_at L (j : Int)).2.2 ∧ LitP ins g (Kiii_at L (j : Int)).2.1
def CirP (ins : Int) (g : List Kii) (iL : List Kiii) (lL : List Kiibii) (oL : List Kiii) : Prop := AigP ins g ∧ lL.length ≤ 256 ∧ (iL.length : Int) + lL.length = ins ∧ (∀ j : Nat, j < iL.length → InP iL j) ∧ (∀ j : Nat, j < lL.length → LaP ins g iL.length lL j) ∧ ∀ j : Nat, j < oL.length → OuP ins g oL j
section
variable {n : Nat} {ins : Int} {G : List Kii} {iL oL : List Kiii} {lL : List Kiibii}
theorem rises_ex (a b c d : Int) : ref15_rises n a b c d = some (decide (a < c ∨ a = c ∧ b < d), ()) := by
  unfold ref15_rises
  simp only [cond_dec]
  by_cases h : a < c
  · rw [if_pos h, decide_eq_true (.inl h)]
  · rw [if_neg h]
    by_cases h2 : a = c
    · rw [if_pos h2]
      congr 2
      simp only [decide_eq_decide]
      exact ⟨fun q => .inr ⟨h2, q⟩, fun q => (q.resolve_left h).2⟩
    · rw [if_neg h2, decide_eq_false (fun q => h2 (q.resolve_left h).1)]
theorem lit_ex {x : Int} (ha : AigP ins G) (hx : I64 x) : ref15_literal n ins G x = some (decide (LitP ins G x), ()) := by
  obtain ⟨h0, h1, h2, -⟩ := ha
  unfold I64 at hx
  unfold ref15_literal
  simp only [cond_dec]
  by_cases c : 0 ≤ x
  · rw [if_pos c, ask_of (by omega), tdiv2 c, w64 (n := x / 2) (by omega) (by omega), w64 (by omega) (by omega)]
    congr 2
    simp only [decide_eq_decide]
    unfold LitP
    omega
  · rw [if_neg c, decide_eq_false (show ¬ LitP ins G x from fun q => c q.1)]
theorem scan {σ : Type} {γ : Type} {F : (σ → Option ((Bool × Unit) ⊕ γ)) → σ → Option ((Bool × Unit) ⊕ γ)} (st : Nat → σ) (ok : Nat → Prop) (yes : γ) {len : Nat}
    (h1 : ∀ self j, j < len → ok j → F self (st j) = self (st (j + 1))) (h2 : ∀ self j, j < len → ¬ ok j → F self (st j) = some (.inl (false, ()))) (h3 : ∀ self, F self (st len) = some (.inr yes)) {m : Nat} (hm : len < m) :
    ((∀ i, i < len → ok i) ∧ iter F m (st 0) = some (.inr yes)) ∨ (¬ (∀ i, i < len → ok i) ∧ iter F m (st 0) = some (.inl (false, ()))) := by
  rcases iter_all (F := F) st ok (fun _ => (false, ())) yes (fun self j hj _ hk => h1 self j hj hk) (fun self j hj _ hk => h2 self j hj hk) (fun _ self => h3 self) hm with ⟨h, e⟩ | ⟨j, hj, -, hk, e⟩
  · exact .inl ⟨h, e⟩
  · exact .inr ⟨fun q => hk (q j hj), e⟩
theorem tails {A : Prop} {X1 X2 X3 : Prop} {γ1 γ2 γ3 : Type} {l1 : Option ((Bool × Unit) ⊕ γ1)} {l2 : Option ((Bool × Unit) ⊕ γ2)} {l3 : Option ((Bool × Unit) ⊕ γ3)} {y1 : γ1} {y2 : γ2} {y3 : γ3} (e1 : X1 ∧ l1 = some (.inr y1) ∨ ¬ X1 ∧ l1 = some (.inl (false, ()))) (e2 : X2 ∧ l2 = some (.inr y2) ∨ ¬ X2 ∧ l2 = some (.inl (false, ()))) (e3 : X3 ∧ l3 = some (.inr y3) ∨ ¬ X3 ∧ l3 = some (.inl (false, ()))) (a : A) : ∃ b : Bool, (l1.bind (Sum.elim (fun d12 => some (d12.1, ())) (fun d13 => l2.bind (Sum.elim (fun d20 => some (d20.1, ())) (fun d21 => l3.bind (Sum.elim (fun d25 => some (d25.1, ())) (fun d26 => some (true, ())))))))) = some (b, ()) ∧ (b = true ↔ A ∧ X1 ∧ X2 ∧ X3) := by
  rcases e1 with ⟨h1, e1⟩ | ⟨h1, e1⟩
  · rcases e2 with ⟨h2, e2⟩ | ⟨h2, e2⟩
    · rcases e3 with ⟨h3, e3⟩ | ⟨h3, e3⟩
      · exact ⟨true, by rw [e1, e2, e3]; rfl, by simp [a, h1, h2, h3]⟩
      · exact ⟨false, by rw [e1, e2, e3]; rfl, by simp [h3]⟩
    · exact ⟨false, by rw [e1, e2]; rfl, by simp [h2]⟩
  · exact ⟨false, by rw [e1]; rfl, by simp [h1]⟩
structure RawC (ins : Int) (G : List Kii) (iL : List Kiii) (lL : List Kiibii) (oL : List Kiii) : Prop where
  i : I64 ins
  g : G.length ≤ 200
  gl : ∀ j : Nat, j < G.length → I64 (Kii_at G (j : Int)).1 ∧ I64 (Kii_at G (j : Int)).2
  il : iL.length ≤ 100
  ll : lL.length ≤ 300
  ol : oL.length ≤ 100
  lx : ∀ j : Nat, j < lL.length → I64 (Kiibii_at lL (j : Int)).2.1
  ox : ∀ j : Nat, j < oL.length → I64 (Kiii_at oL (j : Int)).2.1
theorem rcirc_iff (h : RawC ins G iL lL oL) (hn : 30000 < n) : ∃ b : Bool, ref15_Right n ins G iL lL oL = some (b, ()) ∧ (b = true ↔ CirP ins G iL lL oL) := by
  have hg := h.g
  have hil := h.il
  have hll := h.ll
  have hol := h.ol
  obtain ⟨b0, e0, hb0⟩ := raig_iff (n := n) h.i (by omega) h.gl hn
  unfold ref15_Right
  rw [e0, bindS]
  cases b0 with
  | false => exact ⟨false, rfl, by simp; exact fun q => by simpa using hb0.2 q.1⟩
  | true =>
  have ha := hb0.1 rfl
  obtain ⟨a0, a1, a2, a3⟩ := id ha
  simp only [Bool.not_true, cond_false, cond_dec]
  by_cases h2 : (256 : Int) < (lL.length : Int)
  · exact ⟨false, by rw [if_pos h2], by simp; exact fun q => by have := q.2.1; omega⟩
  rw [if_neg h2, w64 (by omega) (by omega)]
  by_cases h3 : (iL.length : Int) + (lL.length : Int) ≠ ins
  · exact ⟨false, by rw [if_pos h3], by simp; exact fun q => h3 q.2.2.1⟩
  rw [if_neg h3]
  have l1 := scan (F := ref15_Right_l1b n iL) (fun j => ((j : Int), ())) (InP iL) () (len := iL.length) (m := n)
    (fun self j hj hk => by
      obtain ⟨q1, q2, q3, q4⟩ := hk
      unfold ref15_Right_l1b
      simp only [cond_dec]
      rw [if_pos (by omega), ask_of (by omega), ask_of (by omega), succ64 (by omega), if_neg (by omega), ask_of (by omega), if_neg (by omega), ask_of (by omega), if_neg (by omega)]
      cases j with
      | zero => rw [if_neg (by omega)]
      | succ k =>
        have hp := q4 k rfl
        unfold lex at hp
        have e : IntKind.wrap .i64 (((k + 1 : Nat) : Int) - 1) = (k : Int) := by rw [w64 (by omega) (by omega)]; omega
        rw [if_pos (by omega), e, ask_of (by omega), ask_of (by omega), ask_of (by omega), ask_of (by omega), ask_of (by omega), ask_of (by omega), rises_ex, decide_eq_true hp, bindS]
        rfl)
    (fun self j hj hk => by
      unfold ref15_Right_l1b
      simp only [cond_dec]
      rw [if_pos (by omega), ask_of (by omega), ask_of (by omega), succ64 (by omega)]
      by_cases c1 : (Kiii_at iL (j : Int)).1 ≠ ((j + 1 : Nat) : Int)
      · rw [if_pos c1]
      rw [if_neg c1, ask_of (by omega)]
      by_cases c2 : (Kiii_at iL (j : Int)).2.1 < 0
      · rw [if_pos c2]
      rw [if_neg c2, ask_of (by omega)]
      by_cases c3 : (Kiii_at iL (j : Int)).2.2 < 0
      · rw [if_pos c3]
      rw [if_neg c3]
      cases j with
      | zero => exact absurd ⟨by omega, by omega, by omega, fun k e => by omega⟩ hk
      | succ k =>
        have e : IntKind.wrap .i64 (((k + 1 : Nat) : Int) - 1) = (k : Int) := by rw [w64 (by omega) (by omega)]; omega
        have hno : ¬ lex (Kiii_at iL (k : Int)).2.1 (Kiii_at iL (k : Int)).2.2 (Kiii_at iL ((k + 1 : Nat) : Int)).2.1 (Kiii_at iL ((k + 1 : Nat) : Int)).2.2 := fun q => hk ⟨by omega, by omega, by omega, fun m e => by
          have : m = k := by omega
          subst this; exact q⟩
        unfold lex at hno
        rw [if_pos (by omega), e, ask_of (by omega), ask_of (by omega), ask_of (by omega), ask_of (by omega), ask_of (by omega), ask_of (by omega), rises_ex, decide_eq_false hno, bindS]
        rfl)
    (fun self => by
      unfold ref15_Right_l1b
      simp only [cond_dec]
      rw [if_neg (by omega)]) (by omega)
  have l2 := scan (F := ref15_Right_l2b n ins G iL lL) (fun j => ((j : Int), ())) (LaP ins G iL.length lL) () (len := lL.length) (m := n)
    (fun self j hj hk => by
      obtain ⟨q1, q0, q2, q3, q4⟩ := hk
      unfold ref15_Right_l2b
      simp only [cond_dec]
      rw [if_pos (by omega), ask_of (by omega), succ64 (by omega), w64 (n := (iL.length : Int) + (j : Int)) (by omega) (by omega), w64 (by omega) (by omega), if_neg (by omega), if_neg (by omega), if_neg (by omega), lit_ex ha (h.lx j hj), bindS, decide_eq_true q0]
      simp only [Bool.not_true, cond_false]
      cases j with
      | zero => rw [if_neg (by omega)]
      | succ k =>
        have hp := q4 k rfl
        unfold lex at hp
        have e : IntKind.wrap .i64 (((k + 1 : Nat) : Int) - 1) = (k : Int) := by rw [w64 (by omega) (by omega)]; omega
        rw [if_pos (by omega), e, ask_of (by omega), ask_of (by omega), rises_ex, decide_eq_true hp, bindS]
        rfl)
    (fun self j hj hk => by
      unfold ref15_Right_l2b
      simp only [cond_dec]
      rw [if_pos (by omega), ask_of (by omega), succ64 (by omega), w64 (n := (iL.length : Int) + (j : Int)) (by omega) (by omega), w64 (by omega) (by omega)]
      by_cases c1 : (Kiibii_at lL (j : Int)).1 ≠ (iL.length : Int) + (j : Int) + 1
      · rw [if_pos c1]
      by_cases c2 : (Kiibii_at lL (j : Int)).2.2.2.1 < 0
      · rw [if_neg c1, if_pos c2]
      by_cases c3 : (Kiibii_at lL (j : Int)).2.2.2.2 < 0
      · rw [if_neg c1, if_neg c2, if_pos c3]
      rw [if_neg c1, if_neg c2, if_neg c3, lit_ex ha (h.lx j hj), bindS]
      by_cases c0 : LitP ins G (Kiibii_at lL (j : Int)).2.1
      · rw [decide_eq_true c0]
        simp only [Bool.not_true, cond_false]
        cases j with
        | zero => exact absurd ⟨by omega, c0, by omega, by omega, fun k e => by omega⟩ hk
        | succ k =>
          have e : IntKind.wrap .i64 (((k + 1 : Nat) : Int) - 1) = (k : Int) := by rw [w64 (by omega) (by omega)]; omega
          have hno : ¬ lex (Kiibii_at lL (k : Int)).2.2.2.1 (Kiibii_at lL (k : Int)).2.2.2.2 (Kiibii_at lL ((k + 1 : Nat) : Int)).2.2.2.1 (Kiibii_at lL ((k + 1 : Nat) : Int)).2.2.2.2 := fun q => hk ⟨by omega, c0, by omega, by omega, fun m e => by
            have : m = k := by omega
            subst this; exact q⟩
          unfold lex at hno
          rw [if_pos (by omega), e, ask_of (by omega), ask_of (by omega), rises_ex, decide_eq_false hno, bindS]
          rfl
      · rw [decide_eq_false c0]
        rfl)
    (fun self => by
      unfold ref15_Right_l2b
      simp only [cond_dec]
      rw [if_neg (by omega)]) (by omega)
  have l3 := scan (F := ref15_Right_l3b n ins G oL) (fun j => ((j : Int), ())) (OuP ins G oL) () (len := oL.length) (m := n)
    (fun self j hj hk => by
      obtain ⟨q1, q2, q3, q4⟩ := hk
      unfold ref15_Right_l3b
      simp only [cond_dec]
      rw [if_pos (by omega), ask_of (by omega), if_neg (by omega), if_neg (by omega), if_neg (by omega), lit_ex ha (h.ox j hj), bindS, decide_eq_true q4, succ64 (by omega)]
      rfl)
    (fun self j hj hk => by
      unfold ref15_Right_l3b
      simp only [cond_dec]
      rw [if_pos (by omega), ask_of (by omega)]
      by_cases c1 : (Kiii_at oL (j : Int)).1 < 8
      · rw [if_pos c1]
      by_cases c2 : 10 < (Kiii_at oL (j : Int)).1
      · rw [if_neg c1, if_pos c2]
      by_cases c3 : (Kiii_at oL (j : Int)).2.2 < 0
      · rw [if_neg c1, if_neg c2, if_pos c3]
      rw [if_neg c1, if_neg c2, if_neg c3, lit_ex ha (h.ox j hj), bindS, decide_eq_false (fun q => hk ⟨by omega, by omega, by omega, q⟩)]
      rfl)
    (fun self => by
      unfold ref15_Right_l3b
      simp only [cond_dec]
      rw [if_neg (by omega)]) (by omega)
  obtain ⟨b, e, hb⟩ := tails (A := AigP ins G ∧ lL.length ≤ 256 ∧ (iL.length : Int) + lL.length = ins) l1 l2 l3 ⟨ha, by omega, Classical.not_not.1 h3⟩
  refine ⟨b, e, hb.trans ?_⟩
  unfold CirP
  exact ⟨fun ⟨⟨x1, x2, x3⟩, x4, x5, x6⟩ => ⟨x1, x2, x3, x4, x5, x6⟩, fun ⟨x1, x2, x3, x4, x5, x6⟩ => ⟨⟨x1, x2, x3⟩, x4, x5, x6⟩⟩
/-- A raw circuit that is right. -/
theorem raw_right (h : RawC ins G iL lL oL) (hl : lL.length ≤ 60) (c : CirP ins G iL lL oL) : CircR ins G iL lL oL := by
  obtain ⟨⟨a0, a1, a2, a3⟩, b1, b2, b3, b4, b5⟩ := c
  have hg := h.g
  have hil := h.il
  have hol := h.ol
  have lit : ∀ x, LitP ins G x → LitG ins G x := fun x hx => ⟨hx.1, by have := hx.2; omega⟩
  refine ⟨⟨a0, by omega, by omega, fun j hj => ?_, fun i j hij hj => (a3 j hj).2.2.2.2 i hij⟩, b2, by omega, by omega, fun j hj => ?_, fun j hj => ?_, fun j hj => ?_, fun j hj => ?_, fun j hj => ?_⟩
  · obtain ⟨q1, q2, q3, q4, -⟩ := a3 j hj
    exact ⟨q1, q2, q3, q4⟩
  · obtain ⟨q1, q2, q3, -⟩ := b3 j hj
    exact ⟨q1, q2, q3⟩
  · exact (b3 (j + 1) hj).2.2.2 j rfl
  · obtain ⟨q1, q2, q3, q4, -⟩ := b4 j hj
    exact ⟨q1, q3, q4, lit _ q2⟩
  · exact (b4 (j + 1) hj).2.2.2.2 j rfl
  · obtain ⟨q1, q2, q3, q4⟩ := b5 j hj
    exact ⟨q1, q2, q3, lit _ q4⟩
theorem sameInts_f {n : Nat} {x : List Int} (hx : x.length ≤ 6000) (hn : 30000 < n) : ref04_SameInts n x x = some (true, ()) := by
  have h := iter_up (F := ref04_SameInts_l1b n x x) (fun j => ((j : Int), ())) (.inr ()) (len := x.length) (m := n)
    (fun self j hj => by
      unfold ref04_SameInts_l1b
      simp only [cond_dec]
      rw [if_pos (by omega), ask_of (by omega), ask_of (by omega), if_neg (by simp), succ64 (by omega)])
    (fun self => by
      unfold ref04_SameInts_l1b
      simp only [cond_dec]
      rw [if_neg (by omega)]) (by omega)
  unfold ref04_SameInts ref04_SameInts_l1
  simp only [cond_dec]
  rw [if_neg (by simp), show iter (ref04_SameInts_l1b n x x) n (0, ()) = _ from h]
  rfl
theorem same13_f {n : Nat} {ins : Int} {g : List Kii} (hl : g.length ≤ 20000) (hn : 30000 < n) : ref13_Same n ins g ins g = some (true, ()) := by
  have h := iter_up (F := ref13_Same_l1b n g g) (fun j => ((j : Int), ())) (.inr ()) (len := g.length) (m := n)
    (fun self j hj => by
      unfold ref13_Same_l1b
      simp only [cond_dec]
      rw [if_pos (by omega), ask_of (by omega), ask_of (by omega), succ64 (by omega)]
      simp)
    (fun self => by
      unfold ref13_Same_l1b
      simp only [cond_dec]
      rw [if_neg (by omega)]) (by omega)
  unfold ref13_Same
  simp only [cond_dec]
  rw [if_neg (by simp), if_neg (by simp), show ref13_Same_l1 n g g (0, ()) = _ from h]
  rfl
/-- A circuit is the same as itself. -/
theorem same16_f (hG : G.length ≤ 20000) (hi : iL.length ≤ 5000) (hl : lL.length ≤ 5000) (ho : oL.length ≤ 5000) (hn : 30000 < n) : ref16_Same n ins G iL lL oL ins G iL lL oL = some (true, ()) := by
  have l1 := iter_up (F := ref16_Same_l1b n iL iL) (fun j => ((j : Int), ())) (.inr ()) (len := iL.length) (m := n)
    (fun self j hj => by
      unfold ref16_Same_l1b
      simp only [cond_dec]
      rw [if_pos (by omega), ask_of (by omega), ask_of (by omega), succ64 (by omega)]
      simp)
    (fun self => by
      unfold ref16_Same_l1b
      simp only [cond_dec]
      rw [if_neg (by omega)]) (by omega)
  have l2 := iter_up (F := ref16_Same_l2b n lL lL) (fun j => ((j : Int), ())) (.inr ()) (len := lL.length) (m := n)
    (fun self j hj => by
      unfold ref16_Same_l2b
      simp only [cond_dec]
      rw [if_pos (by omega), ask_of (by omega), ask_of (by omega), succ64 (by omega)]
      simp)
    (fun self => by
      unfold ref16_Same_l2b
      simp only [cond_dec]
      rw [if_neg (by omega)]) (by omega)
  have l3 := iter_up (F := ref16_Same_l3b n oL oL) (fun j => ((j : Int), ())) (.inr ()) (len := oL.length) (m := n)
    (fun self j hj => by
      unfold ref16_Same_l3b
      simp only [cond_dec]
      rw [if_pos (by omega), ask_of (by omega), ask_of (by omega), succ64 (by omega)]
      simp)
    (fun self => by
      unfold ref16_Same_l3b
      simp only [cond_dec]
      rw [if_neg (by omega)]) (by omega)
  unfold ref16_Same ref16_Same_l1 ref16_Same_l2 ref16_Same_l3
  simp only [cond_dec]
  rw [if_neg (by simp), if_neg (by simp), if_neg (by simp), same13_f hG hn, bindS]
  simp only [Bool.not_true, cond_false]
  rw [show iter (ref16_Same_l1b n iL iL) n (0, ()) = _ from l1, bindS, Sum.elim_inr, show iter (ref16_Same_l2b n lL lL) n (0, ()) = _ from l2, bindS, Sum.elim_inr, show iter (ref16_Same_l3b n oL oL) n (0, ()) = _ from l3, bindS, Sum.elim_inr]
end
theorem pickN_at {p : Nat → Bool} : ∀ {L k i : Nat}, (pickN p L)[k]? = some i → i < L ∧ p i = true ∧ (pickN p i).length = k
  | 0, k, i, h => by simp [pickN] at h
  | L + 1, k, i, h => by
    rw [pickN_succ] at h
    by_cases c : k < (pickN p L).length
    · rw [List.getElem?_append_left c] at h
      obtain ⟨h1, h2, h3⟩ := pickN_at h
      exact ⟨by omega, h2, h3⟩
    · rw [List.getElem?_append_right (by omega)] at h
      by_cases g : p L = true
      · rw [if_pos g] at h
        cases q : k - (pickN p L).length with
        | zero =>
          rw [q] at h
          simp at h
          subst h
          exact ⟨by omega, g, by omega⟩
        | succ z => rw [q] at h; simp at h
      · rw [if_neg g] at h; simp at h
theorem pickN_mono {p : Nat → Bool} {i j : Nat} (h : i ≤ j) : (pickN p i).length ≤ (pickN p j).length := by
  induction h with
  | refl => exact Nat.le_refl _
  | step _ ih => rw [pickN_succ, List.length_append]; omega
theorem pickN_of {p : Nat → Bool} : ∀ {L i : Nat}, i < L → p i = true → (pickN p L)[(pickN p i).length]? = some i
  | 0, i, h, _ => by omega
  | L + 1, i, h, g => by
    rw [pickN_succ]
    by_cases c : i < L
    · have := pickN_of c g
      rw [List.getElem?_append_left (List.getElem?_eq_some_iff.1 this).1]
      exact this
    · have e : i = L := by omega
      subst e
      rw [if_pos g, List.getElem?_append_right (Nat.le_refl _), Nat.sub_self]
      rfl
theorem pickN_get {p : Nat → Bool} {L k : Nat} (hk : k < (pickN p L).length) : (pickN p L)[k]? = some ((pickN p L).getD k 0) := by simp [List.getD, hk]
theorem pickN_bnd {p : Nat → Bool} {L k : Nat} (hk : k < (pickN p L).length) : (pickN p L).getD k 0 < L ∧ p ((pickN p L).getD k 0) = true ∧ (pickN p ((pickN p L).getD k 0)).length = k := pickN_at (pickN_get hk)
theorem pickN_inc {p : Nat → Bool} {L k : Nat} (hk : k + 1 < (pickN p L).length) : (pickN p L).getD k 0 < (pickN p L).getD (k + 1) 0 := pickN_lt (Nat.lt_succ_self k) (pickN_get (by omega)) (pickN_get hk)
/-- Ranks, piece by piece. -/
theorem rk_add {m : Mk} {a : Nat} : ∀ j : Nat, rk m (a + j) = rk m a + (pickN (fun i => mkd m ((a + i + 1 : Nat) : Int)) j).length
  | 0 => by simp [pickN]
  | j + 1 => by
    have ih := rk_add (m := m) (a := a) j
    rw [show a + (j + 1) = a + j + 1 by omega, rk, ih, pickN_succ, List.length_append]
    split <;> simp <;> omega
theorem rk_mono {m : Mk} {v w : Nat} (h : v ≤ w) : rk m v ≤ rk m w := by
  obtain ⟨j, rfl⟩ : ∃ j, w = v + j := ⟨w - v, by omega⟩
  rw [rk_add]
  omega
theorem rk_lt {m : Mk} {v w : Nat} (h : v < w) (hw : mkd m (w : Int) = true) : rk m v < rk m w := by
  obtain ⟨j, rfl⟩ : ∃ j, w = j + 1 := ⟨w - 1, by omega⟩
  have := rk_mono (m := m) (v := v) (w := j) (by omega)
  rw [rk, if_pos hw]
  omega
theorem rk_inj {m : Mk} {v w : Nat} (hv : mkd m (v : Int) = true) (hw : mkd m (w : Int) = true) (h : rk m v = rk m w) : v = w := by
  rcases Nat.lt_trichotomy v w with q | q | q
  · have := rk_lt q hw; omega
  · exact q
  · have := rk_lt q hv; omega
/-- A literal by ranks. -/
def litM (m : Mk) (x : Int) : Int := 2 * (rk m (x / 2).toNat : Int) + x % 2
def cI (m : Mk) (L : Nat) : List Nat := pickN (fun i => mkd m ((i + 1 : Nat) : Int)) L
def cB (m : Mk) (a L : Nat) : List Nat := pickN (fun i => mkd m ((a + i + 1 : Nat) : Int)) L
def coneA (m : Mk) (ins : Nat) (G : List Kii) : List Kii := (cB m ins G.length).map fun k : Nat => (litM m (Kii_at G (k : Int)).1, litM m (Kii_at G (k : Int)).2)
def coneI (m : Mk) (iL : List Kiii) : List Kiii := (cI m iL.length).map fun i : Nat => ((rk m (i + 1) : Int), (Kiii_at iL (i : Int)).2.1, (Kiii_at iL (i : Int)).2.2)
def coneL (m : Mk) (nI : Nat) (lL : List Kiibii) : List Kiibii := (cB m nI lL.length).map fun i : Nat => ((rk m (nI + i + 1) : Int), litM m (Kiibii_at lL (i : Int)).2.1, (Kiibii_at lL (i : Int)).2.2.1, (Kiibii_at lL (i : Int)).2.2.2.1, (Kiibii_at lL (i : Int)).2.2.2.2)
def coneO (m : Mk) (sO : List Kiii) : List Kiii := (List.range sO.length).map fun j : Nat => ((Kiii_at sO (j : Int)).1, litM m (Kiii_at sO (j : Int)).2.1, (Kiii_at sO (j : Int)).2.2)
/-- Marks that hold what they hang on. -/
structure MkC (ins : Nat) (G : List Kii) (iL : List Kiii) (lL : List Kiibii) (sO : List Kiii) (m : Mk) : Prop where
  z : mkd m 0 = true
  o : ∀ x ∈ sO, mkd m (x.2.1 / 2) = true
  l : ∀ k : Nat, k < lL.length → mkd m ((iL.length + k + 1 : Nat) : Int) = true → mkd m ((Kiibii_at lL (k : Int)).2.1 / 2) = true
  a : ∀ k : Nat, k < G.length → mkd m ((ins + k + 1 : Nat) : Int) = true → mkd m ((Kii_at G (k : Int)).1 / 2) = true ∧ mkd m ((Kii_at G (k : Int)).2 / 2) = true
section
variable {n ins : Nat} {G : List Kii} {iL oL sO : List Kiii} {lL : List Kiibii} {m : Mk}
theorem MarkR.clo (c : CircR ins G iL lL oL) (h : MarkR G iL lL (ins + 1 + G.length) (sO.map (·.2.1)) (Mi_b_put [] 0 true) m) : MkC ins G iL lL sO m := by
  have hs := c.sum
  have old : ∀ v : Int, v ≠ 0 → mkd m v = true → ∀ y ∈ kids G iL lL v, mkd m (y / 2) = true := fun v h0 h1 => (h.new v h1 (first_mk h0)).2.2
  refine ⟨h.mono _ mk_same, fun x hx => h.root _ (List.mem_map.2 ⟨x, hx, rfl⟩), fun k hk hm => ?_, fun k hk hm => ?_⟩
  · refine old _ (by omega) hm _ ?_
    unfold kids
    rw [if_neg (by omega), if_pos (by omega), show ((iL.length + k + 1 : Nat) : Int) - iL.length - 1 = (k : Int) by omega]
    simp
  · have hk2 := old _ (by omega) hm
    unfold kids at hk2
    rw [if_neg (by omega), if_neg (by omega), show ((ins + k + 1 : Nat) : Int) - iL.length - lL.length - 1 = (k : Int) by omega] at hk2
    exact ⟨hk2 _ (by simp), hk2 _ (by simp)⟩
theorem litN_M {T : Nat} {x : Int} (hT : T ≤ 25000) (hx : 0 ≤ x) (h : x / 2 ≤ T) (hm : mkd m (x / 2) = true) : litN (numM m T) x = litM m x := by
  have b := nmF_bnd (m := m) (T := T) (x / 2).toNat (by omega)
  have g := numM_get (m := m) (j := T) (v := (x / 2).toNat) (by omega)
  have e : nmF m (x / 2).toNat = (rk m (x / 2).toNat : Int) := by
    unfold nmF
    rw [show (((x / 2).toNat : Nat) : Int) = x / 2 by omega, if_pos hm]
    split
    · rename_i h0; rw [h0]; rfl
    · rfl
  rw [show (((x / 2).toNat : Nat) : Int) = x / 2 by omega] at g
  unfold litN litM
  rw [tdiv2 hx, wrap_small (x := x / 2) (by omega) (by omega), g, and_one x hx (by omega), wrap_small (x := 2 * nmF m (x / 2).toNat) (by omega) (by omega), wrap_small (by omega) (by omega), e]
/-- The cone, told by ranks. -/
theorem cone3_f (c : CircR ins G iL lL oL) (hG : G.length ≤ 15000) (hn : 30000 < n) {q : Nat} (hq : q < oL.length) : ∃ m : Mk, cone_Cone n ins G iL lL oL (q : Int) = some ((((cI m iL.length).length + (cB m iL.length lL.length).length : Nat) : Int), coneA m ins G, coneI m iL, coneL m iL.length lL, coneO m (selO oL q), natI (cB m iL.length lL.length), ()) ∧ MarkR G iL lL (ins + 1 + G.length) ((selO oL q).map (·.2.1)) (Mi_b_put [] 0 true) m := by
  have i1 := c.r.i1
  have hs := c.sum
  obtain ⟨m, e, hm⟩ := cone1_f (n := n) c hG hn hq
  have mc := hm.clo c
  refine ⟨m, ?_, hm⟩
  rw [Int.toNat_natCast] at e
  rw [e]
  have e1 : pickN (fun j => Mi_i_has (numM m (ins + G.length)) (Kiii_at iL (j : Int)).1) iL.length = cI m iL.length := pickN_congr fun j hj => by
    rw [(c.i j hj).1, show (j : Int) + 1 = ((j + 1 : Nat) : Int) by omega, numM_has (by omega), decide_eq_true (by omega), Bool.true_and]
  have e2 : conL m lL = cB m iL.length lL.length := pickN_congr fun j hj => by
    rw [(c.l j hj).1, show (iL.length : Int) + (j : Int) + 1 = ((iL.length + j + 1 : Nat) : Int) by omega]
  have e3 : pickN (fun k => Mi_i_has (numM m (ins + G.length)) ((ins : Int) + k + 1)) G.length = cB m ins G.length := pickN_congr fun j hj => by
    rw [show (ins : Int) + (j : Int) + 1 = ((ins + j + 1 : Nat) : Int) by omega, numM_has (by omega), decide_eq_true (by omega), Bool.true_and]
  have f1 : keepI (numM m (ins + G.length)) iL (cI m iL.length) = coneI m iL := List.map_congr_left fun i hi => by
    obtain ⟨h1, h2⟩ := pickN_mem.1 hi
    rw [(c.i i h1).1, show (i : Int) + 1 = ((i + 1 : Nat) : Int) by omega, numM_get (by omega)]
    unfold nmF
    rw [if_neg (by omega), if_pos h2]
  have f2 : keepL (numM m (ins + G.length)) lL (cB m iL.length lL.length) = coneL m iL.length lL := List.map_congr_left fun i hi => by
    obtain ⟨h1, h2⟩ := pickN_mem.1 hi
    obtain ⟨c1, c2, c3, c40, c41⟩ := c.l i h1
    rw [litN_M (by omega) c40 (by omega) (mc.l i h1 h2), c1, show (iL.length : Int) + (i : Int) + 1 = ((iL.length + i + 1 : Nat) : Int) by omega, numM_get (by omega)]
    unfold nmF
    rw [if_neg (by omega), if_pos h2]
  have f3 : keepA (numM m (ins + G.length)) G (cB m ins G.length) = coneA m ins G := List.map_congr_left fun i hi => by
    obtain ⟨h1, h2⟩ := pickN_mem.1 hi
    obtain ⟨a1, a2, a3, a4⟩ := c.r.a i h1
    obtain ⟨k1, k2⟩ := mc.a i h1 h2
    rw [litN_M (by omega) (by omega) (by omega) k1, litN_M (by omega) (by omega) (by omega) k2]
  have f4 : keepO (numM m (ins + G.length)) (selO oL q) = coneO m (selO oL q) := List.map_congr_left fun j hj => by
    have hj := List.mem_range.1 hj
    have hmem : Kiii_at (selO oL q) (j : Int) ∈ selO oL q := by
      rw [show Kiii_at (selO oL q) (j : Int) = (selO oL q)[j] from at_nat (t := Kiii_) hj]
      exact List.getElem_mem hj
    have hmk := mc.o _ hmem
    obtain ⟨k, hk, ek⟩ := selO_mem hq _ hmem
    rw [ek] at hmk ⊢
    obtain ⟨-, -, -, c40, c41⟩ := c.o k hk
    rw [litN_M (by omega) c40 (by omega) hmk]
  rw [e1, e2, e3, f1, f2, f3, f4]
theorem cI_rk (L : Nat) : rk m L = (cI m L).length := by
  have := rk_add (m := m) (a := 0) L
  simp only [Nat.zero_add] at this
  rw [this]
  simp [rk, cI]
theorem cB_rk (a L : Nat) : rk m (a + L) = rk m a + (cB m a L).length := rk_add L
theorem cB_bnd {a L k : Nat} (hk : k < (cB m a L).length) : (cB m a L).getD k 0 < L ∧ mkd m ((a + (cB m a L).getD k 0 + 1 : Nat) : Int) = true ∧ (cB m a ((cB m a L).getD k 0)).length = k := pickN_bnd hk
theorem cI_bnd {L k : Nat} (hk : k < (cI m L).length) : (cI m L).getD k 0 < L ∧ mkd m (((cI m L).getD k 0 + 1 : Nat) : Int) = true ∧ (cI m ((cI m L).getD k 0)).length = k := pickN_bnd hk
theorem ins_lex (c : CircR ins G iL lL oL) {i j : Nat} (h : i < j) (hj : j < iL.length) : lex (Kiii_at iL (i : Int)).2.1 (Kiii_at iL (i : Int)).2.2 (Kiii_at iL (j : Int)).2.1 (Kiii_at iL (j : Int)).2.2 := by
  induction j with
  | zero => omega
  | succ j ih =>
    have h1 := c.ip j hj
    by_cases e : i = j
    · subst e; exact h1
    · exact lex_trans (ih (by omega) (by omega)) h1
theorem mapN_at {t : Ty} {l : List Nat} {f : Nat → t.D} {k : Nat} (h : k < l.length) : at_ t (l.map f) (k : Int) = f (l.getD k 0) := by
  rw [at_nat (by simpa using h), List.getElem_map]
  simp [List.getD, h]
theorem pickN_not {p : Nat → Bool} {q : Nat} (hp : p q = false) : ∀ j, (pickN p j).length + (if q < j then 1 else 0) ≤ j
  | 0 => by simp [pickN]
  | j + 1 => by
    have ih := pickN_not hp j
    rw [pickN_succ, List.length_append]
    by_cases c : j = q
    · subst c
      rw [hp]
      simp only [Bool.false_eq_true, if_false, List.length_nil]
      rw [if_neg (Nat.lt_irrefl _)] at ih
      rw [if_pos (Nat.lt_succ_self _)]
      omega
    · have hle : (if p j = true then [j] else []).length ≤ 1 := by split <;> simp
      generalize (if p j = true then [j] else []).length = B at hle ⊢
      by_cases c2 : q < j
      · rw [if_pos c2] at ih
        rw [if_pos (by omega)]
        omega
      · rw [if_neg c2] at ih
        rw [if_neg (by omega)]
        omega
theorem selO_le {q : Nat} (hq : q < oL.length) : (selO oL q).length ≤ oL.length := by
  have := pickN_not (p := fun j => decide (j ≠ q) && decide ((Kiii_at oL (j : Int)).1 = 9)) (q := q) (by simp) oL.length
  rw [if_pos hq] at this
  simp only [selO, List.length_cons, List.length_map]
  omega
/-- The cone of a right circuit is right. -/
theorem coRight (c : CircR ins G iL lL oL) {q : Nat} (hq : q < oL.length) (mc : MkC ins G iL lL (selO oL q) m) : CircR ((cI m iL.length).length + (cB m iL.length lL.length).length : Nat) (coneA m ins G) (coneI m iL) (coneL m iL.length lL) (coneO m (selO oL q)) := by
  have i1 := c.r.i1
  have hs := c.sum
  have hGl := c.r.len
  have lA : (coneA m ins G).length = (cB m ins G.length).length := by simp [coneA]
  have lI : (coneI m iL).length = (cI m iL.length).length := by simp [coneI]
  have lL' : (coneL m iL.length lL).length = (cB m iL.length lL.length).length := by simp [coneL]
  have lO : (coneO m (selO oL q)).length = (selO oL q).length := by simp [coneO]
  have nI : (cI m iL.length).length ≤ iL.length := pickN_le
  have nL : (cB m iL.length lL.length).length ≤ lL.length := pickN_le
  have nA : (cB m ins G.length).length ≤ G.length := pickN_le
  have r1 := cI_rk (m := m) iL.length
  have r2 := cB_rk (m := m) iL.length lL.length
  have r3 := cB_rk (m := m) ins G.length
  rw [show iL.length + lL.length = ins by omega] at r2
  have lit : ∀ x : Int, LitG ins G x → mkd m (x / 2) = true → LitG ((cI m iL.length).length + (cB m iL.length lL.length).length : Nat) (coneA m ins G) (litM m x) := fun x hx hm => by
    have := hx.1
    have := hx.2
    have hr := rk_mono (m := m) (v := (x / 2).toNat) (w := ins + G.length) (by omega)
    unfold litM
    exact ⟨by omega, by rw [lA]; omega⟩
  have aA : ∀ j : Nat, j < (cB m ins G.length).length → Kii_at (coneA m ins G) (j : Int) = (litM m (Kii_at G (((cB m ins G.length).getD j 0 : Nat) : Int)).1, litM m (Kii_at G (((cB m ins G.length).getD j 0 : Nat) : Int)).2) := fun j hj => mapN_at (t := Kii_) hj
  have aI : ∀ j : Nat, j < (cI m iL.length).length → Kiii_at (coneI m iL) (j : Int) = ((rk m ((cI m iL.length).getD j 0 + 1) : Int), (Kiii_at iL (((cI m iL.length).getD j 0 : Nat) : Int)).2.1, (Kiii_at iL (((cI m iL.length).getD j 0 : Nat) : Int)).2.2) := fun j hj => mapN_at (t := Kiii_) hj
  have aL : ∀ j : Nat, j < (cB m iL.length lL.length).length → Kiibii_at (coneL m iL.length lL) (j : Int) = ((rk m (iL.length + (cB m iL.length lL.length).getD j 0 + 1) : Int), litM m (Kiibii_at lL (((cB m iL.length lL.length).getD j 0 : Nat) : Int)).2.1, (Kiibii_at lL (((cB m iL.length lL.length).getD j 0 : Nat) : Int)).2.2.1, (Kiibii_at lL (((cB m iL.length lL.length).getD j 0 : Nat) : Int)).2.2.2.1, (Kiibii_at lL (((cB m iL.length lL.length).getD j 0 : Nat) : Int)).2.2.2.2) := fun j hj => mapN_at (t := Kiibii_) hj
  refine ⟨⟨by omega, by omega, by omega, fun j hj => ?_, fun i j hij hj => ?_⟩, by omega, by rw [lL']; have := c.l256; omega, by rw [lO]; have := c.o1000; have := selO_le hq; omega, fun j hj => ?_, fun j hj => ?_, fun j hj => ?_, fun j hj => ?_, fun j hj => ?_⟩
  · rw [lA] at hj
    obtain ⟨b1, b2, b3⟩ := cB_bnd hj
    obtain ⟨k1, k2⟩ := mc.a _ b1 b2
    have rr := cB_rk (m := m) ins ((cB m ins G.length).getD j 0)
    rw [b3] at rr
    obtain ⟨a1, a2, a3, a4⟩ := c.r.a _ b1
    rw [aA j hj]
    revert b1 b2 b3 k1 k2 rr a1 a2 a3 a4
    generalize (cB m ins G.length).getD j 0 = k
    generalize Kii_at G (k : Int) = y
    intro b1 b2 b3 k1 k2 rr a1 a2 a3 a4
    have e1 : rk m 0 < rk m (y.1 / 2).toNat := rk_lt (by omega) (by rw [show (((y.1 / 2).toNat : Nat) : Int) = y.1 / 2 by omega]; exact k1)
    have e2 : rk m (y.1 / 2).toNat < rk m (y.2 / 2).toNat := rk_lt (by omega) (by rw [show (((y.2 / 2).toNat : Nat) : Int) = y.2 / 2 by omega]; exact k2)
    have e3 := rk_mono (m := m) (v := (y.2 / 2).toNat) (w := ins + k) (by omega)
    unfold litM
    simp only
    exact ⟨by omega, by omega, by omega, by omega⟩
  · rw [lA] at hj
    rw [aA i (by omega), aA j hj]
    obtain ⟨b1, b2, b3⟩ := cB_bnd (k := i) (show i < (cB m ins G.length).length by omega)
    obtain ⟨d1, d2, d3⟩ := cB_bnd (k := j) (show j < (cB m ins G.length).length by omega)
    obtain ⟨k1, k2⟩ := mc.a _ b1 b2
    obtain ⟨l1, l2⟩ := mc.a _ d1 d2
    have hlt : (cB m ins G.length).getD i 0 < (cB m ins G.length).getD j 0 := pickN_lt hij (pickN_get (show i < (cB m ins G.length).length by omega)) (pickN_get hj)
    obtain ⟨a1, a2, -, -⟩ := c.r.a _ b1
    obtain ⟨a3, a4, -, -⟩ := c.r.a _ d1
    have hnd := c.r.nd _ _ hlt d1
    intro heq
    apply hnd
    have one : ∀ x y : Int, 0 ≤ x → 0 ≤ y → mkd m (x / 2) = true → mkd m (y / 2) = true → litM m x = litM m y → x = y := fun x y hx hy hx2 hy2 e => by
      unfold litM at e
      have := rk_inj (m := m) (v := (x / 2).toNat) (w := (y / 2).toNat) (by rw [show (((x / 2).toNat : Nat) : Int) = x / 2 by omega]; exact hx2) (by rw [show (((y / 2).toNat : Nat) : Int) = y / 2 by omega]; exact hy2) (by omega)
      omega
    rw [Prod.mk.injEq] at heq
    exact Prod.ext (one _ _ (by change 0 ≤ (Kii_at G (((cB m ins G.length).getD i 0 : Nat) : Int)).1; omega) (by change 0 ≤ (Kii_at G (((cB m ins G.length).getD j 0 : Nat) : Int)).1; omega) k1 l1 heq.1) (one _ _ (by change 0 ≤ (Kii_at G (((cB m ins G.length).getD i 0 : Nat) : Int)).2; omega) (by change 0 ≤ (Kii_at G (((cB m ins G.length).getD j 0 : Nat) : Int)).2; omega) k2 l2 heq.2)
  · rw [lI] at hj
    obtain ⟨b1, b2, b3⟩ := cI_bnd hj
    rw [aI j hj]
    obtain ⟨q1, q2, q3⟩ := c.i _ b1
    have rr := cI_rk (m := m) ((cI m iL.length).getD j 0)
    rw [b3] at rr
    refine ⟨?_, q2, q3⟩
    simp only
    rw [rk, if_pos b2, rr]
    omega
  · rw [lI] at hj
    rw [aI j (by omega), aI (j + 1) hj]
    exact ins_lex c (pickN_inc hj) (cI_bnd hj).1
  · rw [lL'] at hj
    obtain ⟨b1, b2, b3⟩ := cB_bnd hj
    rw [aL j hj]
    obtain ⟨q1, q2, q3, q4⟩ := c.l _ b1
    have rr := cB_rk (m := m) iL.length ((cB m iL.length lL.length).getD j 0)
    rw [b3] at rr
    refine ⟨?_, q2, q3, lit _ q4 (mc.l _ b1 b2)⟩
    simp only
    rw [rk, if_pos b2, rr, lI]
    omega
  · rw [lL'] at hj
    rw [aL j (by omega), aL (j + 1) hj]
    exact lats_lex c (pickN_inc hj) (cB_bnd hj).1
  · rw [lO] at hj
    have hmem : Kiii_at (selO oL q) (j : Int) ∈ selO oL q := by
      rw [show Kiii_at (selO oL q) (j : Int) = (selO oL q)[j] from at_nat (t := Kiii_) hj]
      exact List.getElem_mem hj
    have hmk := mc.o _ hmem
    rw [show Kiii_at (coneO m (selO oL q)) (j : Int) = _ from at_range (t := Kiii_) hj]
    obtain ⟨k, hk, ek⟩ := selO_mem hq _ hmem
    rw [ek] at hmk ⊢
    obtain ⟨o1, o2, o3, o4⟩ := c.o k hk
    exact ⟨o1, o2, o3, lit _ o4 hmk⟩
end
section
variable {n ins : Nat} {G : List Kii} {iL oL sO : List Kiii} {lL : List Kiibii} {m : Mk} {s x W W2 U V : List Bool}
theorem cB_of {a L i : Nat} (h : i < L) (hm : mkd m ((a + i + 1 : Nat) : Int) = true) : (cB m a L)[(cB m a i).length]? = some i := pickN_of (p := fun i => mkd m ((a + i + 1 : Nat) : Int)) h hm
theorem cI_of {L i : Nat} (h : i < L) (hm : mkd m ((i + 1 : Nat) : Int) = true) : (cI m L)[(cI m i).length]? = some i := pickN_of (p := fun i => mkd m ((i + 1 : Nat) : Int)) h hm
theorem litM_div {x : Int} : litM m x / 2 = (rk m (x / 2).toNat : Int) := by unfold litM; omega
theorem litM_val {x : Int} (hx : 0 ≤ x) (h : Kb_at U (rk m (x / 2).toNat : Int) = Kb_at V (((x / 2).toNat : Nat) : Int)) : lv U (litM m x) = lv V x := by
  unfold lv
  rw [litM_div, h, show litM m x % 2 = x % 2 by unfold litM; omega, show (((x / 2).toNat : Nat) : Int) = x / 2 by omega]
theorem pickS_of {l : List Nat} {k i : Nat} (h : l[k]? = some i) : Kb_at (pickS s l) (k : Int) = Kb_at s (i : Int) := by
  obtain ⟨h1, h2⟩ := List.getElem?_eq_some_iff.1 h
  rw [pickS_at h1]
  simp [List.getD, h]
theorem coSem (c : CircR ins G iL lL oL) (mc : MkC ins G iL lL sO m) (hx : x.length = iL.length) (hs : s.length = lL.length) (hV : Mod ins G ((false :: (x ++ s)) ++ W)) (hU : Mod ((cI m iL.length).length + (cB m iL.length lL.length).length : Nat) (coneA m ins G) ((false :: (pickS x (cI m iL.length) ++ pickS s (cB m iL.length lL.length))) ++ W2)) : ∀ v : Nat, v ≤ ins + G.length → mkd m (v : Int) = true → Kb_at ((false :: (pickS x (cI m iL.length) ++ pickS s (cB m iL.length lL.length))) ++ W2) (rk m v : Int) = Kb_at ((false :: (x ++ s)) ++ W) (v : Int) := by
  have hsum := c.sum
  have r2 := cB_rk (m := m) iL.length lL.length
  rw [show iL.length + lL.length = ins by omega] at r2
  have r1 := cI_rk (m := m) iL.length
  intro v
  induction v using Nat.strongRecOn with
  | ind v ih =>
  intro hv hm
  by_cases c0 : v = 0
  · subst c0; rfl
  by_cases c1 : v ≤ iL.length
  · obtain ⟨i, rfl⟩ : ∃ i, v = i + 1 := ⟨v - 1, by omega⟩
    have ho := cI_of (L := iL.length) (by omega) hm
    obtain ⟨h1, -⟩ := List.getElem?_eq_some_iff.1 ho
    rw [rk, if_pos hm, cI_rk, val_in (by omega) (by simp [pickS]; omega), show (cI m i).length + 1 - 1 = (cI m i).length by omega, val_in (by omega) (by omega), show i + 1 - 1 = i by omega]
    exact pickS_of ho
  by_cases c2 : v ≤ ins
  · obtain ⟨i, rfl⟩ : ∃ i, v = iL.length + i + 1 := ⟨v - iL.length - 1, by omega⟩
    have ho := cB_of (a := iL.length) (L := lL.length) (i := i) (by omega) hm
    obtain ⟨h1, -⟩ := List.getElem?_eq_some_iff.1 ho
    rw [val_V c hx hs (by omega), rk, if_pos hm, cB_rk, r1]
    have e : (cI m iL.length).length = (pickS x (cI m iL.length)).length := by simp [pickS]
    rw [e, val_st (by simpa [pickS] using h1)]
    exact pickS_of ho
  · obtain ⟨i, rfl⟩ : ∃ i, v = ins + i + 1 := ⟨v - ins - 1, by omega⟩
    have ho := cB_of (a := ins) (L := G.length) (i := i) (by omega) hm
    obtain ⟨h1, h2⟩ := List.getElem?_eq_some_iff.1 ho
    obtain ⟨k1, k2⟩ := mc.a i (by omega) hm
    obtain ⟨a1, a2, a3, a4⟩ := c.r.a i (by omega)
    have hUa := hU.a (cB m ins i).length (by simpa [coneA] using h1)
    have hVa := hV.a i (by omega)
    rw [show Kii_at (coneA m ins G) ((cB m ins i).length : Int) = _ from mapN_at (t := Kii_) h1, show (cB m ins G.length).getD (cB m ins i).length 0 = i by simp [List.getD, ho]] at hUa
    rw [rk, if_pos hm, cB_rk, r2, r1, show (((cI m iL.length).length + (cB m iL.length lL.length).length + (cB m ins i).length + 1 : Nat) : Int) = ((((cI m iL.length).length + (cB m iL.length lL.length).length : Nat) : Int) + 1 + ((cB m ins i).length : Int)) by omega, hUa, show ((ins + i + 1 : Nat) : Int) = (ins : Int) + 1 + (i : Int) by omega, hVa]
    simp only
    rw [litM_val (by omega) (ih (((Kii_at G (i : Int)).1 / 2).toNat) (by omega) (by omega) (by rw [show ((((Kii_at G (i : Int)).1 / 2).toNat : Nat) : Int) = (Kii_at G (i : Int)).1 / 2 by omega]; exact k1)), litM_val (by omega) (ih (((Kii_at G (i : Int)).2 / 2).toNat) (by omega) (by omega) (by rw [show ((((Kii_at G (i : Int)).2 / 2).toNat : Nat) : Int) = (Kii_at G (i : Int)).2 / 2 by omega]; exact k2))]
theorem coLit (h : ∀ v : Nat, v ≤ ins + G.length → mkd m (v : Int) = true → Kb_at U (rk m v : Int) = Kb_at V (v : Int)) {x : Int} (hx : LitG ins G x) (hm : mkd m (x / 2) = true) : lv U (litM m x) = lv V x := by
  have := hx.1
  have := hx.2
  exact litM_val (by omega) (h _ (by omega) (by rw [show (((x / 2).toNat : Nat) : Int) = x / 2 by omega]; exact hm))
theorem coNext (c : CircR ins G iL lL oL) (mc : MkC ins G iL lL sO m) (h : ∀ v : Nat, v ≤ ins + G.length → mkd m (v : Int) = true → Kb_at U (rk m v : Int) = Kb_at V (v : Int)) : nextB (coneL m iL.length lL) U = pickS (nextB lL V) (cB m iL.length lL.length) := by
  refine List.ext_getElem (by simp [nextB, pickS, coneL]) fun k h1 h2 => ?_
  have hk : k < (cB m iL.length lL.length).length := by simpa [pickS] using h2
  obtain ⟨b1, b2, -⟩ := cB_bnd hk
  have e1 : Kb_at (pickS (nextB lL V) (cB m iL.length lL.length)) (k : Int) = _ := at_nat (t := b_) h2
  rw [← e1, pickS_at hk]
  rw [show Kb_at (nextB lL V) (((cB m iL.length lL.length).getD k 0 : Nat) : Int) = _ from at_range (t := b_) b1]
  simp only [nextB, List.getElem_map, List.getElem_range]
  rw [show Kiibii_at (coneL m iL.length lL) (k : Int) = _ from mapN_at (t := Kiibii_) hk]
  exact coLit h (c.l _ b1).2.2.2 (mc.l _ b1 b2)
theorem sel_mem {j : Nat} (hj : j < sO.length) : Kiii_at sO (j : Int) ∈ sO := by
  rw [show Kiii_at sO (j : Int) = sO[j] from at_nat (t := Kiii_) hj]
  exact List.getElem_mem hj
theorem coneO_at {j : Nat} (hj : j < sO.length) : Kiii_at (coneO m sO) (j : Int) = ((Kiii_at sO (j : Int)).1, litM m (Kiii_at sO (j : Int)).2.1, (Kiii_at sO (j : Int)).2.2) := at_range (t := Kiii_) (g := fun j : Nat => ((Kiii_at sO (j : Int)).1, litM m (Kiii_at sO (j : Int)).2.1, (Kiii_at sO (j : Int)).2.2)) hj
theorem coOut (hl : ∀ x ∈ sO, LitG ins G x.2.1) (mc : MkC ins G iL lL sO m) (h : ∀ v : Nat, v ≤ ins + G.length → mkd m (v : Int) = true → Kb_at U (rk m v : Int) = Kb_at V (v : Int)) {j : Nat} (hj : j < sO.length) : lv U (Kiii_at (coneO m sO) (j : Int)).2.1 = lv V (Kiii_at sO (j : Int)).2.1 := by
  rw [coneO_at hj]
  exact coLit h (hl _ (sel_mem hj)) (mc.o _ (sel_mem hj))
/-- Where the cone's inputs stand. -/
theorem ins16_f {ins2 : Int} {G2 : List Kii} {l2 : List Kiibii} {o2 : List Kiii} (c : CircR ins G iL lL oL) (hn : 30000 < n) : law16_ins n ins G iL lL oL ins2 G2 (coneI m iL) l2 o2 = some (natI (cI m iL.length), ()) := by
  have i1 := c.r.i1
  have hs := c.sum
  have nI : (cI m iL.length).length ≤ iL.length := pickN_le
  have lI : (coneI m iL).length = (cI m iL.length).length := by simp [coneI]
  have aI : ∀ j : Nat, j < (cI m iL.length).length → Kiii_at (coneI m iL) (j : Int) = ((rk m ((cI m iL.length).getD j 0 + 1) : Int), (Kiii_at iL (((cI m iL.length).getD j 0 : Nat) : Int)).2.1, (Kiii_at iL (((cI m iL.length).getD j 0 : Nat) : Int)).2.2) := fun j hj => mapN_at (t := Kiii_) hj
  have inner : ∀ (k : Nat) (y : List Int), k < (cI m iL.length).length → law16_ins_l1 n ((k : Int), y, ()) iL (coneI m iL) (-1, 0, ()) = some ((((cI m iL.length).getD k 0 : Nat) : Int), ()) := fun k y hk => by
    obtain ⟨b1, b2, b3⟩ := cI_bnd hk
    have ek := aI k hk
    revert b1 ek
    generalize (cI m iL.length).getD k 0 = i
    intro b1 ek
    exact iter_up (F := law16_ins_l1b n ((k : Int), y, ()) iL (coneI m iL)) (fun j => ((if i < j then (i : Int) else -1), (j : Int), ())) ((i : Int), ()) (len := iL.length) (m := n)
      (fun self j hj => by
        have hno : j ≠ i → ¬ ((Kiii_at iL (j : Int)).2.1 = (Kiii_at iL (i : Int)).2.1 ∧ (Kiii_at iL (j : Int)).2.2 = (Kiii_at iL (i : Int)).2.2) := fun hne q => by
          rcases Nat.lt_or_ge j i with h | h
          · have := ins_lex c h b1
            unfold lex at this
            omega
          · have := ins_lex c (show i < j by omega) hj
            unfold lex at this
            omega
        unfold law16_ins_l1b
        simp only [cond_dec, ek]
        rw [if_pos (by omega), ask_of (by omega), ask_of (by decide), ask_of (by omega), ask_of (by decide), succ64 (by omega)]
        by_cases c1 : j = i
        · subst c1
          rw [if_pos rfl, ask_of (by omega), ask_of (by decide), ask_of (by omega), ask_of (by decide), if_pos rfl, if_pos (by omega)]
        · have hno := hno c1
          have eif : (if i < j + 1 then (i : Int) else -1) = if i < j then (i : Int) else -1 := by
            by_cases c2 : i < j
            · rw [if_pos c2, if_pos (by omega)]
            · rw [if_neg c2, if_neg (by omega)]
          rw [eif]
          by_cases c2 : (Kiii_at iL (j : Int)).2.1 = (Kiii_at iL (i : Int)).2.1
          · rw [if_pos c2, ask_of (by omega), ask_of (by decide), ask_of (by omega), ask_of (by decide), if_neg (fun q => hno ⟨c2, q⟩)]
          · rw [if_neg c2])
      (fun self => by
        unfold law16_ins_l1b
        simp only [cond_dec]
        rw [if_neg (by omega), if_pos b1]) (by omega)
  have h1 := iter_up (F := law16_ins_l2b n iL (coneI m iL)) (fun j => ((j : Int), (List.range j).map (fun k : Nat => (((cI m iL.length).getD k 0 : Nat) : Int)), ())) (natI (cI m iL.length), ()) (len := (cI m iL.length).length) (m := n)
    (fun self j hj => by
      unfold law16_ins_l2b
      simp only [cond_dec]
      rw [if_pos (by omega), inner j _ hj, bindS, ask_of ⟨trivial, by simp; omega⟩, succ64 (by omega), range_app (g := fun k : Nat => (((cI m iL.length).getD k 0 : Nat) : Int))])
    (fun self => by
      unfold law16_ins_l2b
      simp only [cond_dec]
      rw [if_neg (by omega)]
      congr 2
      refine List.ext_getElem (by simp [natI]) fun k h1 h2 => ?_
      have hk : k < (cI m iL.length).length := by simpa [natI] using h2
      simp [natI, List.getD, hk]) (by omega)
  unfold law16_ins law16_ins_l2
  rw [show iter (law16_ins_l2b n iL (coneI m iL)) n (0, [], ()) = _ from h1, bindS]
/-- Ranks where all is marked. -/
theorem rk_full {T : Nat} (h : ∀ v : Nat, 1 ≤ v → v ≤ T → mkd m (v : Int) = true) : ∀ {v : Nat}, v ≤ T → rk m v = v
  | 0, _ => rfl
  | v + 1, hv => by rw [rk, if_pos (h _ (by omega) hv), rk_full h (by omega)]
theorem rk_surj {m : Mk} : ∀ {T u : Nat}, 1 ≤ u → u ≤ rk m T → ∃ v : Nat, 1 ≤ v ∧ v ≤ T ∧ mkd m (v : Int) = true ∧ rk m v = u
  | 0, u, h1, h2 => by simp [rk] at h2; omega
  | T + 1, u, h1, h2 => by
    by_cases c : u ≤ rk m T
    · obtain ⟨v, a, b, d⟩ := rk_surj (T := T) h1 c
      exact ⟨v, a, by omega, d⟩
    · rw [rk] at h2
      by_cases hm : mkd m ((T + 1 : Nat) : Int) = true
      · rw [if_pos hm] at h2
        exact ⟨T + 1, by omega, by omega, hm, by rw [rk, if_pos hm]; omega⟩
      · rw [if_neg hm] at h2; omega
theorem cB_full {T a L : Nat} (h : ∀ v : Nat, 1 ≤ v → v ≤ T → mkd m (v : Int) = true) (hT : a + L ≤ T) : cB m a L = List.range L := by
  unfold cB pickN
  exact List.filter_eq_self.2 fun i hi => h _ (by omega) (by have := List.mem_range.1 hi; omega)
theorem cI_full {T L : Nat} (h : ∀ v : Nat, 1 ≤ v → v ≤ T → mkd m (v : Int) = true) (hT : L ≤ T) : cI m L = List.range L := by
  unfold cI pickN
  exact List.filter_eq_self.2 fun i hi => h _ (by omega) (by have := List.mem_range.1 hi; omega)
theorem litM_full {T : Nat} (h : ∀ v : Nat, 1 ≤ v → v ≤ T → mkd m (v : Int) = true) {x : Int} (h0 : 0 ≤ x) (h1 : x / 2 ≤ T) : litM m x = x := by
  unfold litM
  rw [rk_full h (by omega)]
  omega
theorem map_self {t : Ty} {l : List t.D} {f : Nat → t.D} (h : ∀ k : Nat, k < l.length → f k = at_ t l (k : Int)) : (List.range l.length).map f = l := by
  refine List.ext_getElem (by simp) fun k h1 h2 => ?_
  rw [List.getElem_map, List.getElem_range, h k h2, at_nat h2]
/-- The whole circuit, where all is marked. -/
theorem coFull (c : CircR ins G iL lL oL) (h : ∀ v : Nat, 1 ≤ v → v ≤ ins + G.length → mkd m (v : Int) = true) : coneA m ins G = G ∧ coneI m iL = iL ∧ coneL m iL.length lL = lL ∧ (∀ sO : List Kiii, (∀ x ∈ sO, LitG ins G x.2.1) → coneO m sO = sO) := by
  have hs := c.sum
  refine ⟨?_, ?_, ?_, fun sO hl => ?_⟩
  · unfold coneA
    rw [cB_full h (Nat.le_refl _)]
    exact map_self (t := Kii_) fun k hk => by
      obtain ⟨a1, a2, a3, a4⟩ := c.r.a k hk
      rw [litM_full h (by omega) (by omega), litM_full h (by omega) (by omega)]
      rfl
  · unfold coneI
    rw [cI_full h (by omega)]
    exact map_self (t := Kiii_) fun k hk => by
      rw [rk_full h (by omega)]
      show _ = Kiii_at iL (k : Int)
      exact Prod.ext (by rw [(c.i k hk).1]; rfl) rfl
  · unfold coneL
    rw [cB_full h (by omega)]
    exact map_self (t := Kiibii_) fun k hk => by
      obtain ⟨c1, c2, c3, c40, c41⟩ := c.l k hk
      rw [rk_full h (by omega), litM_full h c40 (by omega)]
      show _ = Kiibii_at lL (k : Int)
      exact Prod.ext (by rw [c1]; simp only; omega) rfl
  · unfold coneO
    exact map_self (t := Kiii_) fun k hk => by
      obtain ⟨h0, h1⟩ := hl _ (sel_mem hk)
      rw [litM_full h h0 (by omega)]
      rfl
end
end Go.Proofs.Ytfjdhdmbbfeigaa.Am
