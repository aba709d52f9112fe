/- Bits as numbers; what the maker of bits does, step by step. -/
import Derived.Test.YtfjdhdmbbfeigaaPnGr2
namespace Go.Proofs.Ytfjdhdmbbfeigaa.Am
set_option linter.unusedVariables false
set_option linter.unusedSimpArgs false
/-- The number of bits, the lowest first. -/
def nb : List Bool → Nat
  | [] => 0
  | b :: r => b.toNat + 2 * nb r
theorem nb_lt : ∀ l : List Bool, nb l < 2 ^ l.length
  | [] => by simp [nb]
  | b :: r => by
    have := nb_lt r
    rw [nb, List.length_cons, Nat.pow_succ]
    cases b <;> simp <;> omega
theorem nb_app : ∀ l m : List Bool, nb (l ++ m) = nb l + 2 ^ l.length * nb m
  | [], m => by simp [nb]
  | b :: r, m => by
    rw [List.cons_append, nb, nb, nb_app r m, List.length_cons, Nat.pow_succ, Nat.mul_add, Nat.mul_comm (2 ^ r.length) 2, Nat.mul_assoc]
    omega
theorem nb_snoc (l : List Bool) (b : Bool) : nb (l ++ [b]) = nb l + 2 ^ l.length * b.toNat := by rw [nb_app]; simp [nb]
theorem nb_rep (n : Nat) : nb (List.replicate n false) = 0 := by
  induction n with
  | zero => rfl
  | succ n ih => rw [List.replicate_succ, nb, ih]; rfl
theorem testBit_nb : ∀ (l : List Bool) (i : Nat), (nb l).testBit i = l.getD i false
  | [], i => by simp [nb]
  | b :: r, 0 => by
    rw [nb, Nat.testBit_zero]
    cases b <;> simp <;> omega
  | b :: r, i + 1 => by
    rw [Nat.testBit_succ, nb, show (b.toNat + 2 * nb r) / 2 = nb r by cases b <;> simp <;> omega, testBit_nb r i]
    rfl
theorem nb_bits {l : List Bool} {N : Nat} (h : ∀ i : Nat, i < l.length → l.getD i false = N.testBit i) (hN : N < 2 ^ l.length) : nb l = N := by
  refine Nat.eq_of_testBit_eq fun i => ?_
  rw [testBit_nb]
  rcases Nat.lt_or_ge i l.length with q | q
  · exact h i q
  · rw [List.getD_eq_getElem?_getD, List.getElem?_eq_none q, Nat.testBit_lt_two_pow (Nat.lt_of_lt_of_le hN (Nat.pow_le_pow_right (by omega) q))]
    rfl
theorem nb_not (l : List Bool) : nb (l.map (!·)) = 2 ^ l.length - 1 - nb l := by
  induction l with
  | nil => rfl
  | cons b r ih =>
    have := nb_lt r
    rw [List.map_cons, nb, nb, ih, List.length_cons, Nat.pow_succ]
    cases b <;> simp <;> omega
theorem nb_any (l : List Bool) : l.any id = decide (nb l ≠ 0) := by
  induction l with
  | nil => rfl
  | cons b r ih =>
    rw [List.any_cons, ih, nb]
    cases b with
    | true => simp
    | false => simp; omega
theorem nb_div (l : List Bool) (i : Nat) : nb l / 2 ^ i = nb (l.drop i) := by
  refine Nat.eq_of_testBit_eq fun j => ?_
  rw [Nat.testBit_div_two_pow, testBit_nb, testBit_nb]
  simp [List.getD_eq_getElem?_getD, Nat.add_comm]
theorem nb_mod (l : List Bool) (i : Nat) : nb l % 2 ^ i = nb (l.take i) := by
  refine Nat.eq_of_testBit_eq fun j => ?_
  rw [Nat.testBit_mod_two_pow, testBit_nb, testBit_nb]
  simp only [List.getD_eq_getElem?_getD, List.getElem?_take]
  by_cases h : j < i <;> simp [h]
/-- A loop that goes on in a state that is told in part. -/
theorem iter_ex {σ β : Type} {F : (σ → Option β) → σ → Option β} (I : Nat → σ → Prop) (Q : β → Prop) {len : Nat} (step : ∀ self j d, j < len → I j d → ∃ d', F self d = self d' ∧ I (j + 1) d') (fin : ∀ self d, I len d → ∃ r, F self d = some r ∧ Q r) {m : Nat} (hm : len < m) {d : σ} (h0 : I 0 d) : ∃ r, iter F m d = some r ∧ Q r := by
  have key : ∀ k j m d, j + k = len → k < m → I j d → ∃ r, iter F m d = some r ∧ Q r := by
    intro k
    induction k with
    | zero =>
      intro j m d hj hm h
      obtain ⟨m, rfl⟩ : ∃ k, m = k + 1 := ⟨m - 1, by omega⟩
      obtain rfl : j = len := by omega
      exact fin _ _ h
    | succ k ih =>
      intro j m d hj hm h
      obtain ⟨m, rfl⟩ : ∃ k, m = k + 1 := ⟨m - 1, by omega⟩
      obtain ⟨d', e, h'⟩ := step (iter F m) j d (by omega) h
      rw [iter_s, e]
      exact ih (j + 1) m d' (by omega) (by omega) h'
  exact key len 0 m d (by omega) hm h0
theorem take_at {t : Ty} {l : List t.D} {j : Nat} (h : j < l.length) : l.take (j + 1) = l.take j ++ [at_ t l (j : Int)] := by
  rw [at_nat h, List.take_add_one, List.getElem?_eq_getElem h]
  rfl
theorem at_mem {t : Ty} {l : List t.D} {j : Nat} (h : j < l.length) : at_ t l (j : Int) ∈ l := by
  rw [at_nat h]; exact List.getElem_mem h
theorem map_at {t : Ty} {l : List t.D} {j : Nat} (h : j < l.length) (f : t.D → Bool) : Kb_at (l.map f) (j : Int) = f (at_ t l (j : Int)) := by
  show at_ Ty.bool (l.map f) (j : Int) = _
  rw [at_nat (t := t) h, at_nat (t := Ty.bool) (l := l.map f) (by simpa using h)]
  simp
/-- A list filled from its beginning, by what is known. -/
theorem fill_set {L : List Int} {w : Nat} {x : Int} (h : L.length < w) : (L ++ List.replicate (w - L.length) (0 : Int)).set L.length x = (L ++ [x]) ++ List.replicate (w - (L ++ [x]).length) (0 : Int) := by
  rw [List.set_append_right _ _ (Nat.le_refl _), Nat.sub_self, show w - L.length = (w - (L.length + 1)) + 1 by omega, List.replicate_succ, List.set_cons_zero]
  simp
theorem fill_len {L : List Int} {w : Nat} (h : L.length ≤ w) : (L ++ List.replicate (w - L.length) (0 : Int)).length = w := by simp; omega
theorem fill_end {L : List Int} {w : Nat} (h : L.length = w) : L ++ List.replicate (w - L.length) (0 : Int) = L := by rw [h]; simp
/-- Literals of a graph. -/
def Lits (ins : Int) (g : List Kii) (l : List Int) : Prop := ∀ x ∈ l, LitG ins g x
theorem Lits.more {ins : Int} {g t : List Kii} {l : List Int} (h : Lits ins g l) : Lits ins (g ++ t) l := fun x hx => (h x hx).more
theorem Lits.snoc {ins : Int} {g : List Kii} {l : List Int} {x : Int} (h : Lits ins g l) (hx : LitG ins g x) : Lits ins g (l ++ [x]) := fun y hy => by
  rcases List.mem_append.1 hy with h' | h'
  · exact h y h'
  · rw [List.mem_singleton.1 h']; exact hx
theorem Lits.at {ins : Int} {g : List Kii} {l : List Int} (h : Lits ins g l) {j : Nat} (hj : j < l.length) : LitG ins g (Ki_at l (j : Int)) := h _ (at_mem (t := .int .i64) hj)
/-- What bits are. -/
def bv (V : List Bool) (l : List Int) : List Bool := l.map (lv V)
theorem bv_len (V : List Bool) (l : List Int) : (bv V l).length = l.length := by simp [bv]
theorem bv_snoc (V : List Bool) (l : List Int) (x : Int) : bv V (l ++ [x]) = bv V l ++ [lv V x] := by simp [bv]
theorem bv_app (V : List Bool) (l m : List Int) : bv V (l ++ m) = bv V l ++ bv V m := by simp [bv]
theorem bv_take (V : List Bool) (l : List Int) (j : Nat) : bv V (l.take j) = (bv V l).take j := by simp [bv, List.map_take]
theorem bv_take_at {V : List Bool} {l : List Int} {j : Nat} (h : j < l.length) : bv V (l.take (j + 1)) = bv V (l.take j) ++ [lv V (Ki_at l (j : Int))] := by
  rw [take_at (t := .int .i64) h, bv_snoc]; rfl
theorem bv_turn (V : List Bool) (l : List Int) : bv V (l.map turn) = (bv V l).map (!·) := by
  simp only [bv, List.map_map]
  exact List.map_congr_left fun x _ => lv_turn V x
theorem turn_at (l : List Int) (j : Nat) (h : j < l.length) : ((l.take j).map turn ++ l.drop j).set j (turn (Ki_at ((l.take j).map turn ++ l.drop j) (j : Int))) = (l.take (j + 1)).map turn ++ l.drop (j + 1) := by
  have hl : ((l.take j).map turn).length = j := by simp; omega
  have hd : l.drop j = Ki_at l (j : Int) :: l.drop (j + 1) := by
    rw [show Ki_at l (j : Int) = l[j] from at_nat (t := .int .i64) h]
    exact List.drop_eq_getElem_cons h
  have ha : Ki_at ((l.take j).map turn ++ l.drop j) (j : Int) = Ki_at l (j : Int) := by
    show at_ (.int .i64) _ _ = _
    rw [hd]
    unfold at_
    rw [Int.toNat_natCast, List.getD_eq_getElem?_getD, List.getElem?_append_right (by omega), hl, Nat.sub_self]
    rfl
  rw [ha, hd, List.set_append_right _ _ (by omega), hl, Nat.sub_self, List.set_cons_zero, take_at (t := .int .i64) h, List.map_append]
  simp [Ki_at]
theorem clone_f {n : Nat} {l : List Int} (h : l.length ≤ 1000) : slices_Clone_int_int_o n l = some (l, ()) := by
  unfold slices_Clone_int_int_o
  rw [ask_of (by simp; omega)]
theorem turned_f {n : Nat} {ins : Int} {g : List Kii} {l : List Int} (r : RG ins g) (h : Lits ins g l) (hl : l.length ≤ 1000) (hn : 30000 < n) : blast_turned n l = some (l.map turn, ()) := by
  have l1 := iter_up (F := blast_turned_l1b n (l, ())) (fun j => ((j : Int), (l.take j).map turn ++ l.drop j, ())) (l.map turn, ()) (len := l.length) (m := n)
    (fun self j hj => by
      have hlen : ((l.take j).map turn ++ l.drop j).length = l.length := by simp; omega
      have hx : Ki_at ((l.take j).map turn ++ l.drop j) (j : Int) = Ki_at l (j : Int) := by
        show at_ (.int .i64) _ _ = at_ (.int .i64) _ _
        unfold at_
        rw [Int.toNat_natCast, List.getD_eq_getElem?_getD, List.getD_eq_getElem?_getD, List.getElem?_append_right (by simp; omega), List.getElem?_drop]
        congr 2
        simp
        omega
      have ht := (turn_lit r (h.at hj)).1
      unfold blast_turned_l1b
      simp only [cond_dec]
      rw [if_pos (by omega), ask_of (by rw [hlen]; omega), ask_of (by rw [hlen]; omega), hx, ht, succ64 (by omega), Int.toNat_natCast, ← turn_at l j hj, hx])
    (fun self => by
      unfold blast_turned_l1b
      simp only [cond_dec]
      rw [if_neg (by omega)]
      simp) (by omega)
  unfold blast_turned
  rw [clone_f hl, bindS, show blast_turned_l1 n (l, ()) (0, l, ()) = _ from l1, bindS]
theorem turn_lits {ins : Int} {g : List Kii} {l : List Int} (r : RG ins g) (h : Lits ins g l) : Lits ins g (l.map turn) := fun x hx => by
  obtain ⟨y, hy, rfl⟩ := List.mem_map.1 hx
  exact (turn_lit r (h y hy)).2
end Go.Proofs.Ytfjdhdmbbfeigaa.Am
