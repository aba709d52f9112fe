/- What blast.Do makes of each op. -/
import Derived.Test.YtfjdhdmbbfeigaaPnBl4
namespace Go.Proofs.Ytfjdhdmbbfeigaa.Am
set_option linter.unusedVariables false
set_option linter.unusedSimpArgs false
/-- What a node of an op makes of numbers. -/
def doN (op w u lo x y z wb : Int) : Int :=
  if op = 1 then u else if op = 3 then P2 w - 1 - x else if op = 4 then (if x = 0 then 0 else 1) else if op = 5 then (if x = P2 lo - 1 then 1 else 0)
  else if op = 6 then bits .and .i64 x y % P2 w else if op = 7 then bits .or .i64 x y % P2 w else if op = 8 then bits .xor .i64 x y % P2 w
  else if op = 9 then IntKind.wrap .i64 (x + y) % P2 w else if op = 10 then IntKind.wrap .i64 (x - y) % P2 w else if op = 11 then IntKind.wrap .i64 (x * y) % P2 w
  else if op = 12 then (if x = y then 1 else 0) else if op = 13 then (if x = y then 0 else 1) else if op = 14 then (if x < y then 1 else 0) else if op = 15 then (if x ≤ y then 1 else 0)
  else if op = 16 then (if x = 1 then y else z) else if op = 17 then x * P2 wb + y else x / P2 lo % P2 (u - lo + 1)
def vd (m : Nat) (op w p q s u lo x y z wb : Int) : Option (Int × Unit) := some (doN op w u lo x y z wb, ())
section
variable {m : Nat} {k p q r n lo x y c wb : Int}
theorem vd_lit : vd m 1 k p q r n lo x y c wb = some (n, ()) := rfl
theorem vd_inv : vd m 3 k p q r n lo x y c wb = some (P2 k - 1 - x, ()) := rfl
theorem vd_redor : vd m 4 k p q r n lo x y c wb = some (if x = 0 then 0 else 1, ()) := rfl
theorem vd_redand : vd m 5 k p q r n lo x y c wb = some (if x = P2 lo - 1 then 1 else 0, ()) := rfl
theorem vd_and : vd m 6 k p q r n lo x y c wb = some (bits .and .i64 x y % P2 k, ()) := rfl
theorem vd_or : vd m 7 k p q r n lo x y c wb = some (bits .or .i64 x y % P2 k, ()) := rfl
theorem vd_xor : vd m 8 k p q r n lo x y c wb = some (bits .xor .i64 x y % P2 k, ()) := rfl
theorem vd_add : vd m 9 k p q r n lo x y c wb = some (IntKind.wrap .i64 (x + y) % P2 k, ()) := rfl
theorem vd_sub : vd m 10 k p q r n lo x y c wb = some (IntKind.wrap .i64 (x - y) % P2 k, ()) := rfl
theorem vd_mul : vd m 11 k p q r n lo x y c wb = some (IntKind.wrap .i64 (x * y) % P2 k, ()) := rfl
theorem vd_eq : vd m 12 k p q r n lo x y c wb = some (if x = y then 1 else 0, ()) := rfl
theorem vd_ne : vd m 13 k p q r n lo x y c wb = some (if x = y then 0 else 1, ()) := rfl
theorem vd_lt : vd m 14 k p q r n lo x y c wb = some (if x < y then 1 else 0, ()) := rfl
theorem vd_le : vd m 15 k p q r n lo x y c wb = some (if x ≤ y then 1 else 0, ()) := rfl
theorem vd_mux : vd m 16 k p q r n lo x y c wb = some (if x = 1 then y else c, ()) := rfl
theorem vd_cat : vd m 17 k p q r n lo x y c wb = some (x * P2 wb + y, ()) := rfl
theorem vd_slice : vd m 18 k p q r n lo x y c wb = some (x / P2 lo % P2 (n - lo + 1), ()) := rfl
end
theorem p2_nat (w : Nat) : P2 (w : Int) = ((2 ^ w : Nat) : Int) := by unfold P2; rw [Int.toNat_natCast]
theorem getD_zip {f : Bool → Bool → Bool} (hf : f false false = false) : ∀ (a b : List Bool), a.length = b.length → ∀ i, (List.zipWith f a b).getD i false = f (a.getD i false) (b.getD i false)
  | [], [], _, i => by simp [hf]
  | x :: a, y :: b, h, 0 => rfl
  | x :: a, y :: b, h, i + 1 => by
    have := getD_zip hf a b (by simpa using h) i
    simpa using this
  | [], _ :: _, h, _ => by simp at h
  | _ :: _, [], h, _ => by simp at h
theorem nb_and {a b : List Bool} (h : a.length = b.length) : nb (List.zipWith (fun x y => x && y) a b) = nb a &&& nb b := by
  refine Nat.eq_of_testBit_eq fun i => ?_
  rw [Nat.testBit_and, testBit_nb, testBit_nb, testBit_nb, getD_zip rfl a b h]
theorem nb_or {a b : List Bool} (h : a.length = b.length) : nb (List.zipWith (fun x y => x || y) a b) = nb a ||| nb b := by
  refine Nat.eq_of_testBit_eq fun i => ?_
  rw [Nat.testBit_or, testBit_nb, testBit_nb, testBit_nb, getD_zip rfl a b h]
theorem nb_xor {a b : List Bool} (h : a.length = b.length) : nb (List.zipWith (fun x y => x != y) a b) = nb a ^^^ nb b := by
  refine Nat.eq_of_testBit_eq fun i => ?_
  rw [Nat.testBit_xor, testBit_nb, testBit_nb, testBit_nb, getD_zip rfl a b h]
theorem xor_eq0 {a b : Nat} : a ^^^ b = 0 ↔ a = b := by
  constructor
  · intro h
    refine Nat.eq_of_testBit_eq fun i => ?_
    have := congrArg (fun n => n.testBit i) h
    simp only [Nat.testBit_xor, Nat.zero_testBit] at this
    revert this
    cases a.testBit i <;> cases b.testBit i <;> simp
  · rintro rfl; exact Nat.xor_self a
theorem nb_one (b : Bool) : nb [b] = b.toNat := by simp [nb]
def DoOK (k W : Nat) (ins : Int) (g : List Kii) (op w p q s u lo : Int) (A B C : List Int) (wb : Int) (R : Option (Int × List Kii × List Int × Unit)) : Prop :=
  ∃ t l, R = some (ins, g ++ t, l, ()) ∧ t.length ≤ k ∧ RG ins (g ++ t) ∧ l.length = W ∧ Lits ins (g ++ t) l ∧ ∀ V, Mod ins (g ++ t) V → ∀ m, vd m op w p q s u lo (nb (bv V A) : Int) (nb (bv V B) : Int) (nb (bv V C) : Int) wb = some ((nb (bv V l) : Int), ())
section
variable {n : Nat} {ins : Int} {g : List Kii} {w p q s u lo wb : Int} {A B C : List Int}
theorem nbv_lt (V : List Bool) (l : List Int) : nb (bv V l) < 2 ^ l.length := by have := nb_lt (bv V l); rwa [bv_len] at this
theorem pow16 {k : Nat} (h : k ≤ 16) : 2 ^ k ≤ 65536 := by have := Nat.pow_le_pow_right (n := 2) (by omega) h; omega
theorem Do_lit {k N : Nat} (r : RG ins g) (hk : k ≤ 16) (hN : N < 2 ^ k) (hn : 30000 < n) : DoOK 0 k ins g 1 k p q s N lo A B C wb (blast_Do n ins g 1 k p q s N lo A B C) := by
  unfold blast_Do
  rw [show blast_works n = some () from rfl, bindS]
  simp only [cond_dec, ↓reduceIte]
  rw [doLit_f (w := k) (by omega) hN hn, bindS]
  refine ⟨[], nbits N k, by simp, by simp, by simpa using r, by simp [nbits], by simpa using nbits_lits r N k, fun V hV m => ?_⟩
  rw [vd_lit, nbits_v hV hN]
theorem Do_inv {k : Nat} (r : RG ins g) (hk : k ≤ 16) (hA : Lits ins g A) (hl : A.length = k) (hn : 30000 < n) : DoOK 0 k ins g 3 k p q s u lo A B C wb (blast_Do n ins g 3 k p q s u lo A B C) := by
  unfold blast_Do
  rw [show blast_works n = some () from rfl, bindS]
  simp only [cond_dec, Int.reduceEq, ↓reduceIte]
  unfold blast_maker_doInv_i2
  rw [turned_f r hA (by omega) hn, bindS, bindS]
  refine ⟨[], A.map turn, by simp, by simp, by simpa using r, by simpa using hl, by simpa using turn_lits r hA, fun V hV m => ?_⟩
  have h1 := nbv_lt V A
  rw [hl] at h1
  rw [vd_inv, bv_turn, nb_not, bv_len, hl, p2_nat]
  congr 2
  omega
theorem Do_redor (r : RG ins g) (hg : g.length ≤ 15000) (hA : Lits ins g A) (hl : A.length ≤ 16) (hn : 30000 < n) : DoOK A.length 1 ins g 4 w p q s u lo A B C wb (blast_Do n ins g 4 w p q s u lo A B C) := by
  obtain ⟨t, x, e, ht, hr, hx, hv⟩ := any_m (o := 4) (w := w) (p := p) (q := q) (s := s) (u := u) (lo := lo) (A := A) (B := B) (C := C) r (by omega) hA hn
  unfold blast_Do
  rw [show blast_works n = some () from rfl, bindS]
  simp only [cond_dec, Int.reduceEq, ↓reduceIte]
  unfold blast_maker_doRedOr
  rw [e, bindS, bindS]
  refine ⟨t, [x], rfl, ht, hr, rfl, fun y hy => by rw [List.mem_singleton.1 hy]; exact hx, fun V hV m => ?_⟩
  have q1 := hv V hV
  dsimp only at q1
  rw [vd_redor, show bv V [x] = [lv V x] from rfl, nb_one, q1, nb_any]
  by_cases h : nb (bv V A) = 0 <;> simp [h]
theorem Do_redand (r : RG ins g) (hg : g.length ≤ 15000) (hA : Lits ins g A) (hl : A.length ≤ 16) (hn : 30000 < n) : DoOK A.length 1 ins g 5 w p q s u A.length A B C wb (blast_Do n ins g 5 w p q s u A.length A B C) := by
  obtain ⟨t, x, e, ht, hr, hx, hv⟩ := any_m (l := A.map turn) (o := 5) (w := w) (p := p) (q := q) (s := s) (u := u) (lo := A.length) (A := A) (B := B) (C := C) r (by simp; omega) (turn_lits r hA) hn
  obtain ⟨e3, t3⟩ := turn_lit hr hx
  unfold blast_Do
  rw [show blast_works n = some () from rfl, bindS]
  simp only [cond_dec, Int.reduceEq, ↓reduceIte]
  unfold blast_maker_doRedAnd
  rw [turned_f r hA (by omega) hn, bindS, e, bindS, bindS]
  simp only [e3]
  refine ⟨t, [turn x], rfl, by simpa using ht, hr, rfl, fun y hy => by rw [List.mem_singleton.1 hy]; exact t3, fun V hV m => ?_⟩
  have q1 := hv V hV
  have h1 := nbv_lt V A
  dsimp only at q1
  rw [vd_redand, show bv V [turn x] = [lv V (turn x)] from rfl, nb_one, lv_turn, q1, bv_turn, nb_any, nb_not, bv_len, p2_nat]
  by_cases h : nb (bv V A) = 2 ^ A.length - 1
  · rw [if_pos (by omega), show 2 ^ A.length - 1 - nb (bv V A) = 0 by omega]; rfl
  · rw [if_neg (by omega), decide_eq_true (show 2 ^ A.length - 1 - nb (bv V A) ≠ 0 by omega)]; rfl
theorem Do_add {k : Nat} (r : RG ins g) (hg : g.length ≤ 15000) (hk : k ≤ 16) (hA : Lits ins g A) (hB : Lits ins g B) (hl : A.length = k) (hl2 : B.length = k) (hn : 30000 < n) : DoOK (9 * k) k ins g 9 k p q s u lo A B C wb (blast_Do n ins g 9 k p q s u lo A B C) := by
  obtain ⟨t, l, e, ht, hr, hx, hy, hv⟩ := sum_m (c := 0) (o := 9) (w := k) (p := p) (q := q) (s := s) (u := u) (lo := lo) (A := A) (B := B) (C := C) r (by omega) hA hB (by omega) (by omega) (zero_lit r) hn
  unfold blast_Do
  rw [show blast_works n = some () from rfl, bindS]
  simp only [cond_dec, Int.reduceEq, ↓reduceIte]
  unfold blast_maker_doAdd
  rw [e, bindS, bindS]
  refine ⟨t, l, rfl, by omega, hr, by omega, hy, fun V hV m => ?_⟩
  have q1 := hv V hV
  dsimp only at q1
  have h1 := nbv_lt V A
  have h2 := nbv_lt V B
  have h3 := pow16 hk
  rw [hl] at h1 q1
  rw [hl2] at h2
  rw [vd_add, q1, lv_0 hV, w64 (by omega) (by omega), p2_nat, Int.natCast_emod]
  rfl
theorem Do_sub {k : Nat} (r : RG ins g) (hg : g.length ≤ 15000) (hk : k ≤ 16) (hA : Lits ins g A) (hB : Lits ins g B) (hl : A.length = k) (hl2 : B.length = k) (hn : 30000 < n) : DoOK (9 * k) k ins g 10 k p q s u lo A B C wb (blast_Do n ins g 10 k p q s u lo A B C) := by
  obtain ⟨t, l, e, ht, hr, hx, hy, hv⟩ := sum_m (c := 1) (b := B.map turn) (o := 10) (w := k) (p := p) (q := q) (s := s) (u := u) (lo := lo) (A := A) (B := B) (C := C) r (by omega) hA (turn_lits r hB) (by simp; omega) (by omega) (one_lit r) hn
  unfold blast_Do
  rw [show blast_works n = some () from rfl, bindS]
  simp only [cond_dec, Int.reduceEq, ↓reduceIte]
  unfold blast_maker_doSub
  rw [turned_f r hB (by omega) hn, bindS, e, bindS, bindS]
  refine ⟨t, l, rfl, by omega, hr, by omega, hy, fun V hV m => ?_⟩
  have q1 := hv V hV
  dsimp only at q1
  have h1 := nbv_lt V A
  have h2 := nbv_lt V B
  have h3 := pow16 hk
  rw [bv_turn, nb_not, bv_len, hl2, hl] at q1
  rw [hl] at h1
  rw [hl2] at h2
  rw [vd_sub, q1, lv_1 hV, w64 (by omega) (by omega), p2_nat, Int.natCast_emod]
  congr 2
  rw [show ((nb (bv V A) + (2 ^ k - 1 - nb (bv V B)) + true.toNat : Nat) : Int) = ((nb (bv V A) : Int) - (nb (bv V B) : Int)) + ((2 ^ k : Nat) : Int) * 1 by simp only [Bool.toNat_true]; omega, Int.add_mul_emod_self_left]
theorem Do_mul {k : Nat} (r : RG ins g) (hg : g.length ≤ 15000) (hk : k ≤ 16) (hA : Lits ins g A) (hB : Lits ins g B) (hl : A.length = k) (hl2 : B.length = k) (hn : 30000 < n) : DoOK (10 * k * k) k ins g 11 k p q s u lo A B C wb (blast_Do n ins g 11 k p q s u lo A B C) := by
  have hkk : 10 * k * k ≤ 2560 := Nat.mul_le_mul (show 10 * k ≤ 160 by omega) hk
  subst hl
  obtain ⟨t, l, e, ht, hr, hx, hy, hv⟩ := doMul_m (o := 11) (w := A.length) (p := p) (q := q) (s := s) (u := u) (lo := lo) (A := A) (B := B) (C := C) r (by omega) hA hB (by omega) (by omega) hn
  unfold blast_Do
  rw [show blast_works n = some () from rfl, bindS]
  simp only [cond_dec, Int.reduceEq, ↓reduceIte]
  rw [e, bindS]
  refine ⟨t, l, rfl, by omega, hr, by omega, hy, fun V hV m => ?_⟩
  have q1 := hv V hV
  dsimp only at q1
  have h1 := nbv_lt V A
  have h2 := nbv_lt V B
  have h3 := pow16 hk
  rw [hl2] at h2
  have hb : nb (bv V A) * nb (bv V B) ≤ 65536 * 65536 := Nat.mul_le_mul (by omega) (by omega)
  rw [vd_mul, q1, p2_nat, Int.natCast_emod, ← Int.natCast_mul, w64 (by omega) (by omega)]
theorem Do_and {k : Nat} (r : RG ins g) (hg : g.length ≤ 15000) (hk : k ≤ 16) (hA : Lits ins g A) (hB : Lits ins g B) (hl : A.length = k) (hl2 : B.length = k) (hn : 30000 < n) : DoOK (3 * k) k ins g 6 k p q s u lo A B C wb (blast_Do n ins g 6 k p q s u lo A B C) := by
  obtain ⟨t, l, e, ht, hr, hx, hy, hv⟩ := both_and_m (o := 6) (w := k) (p := p) (q := q) (s := s) (u := u) (lo := lo) (A := A) (B := B) (C := C) r (by omega) hA hB (by omega) (by omega) hn
  unfold blast_Do
  rw [show blast_works n = some () from rfl, bindS]
  simp only [cond_dec, Int.reduceEq, ↓reduceIte]
  unfold blast_maker_doAnd
  rw [e, bindS, bindS]
  refine ⟨t, l, rfl, by omega, hr, by omega, hy, fun V hV m => ?_⟩
  have h1 := nbv_lt V A
  have h2 := nbv_lt V B
  have h4 := nbv_lt V l
  have h3 := pow16 hk
  rw [hl] at h1
  rw [hl2] at h2
  rw [hx, hl] at h4
  have q1 := hv V hV
  dsimp only at q1
  rw [q1, nb_and (by rw [bv_len, bv_len]; omega)] at h4 ⊢
  rw [vd_and, and_nat _ _ (by omega) (by omega), p2_nat, ← Int.natCast_emod, Nat.mod_eq_of_lt h4]
theorem Do_or {k : Nat} (r : RG ins g) (hg : g.length ≤ 15000) (hk : k ≤ 16) (hA : Lits ins g A) (hB : Lits ins g B) (hl : A.length = k) (hl2 : B.length = k) (hn : 30000 < n) : DoOK (3 * k) k ins g 7 k p q s u lo A B C wb (blast_Do n ins g 7 k p q s u lo A B C) := by
  obtain ⟨t, l, e, ht, hr, hx, hy, hv⟩ := both_or_m (o := 7) (w := k) (p := p) (q := q) (s := s) (u := u) (lo := lo) (A := A) (B := B) (C := C) r (by omega) hA hB (by omega) (by omega) hn
  unfold blast_Do
  rw [show blast_works n = some () from rfl, bindS]
  simp only [cond_dec, Int.reduceEq, ↓reduceIte]
  unfold blast_maker_doOr
  rw [e, bindS, bindS]
  refine ⟨t, l, rfl, by omega, hr, by omega, hy, fun V hV m => ?_⟩
  have h1 := nbv_lt V A
  have h2 := nbv_lt V B
  have h4 := nbv_lt V l
  have h3 := pow16 hk
  rw [hl] at h1
  rw [hl2] at h2
  rw [hx, hl] at h4
  have q1 := hv V hV
  dsimp only at q1
  rw [q1, nb_or (by rw [bv_len, bv_len]; omega)] at h4 ⊢
  rw [vd_or, or_nat _ _ (by omega) (by omega), p2_nat, ← Int.natCast_emod, Nat.mod_eq_of_lt h4]
theorem Do_xor {k : Nat} (r : RG ins g) (hg : g.length ≤ 15000) (hk : k ≤ 16) (hA : Lits ins g A) (hB : Lits ins g B) (hl : A.length = k) (hl2 : B.length = k) (hn : 30000 < n) : DoOK (3 * k) k ins g 8 k p q s u lo A B C wb (blast_Do n ins g 8 k p q s u lo A B C) := by
  obtain ⟨t, l, e, ht, hr, hx, hy, hv⟩ := both_xor_m (o := 8) (w := k) (p := p) (q := q) (s := s) (u := u) (lo := lo) (A := A) (B := B) (C := C) r (by omega) hA hB (by omega) (by omega) hn
  unfold blast_Do
  rw [show blast_works n = some () from rfl, bindS]
  simp only [cond_dec, Int.reduceEq, ↓reduceIte]
  unfold blast_maker_doXor
  rw [e, bindS, bindS]
  refine ⟨t, l, rfl, by omega, hr, by omega, hy, fun V hV m => ?_⟩
  have h1 := nbv_lt V A
  have h2 := nbv_lt V B
  have h4 := nbv_lt V l
  have h3 := pow16 hk
  rw [hl] at h1
  rw [hl2] at h2
  rw [hx, hl] at h4
  have q1 := hv V hV
  dsimp only at q1
  rw [q1, nb_xor (by rw [bv_len, bv_len]; omega)] at h4 ⊢
  rw [vd_xor, xor_nat _ _ (by omega) (by omega), p2_nat, ← Int.natCast_emod, Nat.mod_eq_of_lt h4]
theorem doNe_m {o : Int} (r : RG ins g) (hg : g.length ≤ 15000) (hA : Lits ins g A) (hB : Lits ins g B) (hl : A.length ≤ 16) (hl2 : B.length = A.length) (hn : 30000 < n) : MS (4 * A.length) ins g (o, w, p, q, s, u, lo, A, B, C, ()) (blast_maker_doNe n ins g o w p q s u lo A B C) (fun G l => ∃ x, l = [x] ∧ LitG ins G x ∧ ∀ V, Mod ins G V → lv V x = decide (nb (bv V A) ≠ nb (bv V B))) := by
  obtain ⟨t, l, e, ht, hr, hx, hy, hv⟩ := both_xor_m (o := o) (w := w) (p := p) (q := q) (s := s) (u := u) (lo := lo) (A := A) (B := B) (C := C) r (by omega) hA hB (by omega) (by omega) hn
  obtain ⟨t2, x, e2, ht2, hr2, hx2, hv2⟩ := any_m (l := l) (o := o) (w := w) (p := p) (q := q) (s := s) (u := u) (lo := lo) (A := A) (B := B) (C := C) hr (by simp; omega) hy hn
  unfold blast_maker_doNe
  rw [e, bindS]
  simp only
  rw [e2, bindS]
  refine ⟨t ++ t2, [x], by simp, by simp; omega, by simpa using hr2, x, rfl, by simpa using hx2, fun V hV => ?_⟩
  have hV : Mod ins (g ++ t ++ t2) V := by simpa using hV
  have q1 := hv V hV.pre
  have q2 := hv2 V hV
  dsimp only at q1 q2
  rw [q2, nb_any, q1, nb_xor (by rw [bv_len, bv_len]; omega)]
  exact decide_eq_decide.2 (not_congr xor_eq0)
theorem Do_ne (r : RG ins g) (hg : g.length ≤ 15000) (hA : Lits ins g A) (hB : Lits ins g B) (hl : A.length ≤ 16) (hl2 : B.length = A.length) (hn : 30000 < n) : DoOK (4 * A.length) 1 ins g 13 w p q s u lo A B C wb (blast_Do n ins g 13 w p q s u lo A B C) := by
  obtain ⟨t, l, e, ht, hr, x, rfl, hx, hv⟩ := doNe_m (o := 13) (w := w) (p := p) (q := q) (s := s) (u := u) (lo := lo) (C := C) r hg hA hB hl hl2 hn
  unfold blast_Do
  rw [show blast_works n = some () from rfl, bindS]
  simp only [cond_dec, Int.reduceEq, ↓reduceIte]
  rw [e, bindS]
  refine ⟨t, [x], rfl, ht, hr, rfl, fun y hy => by rw [List.mem_singleton.1 hy]; exact hx, fun V hV m => ?_⟩
  rw [vd_ne, show bv V [x] = [lv V x] from rfl, nb_one, hv V hV]
  by_cases h : nb (bv V A) = nb (bv V B) <;> simp [h]
  omega
theorem Do_eq (r : RG ins g) (hg : g.length ≤ 15000) (hA : Lits ins g A) (hB : Lits ins g B) (hl : A.length ≤ 16) (hl2 : B.length = A.length) (hn : 30000 < n) : DoOK (4 * A.length) 1 ins g 12 w p q s u lo A B C wb (blast_Do n ins g 12 w p q s u lo A B C) := by
  obtain ⟨t, l, e, ht, hr, x, rfl, hx, hv⟩ := doNe_m (o := 12) (w := w) (p := p) (q := q) (s := s) (u := u) (lo := lo) (C := C) r hg hA hB hl hl2 hn
  unfold blast_Do
  rw [show blast_works n = some () from rfl, bindS]
  simp only [cond_dec, Int.reduceEq, ↓reduceIte]
  unfold blast_maker_doEq
  rw [e, bindS]
  simp only
  rw [turned_f (l := [x]) hr (fun y hy => by rw [List.mem_singleton.1 hy]; exact hx) (by simp) hn, bindS, bindS]
  refine ⟨t, [turn x], rfl, ht, hr, rfl, fun y hy => by rw [List.mem_singleton.1 hy]; exact (turn_lit hr hx).2, fun V hV m => ?_⟩
  rw [vd_eq, show bv V [turn x] = [lv V (turn x)] from rfl, nb_one, lv_turn, hv V hV]
  by_cases h : nb (bv V A) = nb (bv V B) <;> simp [h]
  omega
theorem Do_lt (r : RG ins g) (hg : g.length ≤ 15000) (hA : Lits ins g A) (hB : Lits ins g B) (hl : A.length ≤ 16) (hl2 : B.length = A.length) (hn : 30000 < n) : DoOK (6 * A.length) 1 ins g 14 w p q s u lo A B C wb (blast_Do n ins g 14 w p q s u lo A B C) := by
  obtain ⟨t, l, e, ht, hr, hx, hy, hv⟩ := below_m (c := 0) (o := 14) (w := w) (p := p) (q := q) (s := s) (u := u) (lo := lo) (A := A) (B := B) (C := C) r (by omega) hA hB hl2 (by omega) (zero_lit r) hn
  unfold blast_Do
  rw [show blast_works n = some () from rfl, bindS]
  simp only [cond_dec, Int.reduceEq, ↓reduceIte]
  unfold blast_maker_doLt
  rw [e, bindS, bindS]
  refine ⟨t, l, rfl, ht, hr, hx, hy, fun V hV m => ?_⟩
  have q1 := hv V hV
  dsimp only at q1
  rw [vd_lt, q1, nb_one, lv_0 hV]
  by_cases h : nb (bv V A) < nb (bv V B)
  · rw [if_pos (by omega), if_pos h]; rfl
  · rw [if_neg (by omega), if_neg h]; split <;> rfl
theorem Do_le (r : RG ins g) (hg : g.length ≤ 15000) (hA : Lits ins g A) (hB : Lits ins g B) (hl : A.length ≤ 16) (hl2 : B.length = A.length) (hn : 30000 < n) : DoOK (6 * A.length) 1 ins g 15 w p q s u lo A B C wb (blast_Do n ins g 15 w p q s u lo A B C) := by
  obtain ⟨t, l, e, ht, hr, hx, hy, hv⟩ := below_m (c := 1) (o := 15) (w := w) (p := p) (q := q) (s := s) (u := u) (lo := lo) (A := A) (B := B) (C := C) r (by omega) hA hB hl2 (by omega) (one_lit r) hn
  unfold blast_Do
  rw [show blast_works n = some () from rfl, bindS]
  simp only [cond_dec, Int.reduceEq, ↓reduceIte]
  unfold blast_maker_doLe
  rw [e, bindS, bindS]
  refine ⟨t, l, rfl, ht, hr, hx, hy, fun V hV m => ?_⟩
  have q1 := hv V hV
  dsimp only at q1
  rw [vd_le, q1, nb_one, lv_1 hV]
  by_cases h : nb (bv V A) < nb (bv V B)
  · rw [if_pos (by omega), if_pos h]; rfl
  · by_cases h2 : nb (bv V B) < nb (bv V A)
    · rw [if_neg (by omega), if_neg h, if_pos h2]; rfl
    · rw [if_pos (by omega), if_neg h, if_neg h2]; rfl
theorem Do_mux {k : Nat} (r : RG ins g) (hg : g.length ≤ 15000) (hk : k ≤ 16) (hA : Lits ins g A) (hB : Lits ins g B) (hC : Lits ins g C) (hl : A.length = 1) (hl2 : B.length = k) (hl3 : C.length = k) (hn : 30000 < n) : DoOK (3 * k) k ins g 16 w p q s u lo A B C wb (blast_Do n ins g 16 w p q s u lo A B C) := by
  obtain ⟨t, l, e, ht, hr, hx, hy, hv⟩ := doMux_m (o := 16) (w := w) (p := p) (q := q) (s := s) (u := u) (lo := lo) (A := A) (B := B) (C := C) r (by omega) hA hB hC hl (by omega) (by omega) hn
  unfold blast_Do
  rw [show blast_works n = some () from rfl, bindS]
  simp only [cond_dec, Int.reduceEq, ↓reduceIte]
  rw [e, bindS]
  refine ⟨t, l, rfl, by omega, hr, by omega, hy, fun V hV m => ?_⟩
  have q1 := hv V hV
  dsimp only at q1
  have hA1 : nb (bv V A) = (lv V (Ki_at A 0)).toNat := by
    match A, hl with
    | [x], _ => exact nb_one _
  rw [vd_mux, q1, hA1]
  cases lv V (Ki_at A 0) <;> rfl
theorem Do_cat (r : RG ins g) (hA : Lits ins g A) (hB : Lits ins g B) (hl : A.length ≤ 16) (hl2 : B.length ≤ 16) (hn : 30000 < n) : DoOK 0 (A.length + B.length) ins g 17 w p q s u lo A B C B.length (blast_Do n ins g 17 w p q s u lo A B C) := by
  unfold blast_Do
  rw [show blast_works n = some () from rfl, bindS]
  simp only [cond_dec, Int.reduceEq, ↓reduceIte]
  unfold blast_maker_doCat_o
  change DoOK 0 (A.length + B.length) ins g 17 w p q s u lo A B C B.length (((slices_Concat_int_int_o n [B, A]).bind fun r3 => some (r3.1, ())).bind fun r29 => some (ins, g, r29.1, ()))
  rw [concat_f (by omega) (by omega) hn, bindS, bindS]
  refine ⟨[], B ++ A, by simp, by simp, by simpa using r, by simp; omega, by simpa using lits_app hB hA, fun V hV m => ?_⟩
  have h1 := nbv_lt V A
  have h2 := nbv_lt V B
  have h3 := pow16 hl
  have h4 := pow16 hl2
  have hb : nb (bv V A) * 2 ^ B.length ≤ 65536 * 65536 := Nat.mul_le_mul (by omega) (by omega)
  have hm : ((nb (bv V A) : Int) * ((2 ^ B.length : Nat) : Int)) = ((nb (bv V A) * 2 ^ B.length : Nat) : Int) := by rw [Int.natCast_mul]
  rw [vd_cat, bv_app, nb_app, bv_len, p2_nat, hm, Nat.mul_comm (2 ^ B.length)]
  congr 2
  omega
theorem Do_slice {N L : Nat} (r : RG ins g) (hA : Lits ins g A) (hl : A.length ≤ 16) (hN : N < A.length) (hL : L ≤ N) (hn : 30000 < n) : DoOK 0 (N - L + 1) ins g 18 w p q s N L A B C wb (blast_Do n ins g 18 w p q s N L A B C) := by
  unfold blast_Do
  rw [show blast_works n = some () from rfl, bindS]
  simp only [cond_dec, Int.reduceEq, ↓reduceIte]
  unfold blast_maker_doSlice_i2 slices_Clone_int_int
  have hw : IntKind.wrap .i64 ((N : Int) + 1) = ((N + 1 : Nat) : Int) := by rw [w64 (by omega) (by omega)]; omega
  rw [hw, ask_of (by omega), Int.toNat_natCast, Int.toNat_natCast, ask_of (by simp; omega), bindS, bindS]
  refine ⟨[], (A.take (N + 1)).drop L, by simp, by simp, by simpa using r, by simp; omega, fun x hx => ?_, fun V hV m => ?_⟩
  · have := hA x (List.mem_of_mem_take (List.mem_of_mem_drop hx))
    simpa using this
  · rw [vd_slice]
    have e : bv V ((A.take (N + 1)).drop L) = ((bv V A).drop L).take (N + 1 - L) := by
      rw [← List.drop_take]
      simp [bv, List.map_take, List.map_drop]
    rw [e, ← nb_mod, ← nb_div, show (N : Int) - (L : Int) + 1 = ((N + 1 - L : Nat) : Int) by omega, p2_nat, p2_nat, Int.natCast_emod, Int.natCast_ediv]
/-- What a law's node may be: its numbers, how many bits its operands have, how many ands it may take. -/
inductive NodeOK : (op w u lo : Int) → (wa wb wc W K : Nat) → Prop
  | lit (k N : Nat) : 1 ≤ k → k ≤ 16 → N < 2 ^ k → NodeOK 1 k N 0 0 0 0 k 0
  | inv (k : Nat) : 1 ≤ k → k ≤ 16 → NodeOK 3 k 0 0 k 0 0 k (20 * k)
  | red (op : Int) (k : Nat) : op = 4 ∨ op = 5 → 1 ≤ k → k ≤ 16 → NodeOK op 1 0 k k 0 0 1 (20 * k)
  | two (op : Int) (k : Nat) : op = 6 ∨ op = 7 ∨ op = 8 ∨ op = 9 ∨ op = 10 → 1 ≤ k → k ≤ 16 → NodeOK op k 0 0 k k 0 k (20 * k)
  | mul (k : Nat) : 1 ≤ k → k ≤ 16 → NodeOK 11 k 0 0 k k 0 k (20 * k * k)
  | ord (op : Int) (k : Nat) : op = 12 ∨ op = 13 ∨ op = 14 ∨ op = 15 → 1 ≤ k → k ≤ 16 → NodeOK op 1 0 k k k 0 1 (20 * k)
  | mux (k : Nat) : 1 ≤ k → k ≤ 16 → NodeOK 16 k 0 0 1 k k k (20 * k)
  | cat (a b : Nat) : 1 ≤ a → 1 ≤ b → a + b ≤ 16 → NodeOK 17 ((a + b : Nat) : Int) 0 0 a b 0 (a + b) (20 * (a + b))
  | slice (k N L : Nat) : k ≤ 16 → N < k → L ≤ N → NodeOK 18 ((N - L + 1 : Nat) : Int) N L k 0 0 (N - L + 1) (20 * (N - L + 1))
theorem DoOK.le {k k' W : Nat} {op w' : Int} {R : Option (Int × List Kii × List Int × Unit)} (h : DoOK k W ins g op w' p q s u lo A B C wb R) (hk : k ≤ k') : DoOK k' W ins g op w' p q s u lo A B C wb R := by
  obtain ⟨t, l, e, ht, rest⟩ := h
  exact ⟨t, l, e, by omega, rest⟩
theorem Do_all {op : Int} {wa wb' wc W K : Nat} (r : RG ins g) (hg : g.length ≤ 15000) (h : NodeOK op w u lo wa wb' wc W K) (hA : Lits ins g A) (hB : Lits ins g B) (hC : Lits ins g C) (hl : A.length = wa) (hl2 : B.length = wb') (hl3 : C.length = wc) (hn : 30000 < n) : DoOK K W ins g op w p q s u lo A B C wb' (blast_Do n ins g op w p q s u lo A B C) := by
  cases h with
  | lit k N h1 h2 h3 => exact Do_lit r h2 h3 hn
  | inv k h1 h2 => exact (Do_inv r h2 hA hl hn).le (by omega)
  | red op k h0 h1 h2 =>
    subst hl
    rcases h0 with rfl | rfl
    · exact (Do_redor r hg hA h2 hn).le (by omega)
    · exact (Do_redand r hg hA h2 hn).le (by omega)
  | two op k h0 h1 h2 =>
    rcases h0 with rfl | rfl | rfl | rfl | rfl
    · exact (Do_and r hg h2 hA hB hl hl2 hn).le (by omega)
    · exact (Do_or r hg h2 hA hB hl hl2 hn).le (by omega)
    · exact (Do_xor r hg h2 hA hB hl hl2 hn).le (by omega)
    · exact (Do_add r hg h2 hA hB hl hl2 hn).le (by omega)
    · exact (Do_sub r hg h2 hA hB hl hl2 hn).le (by omega)
  | mul k h1 h2 => exact (Do_mul r hg h2 hA hB hl hl2 hn).le (Nat.mul_le_mul (by omega) (Nat.le_refl _))
  | ord op k h0 h1 h2 =>
    subst hl
    rcases h0 with rfl | rfl | rfl | rfl
    · exact (Do_eq r hg hA hB h2 hl2 hn).le (by omega)
    · exact (Do_ne r hg hA hB h2 hl2 hn).le (by omega)
    · exact (Do_lt r hg hA hB h2 hl2 hn).le (by omega)
    · exact (Do_le r hg hA hB h2 hl2 hn).le (by omega)
  | mux k h1 h2 => exact (Do_mux r hg h2 hA hB hC hl hl2 hl3 hn).le (by omega)
  | cat a b h1 h2 h3 =>
    subst hl; subst hl2
    exact (Do_cat r hA hB (by omega) (by omega) hn).le (by omega)
  | slice k N L h1 h2 h3 =>
    subst hl
    exact (Do_slice r hA h1 h2 h3 hn).le (by omega)
end
end Go.Proofs.Ytfjdhdmbbfeigaa.Am
