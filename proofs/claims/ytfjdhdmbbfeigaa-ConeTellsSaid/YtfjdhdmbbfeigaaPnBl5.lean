/- What blast.Do makes of each op. -/
import Derived.Test.YtfjdhdmbbfeigaaPnBl4
namespace Go.Proofs.Ytfjdhdmbbfeigaa.Am
set_option linter.unusedVariables false
set_option linter.unusedSimpArgs false
/-- What a node of an op makes of numbers. -/
def doN (op w u lo x y z wb : Int) : Int :=
  if op = 1 then u else if op = 3 then P2 w - 1 - x else if op = 4 then (if x = 0 then 0 else 1) else if op = 5 then (if x = P2 lo - 1 then 1 else 0)
  else if op = 6 then bits .and .i64 x y % P2 w else if op = 7 then bits .or .i64 x y % P2 w else if op = 8 then bits .xor .i64 x y % P2 w
  else if op = 9 then IntKind.wrap .i64 (x + y) % P2 w else if op = 10 then IntKind.wrap .i64 (x - y) % P2 w else if op = 11 then IntKind.wrap .i64 (x * y) % P2 w
  else if op = 12 then (if x = y then 1 else 0) else if op = 13 then (if x = y then 0 else 1) else if op = 14 then (if x < y then 1 else 0) else if op = 15 then (if x ≤ y then 1 else 0)
  else if op = 16 then (if x = 1 then y else z) else if op = 17 then x * P2 wb + y else x / P2 lo % P2 (u - lo + 1)
def vd (m : Nat) (op w p q s u lo x y z wb : Int) : Option (Int × Unit) := some (doN op w u lo x y z wb, ())
section
variable {m : Nat} {k p q r n lo x y c wb : Int}
theorem vd_lit : vd m 1 k p q r n lo x y c wb = some (n, ()) := rfl
theorem vd_inv : vd m 3 k p q r n lo x y c wb = some (P2 k - 1 - x, ()) := rfl
theorem vd_redor : vd m 4 k p q r n lo x y c wb = some (if x = 0 then 0 else 1, ()) := rfl
theorem vd_redand : vd m 5 k p q r n lo x y c wb = some (if x = P2 lo - 1 then 1 else 0, ()) := rfl
theorem vd_and : vd m 6 k p q r n lo x y c wb = some (bits .and .i64 x y % P2 k, ()) := rfl
theorem vd_or : vd m 7 k p q r n lo x y c wb = some (bits .or .i64 x y % P2 k, ()) := rfl
theorem vd_xor : vd m 8 k p q r n lo x y c wb = some (bits .xor .i64 x y % P2 k, ()) := rfl
theorem vd_add : vd m 9 k p q r n lo x y c wb = some (IntKind.wrap .i64 (x + y) % P2 k, ()) := rfl
theorem vd_sub : vd m 10 k p q r n lo x y c wb = some (IntKind.wrap .i64 (x - y) % P2 k, ()) := rfl
theorem vd_mul : vd m 11 k p q r n lo x y c wb = some (IntKind.wrap .i64 (x * y) % P2 k, ()) := rfl
theorem vd_eq : vd m 12 k p q r n lo x y c wb = some (if x = y then 1 else 0, ()) := rfl
theorem vd_ne : vd m 13 k p q r n lo x y c wb = some (if x = y then 0 else 1, ()) := rfl
theorem vd_lt : vd m 14 k p q r n lo x y c wb = some (if x < y then 1 else 0, ()) := rfl
theorem vd_le : vd m 15 k p q r n lo x y c wb = some (if x ≤ y then 1 else 0, ()) := rfl
theorem vd_mux : vd m 16 k p q r n lo x y c wb = some (if x = 1 then y else c, ()) := rfl
theorem vd_cat : vd m 17 k p q r n lo x y c wb = some (x * P2 wb + y, ()) := rfl
theorem vd_slice : vd m 18 k p q r n lo x y c wb = some (x / P2 lo % P2 (n - lo + 1), ()) := rfl
end
theorem p2_nat (w : Nat) : P2 (w : Int) = ((2 ^ w : Nat) : Int) := by unfold P2; rw [Int.toNat_natCast]
theorem getD_zip {f : Bool → Bool → Bool} (hf : f false false = false) : ∀ (a b : List Bool), a.length = b.length → ∀ i, (List.zipWith f a b).getD i false = f (a.getD i false) (b.getD i false)
  | [], [], _, i => by simp [hf]
  | x :: a, y :: b, h, 0 => rfl
  | x :: a, y :: b, h, i + 1 => by
    have := getD_zip hf a b (by simpa using h) i
    simpa using this
  | [], _ :: _, h, _ => by simp at h
  | _ :: _, [], h, _ => by simp at h
theorem nb_and {a b : List Bool} (h : a.length = b.length) : nb (List.zipWith (fun x y => x && y) a b) = nb a &&& nb b := by
  refine Nat.eq_of_testBit_eq fun i => ?_
  rw [Nat.testBit_and, testBit_nb, testBit_nb, testBit_nb, getD_zip rfl a b h]
theorem nb_or {a b : List Bool} (h : a.length = b.length) : nb (List.zipWith (fun x y => x || y) a b) = nb a ||| nb b := by
  refine Nat.eq_of_testBit_eq fun i => ?_
  rw [Nat.testBit_or, testBit_nb, testBit_nb, testBit_nb, getD_zip rfl a b h]
theorem nb_xor {a b : List Bool} (h : a.length = b.length) : nb (List.zipWith (fun x y => x != y) a b) = nb a ^^^ nb b := by
  refine Nat.eq_of_testBit_eq fun i => ?_
  rw [Nat.testBit_xor, testBit_nb, testBit_nb, testBit_nb, getD_zip rfl a b h]
theorem xor_eq0 {a b : Nat} : a ^^^ b = 0 ↔ a = b := by
  constructor
  · intro h
    refine Nat.eq_of_testBit_eq fun i => ?_
    have := congrArg (fun n => n.testBit i) h
    simp only [Nat.testBit_xor, Nat.zero_testBit] at this
    revert this
    cases a.testBit i <;> cases b.testBit i <;> simp
  · rintro rfl; exact Nat.xor_self a
theorem nb_one (b : Bool) : nb [b] = b.toNat := by simp [nb]
def DoOK (k W : Nat) (ins : Int) (g : List Kii) (op w p q s u lo : Int) (A B C : List Int) (wb : Int) (R : Option (Int × List Kii × List Int × Unit)) : Prop :=
  ∃ t l, R = some (ins, g ++ t, l, ()) ∧ t.length ≤ k ∧ RG ins (g ++ t) ∧ l.length = W ∧ Lits ins (g ++ t) l ∧ ∀ V, Mod ins (g ++ t) V → ∀ m, vd m op w p q s u lo (nb (bv V A) : Int) (nb (bv V B) : Int) (nb (bv V C) : Int) wb = some ((nb (bv V l) : Int), ())
section
variable {n : Nat} {ins : Int} {g : List Kii} {w p q s u lo wb : Int} {A B C : List Int}
theorem nbv_lt (V : List Bool) (l : List Int) : nb (bv V l) < 2 ^ l.length := by have := nb_lt (bv V l); rwa [bv_len] at this
theorem pow16 {k : Nat} (h : k ≤ 16) : 2 ^ k ≤ 65536 := by have := Nat.pow_le_pow_right (n := 2) (by omega) h; omega
/-- What a law's node may be: its numbers, how many bits its operands have, how many ands it may take. -/
inductive NodeOK : (op w u lo : Int) → (wa wb wc W K : Nat) → Prop
  | lit (k N : Nat) : 1 ≤ k → k ≤ 16 → N < 2 ^ k → NodeOK 1 k N 0 0 0 0 k 0
  | inv (k : Nat) : 1 ≤ k → k ≤ 16 → NodeOK 3 k 0 0 k 0 0 k (20 * k)
  | red (op : Int) (k : Nat) : op = 4 ∨ op = 5 → 1 ≤ k → k ≤ 16 → NodeOK op 1 0 k k 0 0 1 (20 * k)
  | two (op : Int) (k : Nat) : op = 6 ∨ op = 7 ∨ op = 8 ∨ op = 9 ∨ op = 10 → 1 ≤ k → k ≤ 16 → NodeOK op k 0 0 k k 0 k (20 * k)
  | mul (k : Nat) : 1 ≤ k → k ≤ 16 → NodeOK 11 k 0 0 k k 0 k (20 * k * k)
  | ord (op : Int) (k : Nat) : op = 12 ∨ op = 13 ∨ op = 14 ∨ op = 15 → 1 ≤ k → k ≤ 16 → NodeOK op 1 0 k k k 0 1 (20 * k)
  | mux (k : Nat) : 1 ≤ k → k ≤ 16 → NodeOK 16 k 0 0 1 k k k (20 * k)
  | cat (a b : Nat) : 1 ≤ a → 1 ≤ b → a + b ≤ 16 → NodeOK 17 ((a + b : Nat) : Int) 0 0 a b 0 (a + b) (20 * (a + b))
  | slice (k N L : Nat) : k ≤ 16 → N < k → L ≤ N → NodeOK 18 ((N - L + 1 : Nat) : Int) N L k 0 0 (N - L + 1) (20 * (N - L + 1))
theorem DoOK.le {k k' W : Nat} {op w' : Int} {R : Option (Int × List Kii × List Int × Unit)} (h : DoOK k W ins g op w' p q s u lo A B C wb R) (hk : k ≤ k') : DoOK k' W ins g op w' p q s u lo A B C wb R := by
  obtain ⟨t, l, e, ht, rest⟩ := h
  exact ⟨t, l, e, by omega, rest⟩
end
end Go.Proofs.Ytfjdhdmbbfeigaa.Am
