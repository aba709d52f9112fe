/- BlastParts, in plain Lean. -/
import Derived.Test.YtdnfbihppellkaaPlBl9
namespace Go.Proofs.Ytdnfbihppellkaa.Am
set_option linter.unusedVariables false
set_option linter.unusedSimpArgs false
theorem some_fst {a b : Int} (h : (some (a, ()) : Option (Int × Unit)) = some (b, ())) : a = b := congrArg Prod.fst (Option.some.inj h)
theorem parts14 {x1 x4 x5 : Int} {x2 : List Kcwww} {x3 : List Int} {x6 : List Bool} (h1 : (Lit.int .u8 x1).wf = true) (ho : OpsOk x2) (h3 : ∀ x ∈ x3, (Lit.int .u16 x).wf = true) (h4 : (Lit.int .u8 x4).wf = true) (h5 : (Lit.int .u8 x5).wf = true) : law14_BlastParts big x1 x2 x3 x4 x5 x6 = some (true, ()) := by
  have hn : 30000 < big := by decide
  have g4 := lit_u8 h4
  have g5 := lit_u8 h5
  unfold law14_BlastParts law13_Great
  rw [head14, bindS, bindS]
  by_cases hl : (120 : Int) < (x2.length : Int)
  · rw [decide_eq_true hl]; rfl
  rw [decide_eq_false hl]
  simp only [cond_false]
  obtain ⟨ins, g, lits, e, r, hg⟩ := made_f (n := big) h1 (by omega) ho hn
  obtain ⟨k, hk, k1, k2⟩ : ∃ k : Nat, IntKind.wrap .i64 (Int.tmod (IntKind.wrap .i64 x4) 15 + 2) = (k : Int) ∧ 2 ≤ k ∧ k ≤ 16 := by
    refine ⟨(x4 % 15 + 2).toNat, ?_, by omega, by omega⟩
    rw [w64 (n := x4) (by omega) (by omega), tmodn (by omega), w64 (by omega) (by omega)]
    omega
  have hk1 : IntKind.wrap .i64 ((k : Int) - 1) = ((k - 1 : Nat) : Int) := by rw [w64 (by omega) (by omega)]; omega
  obtain ⟨L, hL, L1, L2⟩ : ∃ L : Nat, IntKind.wrap .i64 (Int.tmod (IntKind.wrap .i64 x5) ((k - 1 : Nat) : Int) + 1) = (L : Int) ∧ 1 ≤ L ∧ L < k := by
    have q0 := Int.emod_nonneg x5 (show ((k - 1 : Nat) : Int) ≠ 0 by omega)
    have q1 := Int.emod_lt_of_pos x5 (show (0 : Int) < ((k - 1 : Nat) : Int) by omega)
    refine ⟨(x5 % ((k - 1 : Nat) : Int) + 1).toNat, ?_, by omega, by omega⟩
    rw [w64 (n := x5) (by omega) (by omega), tmodn (by omega), w64 (by omega) (by omega)]
    omega
  have hkL : IntKind.wrap .i64 ((k : Int) - (L : Int)) = ((k - L : Nat) : Int) := by rw [w64 (by omega) (by omega)]; omega
  have hL1 : IntKind.wrap .i64 ((L : Int) - 1) = ((L - 1 : Nat) : Int) := by rw [w64 (by omega) (by omega)]; omega
  simp only [hk, hk1, hL, hkL, hL1]
  rw [e, bindS, ask_of (by omega), ask_of (by omega)]
  simp only
  obtain ⟨A, eA, lA, iA⟩ := bits14_f (n := big) (w := k) r h3 (by omega) hn
  rw [eA, bindS]
  simp only
  have nil : ∀ {G : List Kii}, Lits ins G [] := fun x hx => by simp at hx
  obtain ⟨t1, l1, e1, ht1, hr1, hl1, hls1, hv1⟩ := Do_slice (n := big) (w := ((k - L : Nat) : Int)) (p := 0) (q := 0) (s := 0) (wb := 0) (B := []) (C := []) (N := k - 1) (L := L) r iA (by omega) (by omega) (by omega) hn
  obtain ⟨t2, l2, e2, ht2, hr2, hl2, hls2, hv2⟩ := Do_slice (n := big) (w := (L : Int)) (p := 0) (q := 0) (s := 0) (wb := 0) (A := A) (B := []) (C := []) (N := L - 1) (L := 0) hr1 iA.more (by omega) (by omega) (by omega) hn
  obtain ⟨t3, l3, e3, ht3, hr3, hl3, hls3, hv3⟩ := Do_cat (n := big) (w := (k : Int)) (p := 0) (q := 0) (s := 0) (u := 0) (lo := 0) (A := l1) (B := l2) (C := []) hr2 hls1.more hls2 (by omega) (by omega) hn
  have i0 := hr3.i0
  have i1 := hr3.i1
  have hgt := hr3.len
  rw [e1, bindS]
  simp only
  rw [aigRight_f hr1 hn, bindS]
  simp only [Bool.not_true, cond_false, cond_dec]
  rw [if_neg (by simp), if_neg (by omega), right14_f hr1 hls1 (by omega) hn, bindS]
  simp only [Bool.not_true, cond_false]
  rw [show ((0 : Nat) : Int) = 0 from rfl] at e2
  rw [e2, bindS]
  simp only
  rw [aigRight_f hr2 hn, bindS]
  simp only [Bool.not_true, cond_false]
  rw [if_neg (by simp), if_neg (by omega), right14_f hr2 hls2 (by omega) hn, bindS]
  simp only [Bool.not_true, cond_false]
  rw [e3, bindS]
  simp only
  rw [aigRight_f hr3 hn, bindS]
  simp only [Bool.not_true, cond_false]
  rw [if_neg (by simp), if_neg (by simp; omega), if_neg (by omega), right14_f hr3 hls3 (by omega) hn, bindS]
  simp only [Bool.not_true, cond_false]
  obtain ⟨inp, e5, hinp⟩ := bits13_f (n := big) (l := x6) r hn
  rw [e5, bindS]
  simp only
  obtain ⟨Y, e6, hY, hM⟩ := eval_f (n := big) hr3 hinp hn
  have hlen : ((false :: inp) ++ Y).length = inp.length + 1 + (g ++ t1 ++ t2 ++ t3).length := by rw [List.length_append, hY, List.length_cons]
  generalize (false :: inp) ++ Y = V at e6 hM hlen
  have hlit : ∀ {l : List Int}, Lits ins (g ++ t1 ++ t2 ++ t3) l → ∀ x ∈ l, 0 ≤ x ∧ x / 2 < (V.length : Int) ∧ x < 1000000 := fun h x hx => by
    obtain ⟨q1, q2⟩ := h x hx
    rw [hlen]
    exact ⟨q1, by omega, by omega⟩
  rw [e6, bindS]
  simp only
  rw [hlen, wrap_small (x := 1 + ins) (by omega) (by omega), wrap_small (by omega) (by omega), if_neg (by omega)]
  simp only [cond_true]
  rw [num_f (by omega) (hlit hls3) hn, bindS, num_f (by omega) (hlit iA.more.more.more) hn, bindS]
  simp only
  have q1 := hv1 V hM.pre.pre 1
  have q2 := hv2 V hM.pre 1
  have q3 := hv3 V hM 1
  have n1 := nbv_lt V l1
  have n2 := nbv_lt V l2
  have nA := nbv_lt V A
  rw [lA] at nA
  have p1 := pow16 (k := l1.length) (by omega)
  have p2 := pow16 (k := l2.length) (by omega)
  have hb : nb (bv V l1) * 2 ^ l2.length ≤ 65536 * 65536 := Nat.mul_le_mul (by omega) (by omega)
  have hm : ((nb (bv V l1) : Int) * ((2 ^ l2.length : Nat) : Int)) = ((nb (bv V l1) * 2 ^ l2.length : Nat) : Int) := by rw [Int.natCast_mul]
  rw [do_slice (by omega) (by omega) (by omega) (by omega) (by omega)] at q1 q2
  rw [do_cat (by omega) (by omega) (by omega) ⟨by omega, by rw [p2_nat]; omega⟩ (by rw [p2_nat, hm]; omega), p2_nat, hm] at q3
  have q1 := some_fst q1
  have q2 := some_fst q2
  have q3 := some_fst q3
  rw [show ((k - 1 : Nat) : Int) - (L : Int) + 1 = ((k - L : Nat) : Int) by omega, p2_nat, p2_nat, ← Int.natCast_ediv, ← Int.natCast_emod] at q1
  rw [show ((L - 1 : Nat) : Int) - ((0 : Nat) : Int) + 1 = (L : Int) by omega, p2_nat, p2_nat, ← Int.natCast_ediv, ← Int.natCast_emod] at q2
  have q1 : nb (bv V A) / 2 ^ L % 2 ^ (k - L) = nb (bv V l1) := by exact_mod_cast q1
  have q2 : nb (bv V A) / 2 ^ 0 % 2 ^ L = nb (bv V l2) := by exact_mod_cast q2
  have hd : nb (bv V A) / 2 ^ L < 2 ^ (k - L) := by
    rw [Nat.div_lt_iff_lt_mul (Nat.pow_pos (by omega)), ← Nat.pow_add, show k - L + L = k by omega]
    exact nA
  rw [Nat.mod_eq_of_lt hd] at q1
  rw [Nat.pow_zero, Nat.div_one] at q2
  have hl2' : l2.length = L := by omega
  have fin : nb (bv V l3) = nb (bv V A) := by
    have h := Nat.div_add_mod (nb (bv V A)) (2 ^ L)
    rw [q1, q2, Nat.mul_comm, ← hl2'] at h
    omega
  rw [fin]
  simp
end Go.Proofs.Ytdnfbihppellkaa.Am
namespace Go.Proofs.Ytdnfbihppellkaa.Pure
open Go.Proofs.Ytdnfbihppellkaa.Am
theorem BlastParts (d : law14_BlastParts_s.I) (h : BAs law14_BlastParts_s.ar d fun _ => True) : ∃ n, law14_BlastParts n d.1 d.2.1 d.2.2.1 d.2.2.2.1 d.2.2.2.2.1 d.2.2.2.2.2.1 = some (true, ()) := by
  obtain ⟨h1, h2, h3, h4, h5, -⟩ := h
  exact ⟨big, parts14 h1 (fun x hx => h2.2 x hx) (fun x hx => h3.2 x hx) h4 h5⟩
end Go.Proofs.Ytdnfbihppellkaa.Pure
