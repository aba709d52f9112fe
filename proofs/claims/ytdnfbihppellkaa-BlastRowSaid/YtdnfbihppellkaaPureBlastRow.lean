/- BlastRow, in plain Lean. -/
import Derived.Test.YtdnfbihppellkaaPlBl9
namespace Go.Proofs.Ytdnfbihppellkaa.Am
set_option linter.unusedVariables false
set_option linter.unusedSimpArgs false
theorem made4 {l : List Kcwww} (hl : l.length ≤ 120) (ho : OpsOk l) : ∃ ins g lits, law13_Made big 4 l = some (ins, g, lits, ()) ∧ RG ins g ∧ g.length ≤ 360 := made_f (n := big) (x1 := 4) (by decide) hl ho (by decide)
theorem row14 {x1 x2 : Int} {x3 : List Int} {x4 : List Kcwww} {x5 : List Bool} (h1 : (Lit.int .u8 x1).wf = true) (h2 : (Lit.int .u8 x2).wf = true) (h3 : ∀ x ∈ x3, (Lit.int .u16 x).wf = true) (ho : OpsOk x4) : law14_BlastRow big x1 x2 x3 x4 x5 = some (true, ()) := by
  have hn : 30000 < big := by decide
  have g1 := lit_u8 h1
  have g2 := lit_u8 h2
  unfold law14_BlastRow law13_Great
  rw [head14, bindS, bindS]
  by_cases hl : (120 : Int) < (x4.length : Int)
  · rw [decide_eq_true hl]; rfl
  rw [decide_eq_false hl]
  simp only [cond_false]
  obtain ⟨ins, g, lits, e, r, hg⟩ := made4 (l := x4) (by omega) ho
  obtain ⟨k, hk, k1, k2⟩ : ∃ k : Nat, IntKind.wrap .i64 (Int.tmod (IntKind.wrap .i64 x1) 16 + 1) = (k : Int) ∧ 1 ≤ k ∧ k ≤ 16 := by
    refine ⟨(x1 % 16 + 1).toNat, ?_, by omega, by omega⟩
    rw [w64 (n := x1) (by omega) (by omega), tmodn (by omega), w64 (by omega) (by omega)]
    omega
  have hop : Int.tmod (IntKind.wrap .i64 x2) 6 = x2 % 6 := by rw [w64 (by omega) (by omega), tmodn (by omega)]
  simp only [hk, hop]
  obtain ⟨A, eA, lA, iA⟩ := bits14_f (n := big) (w := k) r h3 (by omega) hn
  rw [ask_of (by omega), e, bindS]
  simp only
  rw [eA, bindS, ask_of (by omega), ask_of (by simp; omega)]
  simp only
  obtain ⟨op, hop2, K, hok⟩ : ∃ op, Ki_at [6, 7, 8, 9, 10, 11] (x2 % 6) = op ∧ ∃ K, NodeOK op (k : Int) 0 0 k k 0 k K ∧ K ≤ 6000 ∧ op ≠ 17 := by
    have cs : x2 % 6 = 0 ∨ x2 % 6 = 1 ∨ x2 % 6 = 2 ∨ x2 % 6 = 3 ∨ x2 % 6 = 4 ∨ x2 % 6 = 5 := by omega
    have hkk : 20 * k * k ≤ 5120 := Nat.mul_le_mul (show 20 * k ≤ 320 by omega) k2
    rcases cs with h | h | h | h | h | h <;> rw [h]
    · exact ⟨6, rfl, _, .two 6 k (by omega) k1 k2, by omega, by omega⟩
    · exact ⟨7, rfl, _, .two 7 k (by omega) k1 k2, by omega, by omega⟩
    · exact ⟨8, rfl, _, .two 8 k (by omega) k1 k2, by omega, by omega⟩
    · exact ⟨9, rfl, _, .two 9 k (by omega) k1 k2, by omega, by omega⟩
    · exact ⟨10, rfl, _, .two 10 k (by omega) k1 k2, by omega, by omega⟩
    · exact ⟨11, rfl, _, .mul k k1 k2, by omega, by omega⟩
  obtain ⟨hok, hK, h17⟩ := hok
  rw [hop2]
  have nil : Lits ins g [] := fun x hx => by simp at hx
  obtain ⟨t, l, e3, ht, hr, hl3, hls, hv⟩ := Do_all (n := big) (p := 0) (q := 0) (s := 0) r (by omega) hok iA iA nil lA lA rfl hn
  obtain ⟨t2, l2, e4, ht2, hr2, hl4, hls2, hv2⟩ := Do_all (n := big) (p := 0) (q := 0) (s := 0) (B := []) (C := []) hr (by simp; omega) (.inv k k1 k2) hls (fun x hx => by simp at hx) (fun x hx => by simp at hx) hl3 rfl rfl hn
  have i0 := hr.i0
  have i1 := hr.i1
  have hgt := hr2.len
  rw [e3, bindS]
  simp only
  rw [aigRight_f hr hn, bindS]
  simp only [Bool.not_true, cond_false, cond_dec]
  rw [if_neg (by simp), if_neg (by omega), right14_f hr hls (by omega) hn, bindS]
  simp only [Bool.not_true, cond_false]
  rw [e4, bindS]
  simp only
  rw [aigRight_f hr2 hn, bindS]
  simp only [Bool.not_true, cond_false]
  rw [if_neg (by simp), if_neg (by simp; omega), if_neg (by omega), right14_f hr2 hls2 (by omega) hn, bindS]
  simp only [Bool.not_true, cond_false]
  obtain ⟨inp, e5, hinp⟩ := bits13_f (n := big) (l := x5) r hn
  rw [e5, bindS]
  simp only
  obtain ⟨Y, e6, hY, hM⟩ := eval_f (n := big) hr2 hinp hn
  have hlen : ((false :: inp) ++ Y).length = inp.length + 1 + (g ++ t ++ t2).length := by rw [List.length_append, hY, List.length_cons]
  generalize (false :: inp) ++ Y = V at e6 hM hlen
  have hlit : ∀ {l : List Int}, Lits ins (g ++ t ++ t2) l → ∀ x ∈ l, 0 ≤ x ∧ x / 2 < (V.length : Int) ∧ x < 1000000 := fun h x hx => by
    obtain ⟨q1, q2⟩ := h x hx
    rw [hlen]
    exact ⟨q1, by omega, by omega⟩
  rw [e6, bindS]
  simp only
  rw [hlen, wrap_small (x := 1 + ins) (by omega) (by omega), wrap_small (by omega) (by omega), if_neg (by omega)]
  have hA : Num_ (k : Int) (nb (bv V A) : Int) := ⟨by omega, by have := nbv_lt V A; rw [lA] at this; rw [p2_nat]; omega⟩
  rw [num_f (by omega) (hlit iA.more.more) hn, bindS]
  simp only [cond_true]
  have h5 := nbv_lt V l
  rw [hl3] at h5
  have h16 := pow16 k2
  have hv1 := hv V hM.pre 1
  have hv3 := hv2 V hM 1
  rw [do_inv (by omega) (by omega) ⟨by omega, by rw [p2_nat]; omega⟩, p2_nat] at hv3
  have hv3 : ((2 ^ k : Nat) : Int) - 1 - (nb (bv V l) : Int) = (nb (bv V l2) : Int) := by
    have := Option.some.inj hv3
    exact congrArg Prod.fst this
  rw [num_f (by omega) (hlit hls.more) hn, bindS, rdo_f (m := 1) hok hA hA (num_zero _) (fun h => absurd h h17), show (nb (bv V ([] : List Int)) : Int) = 0 from rfl] at *
  rw [hv1, bindS]
  simp only [↓reduceIte]
  rw [num_f (by omega) (hlit hls2) hn, bindS, rmask_f (by omega) (by omega), bindS, bindS, p2_nat]
  simp only
  rw [w64 (by omega) (by omega), hv3]
  simp
end Go.Proofs.Ytdnfbihppellkaa.Am
namespace Go.Proofs.Ytdnfbihppellkaa.Pure
open Go.Proofs.Ytdnfbihppellkaa.Am
theorem BlastRow (d : law14_BlastRow_s.I) (h : BAs law14_BlastRow_s.ar d fun _ => True) : ∃ n, law14_BlastRow n d.1 d.2.1 d.2.2.1 d.2.2.2.1 d.2.2.2.2.1 = some (true, ()) := by
  obtain ⟨h1, h2, h3, h4, -⟩ := h
  exact ⟨big, row14 h1 h2 (fun x hx => h3.2 x hx) (fun x hx => h4.2 x hx)⟩
end Go.Proofs.Ytdnfbihppellkaa.Pure
