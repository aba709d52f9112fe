/- BlastStays, in plain Lean. -/
import Derived.Test.YtdnfbihppellkaaPlBl8
namespace Go.Proofs.Ytdnfbihppellkaa.Am
set_option linter.unusedVariables false
set_option linter.unusedSimpArgs false
theorem stays14 {x1 x3 x4 x5 x6 x7 x8 : Int} {x2 : List Kcwww} {x9 x10 x11 : List Int} (h1 : (Lit.int .u8 x1).wf = true) (ho : OpsOk x2) (h3 : (Lit.int .u8 x3).wf = true) (h4 : (Lit.int .u8 x4).wf = true) (h5 : (Lit.int .u32 x5).wf = true) (h6 : (Lit.int .u32 x6).wf = true) (h7 : (Lit.int .u32 x7).wf = true) (h8 : (Lit.int .u8 x8).wf = true)
    (h9 : ∀ x ∈ x9, (Lit.int .u16 x).wf = true) (h10 : ∀ x ∈ x10, (Lit.int .u16 x).wf = true) (h11 : ∀ x ∈ x11, (Lit.int .u16 x).wf = true) : law14_BlastStays big x1 x2 x3 x4 x5 x6 x7 x8 x9 x10 x11 = some (true, ()) := by
  have hn : 30000 < big := by decide
  unfold law14_BlastStays law13_Great
  rw [head14, bindS, bindS]
  by_cases hl : (120 : Int) < (x2.length : Int)
  · rw [decide_eq_true hl]; rfl
  rw [decide_eq_false hl]
  simp only [cond_false]
  obtain ⟨ins, g, lits, e, r, hg⟩ := made_f (n := big) h1 (by omega) ho hn
  obtain ⟨op, w, u, lo, a, b, c, wbit, wa, wb, wc, W, K, -, e2, ok⟩ := case_f (m := big) h3 h4 h5 h6 h7 h8
  rw [e, bindS, e2, bindS]
  simp only
  have hws : wa ≤ 16 ∧ wb ≤ 16 ∧ wc ≤ 16 ∧ W ≤ 16 := by cases ok.n <;> omega
  have hK : K ≤ 6000 := by
    cases ok.n with
    | mul k h1 h2 =>
      have : 20 * wa * wa ≤ 5120 := Nat.mul_le_mul (show 20 * wa ≤ 320 by omega) h2
      omega
    | _ => omega
  obtain ⟨hwa, hwb, hwc, hW⟩ := hws
  obtain ⟨A, eA, lA, iA⟩ := bits14_f (n := big) (w := wa) r h9 (by omega) hn
  obtain ⟨B, eB, lB, iB⟩ := bits14_f (n := big) (w := wb) r h10 (by omega) hn
  obtain ⟨C, eC, lC, iC⟩ := bits14_f (n := big) (w := wc) r h11 (by omega) hn
  rw [eA, bindS, eB, bindS, eC, bindS]
  simp only
  obtain ⟨t, l, e3, ht, hr, hl3, hls, hv⟩ := Do_all (n := big) (p := 0) (q := 0) (s := 0) r (by omega) ok.n iA iB iC lA lB lC hn
  have i0 := hr.i0
  have i1 := hr.i1
  have hgt := hr.len
  rw [e3, bindS]
  simp only
  rw [aigRight_f hr hn, bindS]
  simp only [Bool.not_true, cond_false, cond_dec]
  rw [if_neg (by simp), if_neg (by simp; omega), weight_f ok.n, bindS]
  simp only
  rw [wrap_small (by omega) (by omega), if_neg (by simp; omega), right14_f hr hls (by omega) hn, bindS]
  simp only [Bool.not_true, cond_false, cond_true]
  rw [ask_of (by simp; omega), Int.toNat_natCast, List.take_left, same13_f (by omega) hn, bindS]
end Go.Proofs.Ytdnfbihppellkaa.Am
namespace Go.Proofs.Ytdnfbihppellkaa.Pure
open Go.Proofs.Ytdnfbihppellkaa.Am
theorem BlastStays (d : law14_BlastStays_s.I) (h : BAs law14_BlastStays_s.ar d fun _ => True) : ∃ n, law14_BlastStays n d.1 d.2.1 d.2.2.1 d.2.2.2.1 d.2.2.2.2.1 d.2.2.2.2.2.1 d.2.2.2.2.2.2.1 d.2.2.2.2.2.2.2.1 d.2.2.2.2.2.2.2.2.1 d.2.2.2.2.2.2.2.2.2.1 d.2.2.2.2.2.2.2.2.2.2.1 = some (true, ()) := by
  obtain ⟨h1, h2, h3, h4, h5, h6, h7, h8, h9, h10, h11, -⟩ := h
  exact ⟨big, stays14 h1 (fun x hx => h2.2 x hx) h3 h4 h5 h6 h7 h8 (fun x hx => h9.2 x hx) (fun x hx => h10.2 x hx) (fun x hx => h11.2 x hx)⟩
end Go.Proofs.Ytdnfbihppellkaa.Pure
