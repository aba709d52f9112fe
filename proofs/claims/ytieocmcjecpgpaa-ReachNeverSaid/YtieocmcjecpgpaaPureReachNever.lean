/- ReachNever, in plain Lean. -/
import Derived.Test.YtieocmcjecpgpaaPrT
import Derived.Test.YtieocmcjecpgpaaPrH
import Derived.Test.YtieocmcjecpgpaaAmY
namespace Go.Proofs.Ytieocmcjecpgpaa.Am
set_option linter.unusedVariables false
set_option linter.unusedSimpArgs false
theorem nevers {N I C P Q} {l : Tr} {a : Int} (hl : U16r l) (ha : (Lit.int .u8 a).wf = true) : law12_ReachNever big N I C P Q a l = some (true, ()) := by
  have hn : 20000 < big := by decide
  have hn2 : 1000 < big := by decide
  unfold law12_ReachNever
  rw [head12, bindS]
  obtain ⟨g, hg, hs⟩ := great12_f (n := big) (N := N) (I := I) (C := C) (P := P) (Q := Q) (by decide)
  rw [hg, bindS]
  cases g with
  | true => rfl
  | false =>
    obtain ⟨s, r, -⟩ := hs rfl
    simp only [cond_false, cond_dec]
    by_cases hP : (P.length : Int) = 0
    · rw [if_pos hP]
    rw [if_neg hP, ask_of hP]
    obtain ⟨q, hq, e⟩ := lit_mod8 (m := P.length) ha (by omega) (by have := r.p; omega)
    rw [e, tell_f s r hn, bindS]
    have ft := trace_fit (l := l) r hl
    have tl := trace_len (N := N) (I := I) (l := l)
    rw [trace_f s r hn2, bindS, simHit_f s r ft hn2 hq, bindS]
    unfold tellV
    cases hb : badP P (q : Int) with
    | true => rfl
    | false =>
      cases hsm : smB N with
      | false => rfl
      | true =>
        obtain ⟨-, hf⟩ := res_f (p := (q : Int)) r (sm_of r hsm)
        generalize resN N I C P (q : Int) = x at hf
        obtain ⟨x1, ls⟩ := x
        cases x1 with
        | none =>
          simp only [tellR]
          rw [no_hit ft hf]
          simp
        | some ik =>
          obtain ⟨i, k⟩ := ik
          have hf2 := hf
          obtain ⟨-, -, e, he, -⟩ := hf2
          simp only [tellR, he, Option.getD_some]
          by_cases c : e.2.length < 64
          · rw [if_pos c]
            rfl
          · rw [if_neg c, far_hit ft (by rw [tl]; omega) hf he (by omega)]
            rfl
end Go.Proofs.Ytieocmcjecpgpaa.Am
namespace Go.Proofs.Ytieocmcjecpgpaa.Pure
open Go.Proofs.Ytieocmcjecpgpaa.Am
theorem ReachNever (d : law12_ReachNever_s.I) (h : BAs law12_ReachNever_s.ar d fun _ => True) : ∃ n, law12_ReachNever n d.1 d.2.1 d.2.2.1 d.2.2.2.1 d.2.2.2.2.1 d.2.2.2.2.2.1 d.2.2.2.2.2.2.1 = some (true, ()) := by
  obtain ⟨-, -, -, -, -, h1, h2, -⟩ := h
  exact ⟨big, nevers (fun x hx => (h2.2 x hx).2) h1⟩
end Go.Proofs.Ytieocmcjecpgpaa.Pure
