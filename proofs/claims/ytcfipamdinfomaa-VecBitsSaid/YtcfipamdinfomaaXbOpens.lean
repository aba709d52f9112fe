/- Printed by this session's program xprint.py (over the kit's print): the Go functions named below come to the Lean functions of the same names, whatever the world. -/
import Derived.Test.YtcfipamdinfomaaOpens
import Derived.Test.YtcfipamdinfomaaXb0
import Derived.KernelRfl
namespace Go.Proofs.Ytcfipamdinfomaa.Xb
open Go.RowKit Go.Proofs.YtcfipamdinfomaaW.PrintWords Go.Proofs.YtcfipamdinfomaaW.PrintLast Go.Proofs.YtcfipamdinfomaaW.PrintMore
attribute [local go_sem] max2_int min2_int max_two min_two max_three min_three max_four min_four   -- for this text's walks alone
set_option linter.unusedVariables false
set_option linter.unusedSimpArgs false

def B24 (x : S24) : Prop := ((Lit.int .u8 x.f0).wf = true) ∧ ((Lit.int .u8 x.f1).wf = true) ∧ ((Lit.int .u32 x.f2).wf = true) ∧ ((Lit.int .u32 x.f3).wf = true) ∧ ((Lit.int .u32 x.f4).wf = true) ∧ ((Lit.int .u8 x.f5).wf = true)
theorem opens_T24 : Opens.Opens Try.prog 24 k24 B24 := by
 intro H enc w base spare held fuel cs x h
 obtain ⟨xs, n, rfl, rfl, hl, hxl, hf⟩ := DataW.trod_struct Try.underlying24 h
 have hl' : cs.length = 6 := hl.trans (by kernel_rfl)
 obtain ⟨c0, c1, c2, c3, c4, c5, rfl⟩ : ∃ c0 c1 c2 c3 c4 c5, cs = [c0, c1, c2, c3, c4, c5] := by
  match cs, hl' with
  | [c0, c1, c2, c3, c4, c5], _ => exact ⟨c0, c1, c2, c3, c4, c5, rfl⟩
 obtain ⟨y0, hy0⟩ : ∃ y, xs[0]? = some y := ⟨_, List.getElem?_eq_getElem (by rw [hxl]; decide)⟩
 have e0 : Try.prog.cellsOf 5 = 1 := by kernel_rfl
 have h0 : DataW.trod enc Try.prog w base spare held n 5 ((([c0, c1, c2, c3, c4, c5] : List Value).drop 0).take (Try.prog.cellsOf 5)) = xs[0]? := hf 0 _ rfl
 rw [e0, hy0] at h0
 obtain ⟨a0, k_0, b0⟩ := (Opens.opens_int Try.underlying5) _ _ _ _ _ _ _ _ _ h0
 obtain ⟨y1, hy1⟩ : ∃ y, xs[1]? = some y := ⟨_, List.getElem?_eq_getElem (by rw [hxl]; decide)⟩
 have e1 : Try.prog.cellsOf 5 = 1 := by kernel_rfl
 have h1 : DataW.trod enc Try.prog w base spare held n 5 ((([c0, c1, c2, c3, c4, c5] : List Value).drop 1).take (Try.prog.cellsOf 5)) = xs[1]? := hf 1 _ rfl
 rw [e1, hy1] at h1
 obtain ⟨a1, k_1, b1⟩ := (Opens.opens_int Try.underlying5) _ _ _ _ _ _ _ _ _ h1
 obtain ⟨y2, hy2⟩ : ∃ y, xs[2]? = some y := ⟨_, List.getElem?_eq_getElem (by rw [hxl]; decide)⟩
 have e2 : Try.prog.cellsOf 22 = 1 := by kernel_rfl
 have h2 : DataW.trod enc Try.prog w base spare held n 22 ((([c0, c1, c2, c3, c4, c5] : List Value).drop 2).take (Try.prog.cellsOf 22)) = xs[2]? := hf 2 _ rfl
 rw [e2, hy2] at h2
 obtain ⟨a2, k_2, b2⟩ := (Opens.opens_int Try.underlying22) _ _ _ _ _ _ _ _ _ h2
 obtain ⟨y3, hy3⟩ : ∃ y, xs[3]? = some y := ⟨_, List.getElem?_eq_getElem (by rw [hxl]; decide)⟩
 have e3 : Try.prog.cellsOf 22 = 1 := by kernel_rfl
 have h3 : DataW.trod enc Try.prog w base spare held n 22 ((([c0, c1, c2, c3, c4, c5] : List Value).drop 3).take (Try.prog.cellsOf 22)) = xs[3]? := hf 3 _ rfl
 rw [e3, hy3] at h3
 obtain ⟨a3, k_3, b3⟩ := (Opens.opens_int Try.underlying22) _ _ _ _ _ _ _ _ _ h3
 obtain ⟨y4, hy4⟩ : ∃ y, xs[4]? = some y := ⟨_, List.getElem?_eq_getElem (by rw [hxl]; decide)⟩
 have e4 : Try.prog.cellsOf 22 = 1 := by kernel_rfl
 have h4 : DataW.trod enc Try.prog w base spare held n 22 ((([c0, c1, c2, c3, c4, c5] : List Value).drop 4).take (Try.prog.cellsOf 22)) = xs[4]? := hf 4 _ rfl
 rw [e4, hy4] at h4
 obtain ⟨a4, k_4, b4⟩ := (Opens.opens_int Try.underlying22) _ _ _ _ _ _ _ _ _ h4
 obtain ⟨y5, hy5⟩ : ∃ y, xs[5]? = some y := ⟨_, List.getElem?_eq_getElem (by rw [hxl]; decide)⟩
 have e5 : Try.prog.cellsOf 5 = 1 := by kernel_rfl
 have h5 : DataW.trod enc Try.prog w base spare held n 5 ((([c0, c1, c2, c3, c4, c5] : List Value).drop 5).take (Try.prog.cellsOf 5)) = xs[5]? := hf 5 _ rfl
 rw [e5, hy5] at h5
 obtain ⟨a5, k_5, b5⟩ := (Opens.opens_int Try.underlying5) _ _ _ _ _ _ _ _ _ h5
 have hK : k24.K w ⟨a0, a1, a2, a3, a4, a5⟩ [c0, c1, c2, c3, c4, c5] := ⟨[c0], [c1, c2, c3, c4, c5], rfl, k_0, ⟨[c1], [c2, c3, c4, c5], rfl, k_1, ⟨[c2], [c3, c4, c5], rfl, k_2, ⟨[c3], [c4, c5], rfl, k_3, ⟨[c4], [c5], rfl, k_4, k_5⟩⟩⟩⟩⟩
 exact ⟨_, hK, ⟨b0, b1, b2, b3, b4, b5⟩⟩
end Go.Proofs.Ytcfipamdinfomaa.Xb
