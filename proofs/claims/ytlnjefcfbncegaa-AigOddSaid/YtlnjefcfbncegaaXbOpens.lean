/- Slimmed by this session: what nothing names is struck out. -/
import Derived.Test.YtlnjefcfbncegaaOpens
import Derived.Test.YtlnjefcfbncegaaXb0
import Derived.KernelRfl
namespace Go.Proofs.Ytlnjefcfbncegaa.Xb
open Go.RowKit Go.Proofs.YtlnjefcfbncegaaW.PrintWords Go.Proofs.YtlnjefcfbncegaaW.PrintLast Go.Proofs.YtlnjefcfbncegaaW.PrintMore
attribute [local go_sem] max2_int min2_int max_two min_two max_three min_three max_four min_four
set_option linter.unusedVariables false
set_option linter.unusedSimpArgs false
def B28 (x : S28) : Prop := ((Lit.int .u8 x.f0).wf = true) ∧ ((Lit.int .u16 x.f1).wf = true) ∧ ((Lit.int .u16 x.f2).wf = true) ∧ ((Lit.int .u16 x.f3).wf = true)
theorem opens_T28 : Opens.Opens Try.prog 28 k28 B28 := by
 intro H enc w base spare held fuel cs x h
 obtain ⟨xs, n, rfl, rfl, hl, hxl, hf⟩ := DataW.trod_struct Try.underlying28 h
 have hl' : cs.length = 4 := hl.trans (by kernel_rfl)
 obtain ⟨c0, c1, c2, c3, rfl⟩ : ∃ c0 c1 c2 c3, cs = [c0, c1, c2, c3] := by
  match cs, hl' with
  | [c0, c1, c2, c3], _ => exact ⟨c0, c1, c2, c3, rfl⟩
 obtain ⟨y0, hy0⟩ : ∃ y, xs[0]? = some y := ⟨_, List.getElem?_eq_getElem (by rw [hxl]; decide)⟩
 have e0 : Try.prog.cellsOf 5 = 1 := by kernel_rfl
 have h0 : DataW.trod enc Try.prog w base spare held n 5 ((([c0, c1, c2, c3] : List Value).drop 0).take (Try.prog.cellsOf 5)) = xs[0]? := hf 0 _ rfl
 rw [e0, hy0] at h0
 obtain ⟨a0, k_0, b0⟩ := (Opens.opens_int Try.underlying5) _ _ _ _ _ _ _ _ _ h0
 obtain ⟨y1, hy1⟩ : ∃ y, xs[1]? = some y := ⟨_, List.getElem?_eq_getElem (by rw [hxl]; decide)⟩
 have e1 : Try.prog.cellsOf 26 = 1 := by kernel_rfl
 have h1 : DataW.trod enc Try.prog w base spare held n 26 ((([c0, c1, c2, c3] : List Value).drop 1).take (Try.prog.cellsOf 26)) = xs[1]? := hf 1 _ rfl
 rw [e1, hy1] at h1
 obtain ⟨a1, k_1, b1⟩ := (Opens.opens_int Try.underlying26) _ _ _ _ _ _ _ _ _ h1
 obtain ⟨y2, hy2⟩ : ∃ y, xs[2]? = some y := ⟨_, List.getElem?_eq_getElem (by rw [hxl]; decide)⟩
 have e2 : Try.prog.cellsOf 26 = 1 := by kernel_rfl
 have h2 : DataW.trod enc Try.prog w base spare held n 26 ((([c0, c1, c2, c3] : List Value).drop 2).take (Try.prog.cellsOf 26)) = xs[2]? := hf 2 _ rfl
 rw [e2, hy2] at h2
 obtain ⟨a2, k_2, b2⟩ := (Opens.opens_int Try.underlying26) _ _ _ _ _ _ _ _ _ h2
 obtain ⟨y3, hy3⟩ : ∃ y, xs[3]? = some y := ⟨_, List.getElem?_eq_getElem (by rw [hxl]; decide)⟩
 have e3 : Try.prog.cellsOf 26 = 1 := by kernel_rfl
 have h3 : DataW.trod enc Try.prog w base spare held n 26 ((([c0, c1, c2, c3] : List Value).drop 3).take (Try.prog.cellsOf 26)) = xs[3]? := hf 3 _ rfl
 rw [e3, hy3] at h3
 obtain ⟨a3, k_3, b3⟩ := (Opens.opens_int Try.underlying26) _ _ _ _ _ _ _ _ _ h3
 have hK : k28.K w ⟨a0, a1, a2, a3⟩ [c0, c1, c2, c3] := ⟨[c0], [c1, c2, c3], rfl, k_0, ⟨[c1], [c2, c3], rfl, k_1, ⟨[c2], [c3], rfl, k_2, k_3⟩⟩⟩
 exact ⟨_, hK, ⟨b0, b1, b2, b3⟩⟩
end Go.Proofs.Ytlnjefcfbncegaa.Xb
