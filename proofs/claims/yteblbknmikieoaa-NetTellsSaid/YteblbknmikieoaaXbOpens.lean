/- Slimmed by this session: what nothing names is struck out. -/
import Derived.Test.YteblbknmikieoaaOpens
import Derived.Test.YteblbknmikieoaaXb0
import Derived.KernelRfl
namespace Go.Proofs.Yteblbknmikieoaa.Xb
open Go.RowKit Go.Proofs.YteblbknmikieoaaW.PrintWords Go.Proofs.YteblbknmikieoaaW.PrintLast Go.Proofs.YteblbknmikieoaaW.PrintMore
set_option linter.unusedVariables false
set_option linter.unusedSimpArgs false
def B41 (x : S41) : Prop := ((Lit.int .i64 x.f0).wf = true) ∧ ((Lit.int .i64 x.f1).wf = true) ∧ ((Lit.int .i64 x.f2).wf = true) ∧ ((Lit.int .i64 x.f3).wf = true) ∧ ((Lit.int .i64 x.f4).wf = true) ∧ ((Lit.int .i64 x.f5).wf = true) ∧ ((Lit.int .i64 x.f6).wf = true)
theorem opens_T41 : Opens.Opens Try.prog 41 k41 B41 := by
 intro H enc w base spare held fuel cs x h
 obtain ⟨xs, n, rfl, rfl, hl, hxl, hf⟩ := DataW.trod_struct Try.underlying41 h
 have hl' : cs.length = 7 := hl.trans (by kernel_rfl)
 obtain ⟨c0, c1, c2, c3, c4, c5, c6, rfl⟩ : ∃ c0 c1 c2 c3 c4 c5 c6, cs = [c0, c1, c2, c3, c4, c5, c6] := by
  match cs, hl' with
  | [c0, c1, c2, c3, c4, c5, c6], _ => exact ⟨c0, c1, c2, c3, c4, c5, c6, rfl⟩
 obtain ⟨y0, hy0⟩ : ∃ y, xs[0]? = some y := ⟨_, List.getElem?_eq_getElem (by rw [hxl]; decide)⟩
 have e0 : Try.prog.cellsOf 3 = 1 := by kernel_rfl
 have h0 : DataW.trod enc Try.prog w base spare held n 3 ((([c0, c1, c2, c3, c4, c5, c6] : List Value).drop 0).take (Try.prog.cellsOf 3)) = xs[0]? := hf 0 _ rfl
 rw [e0, hy0] at h0
 obtain ⟨a0, k_0, b0⟩ := (Opens.opens_int Try.underlying3) _ _ _ _ _ _ _ _ _ h0
 obtain ⟨y1, hy1⟩ : ∃ y, xs[1]? = some y := ⟨_, List.getElem?_eq_getElem (by rw [hxl]; decide)⟩
 have e1 : Try.prog.cellsOf 3 = 1 := by kernel_rfl
 have h1 : DataW.trod enc Try.prog w base spare held n 3 ((([c0, c1, c2, c3, c4, c5, c6] : List Value).drop 1).take (Try.prog.cellsOf 3)) = xs[1]? := hf 1 _ rfl
 rw [e1, hy1] at h1
 obtain ⟨a1, k_1, b1⟩ := (Opens.opens_int Try.underlying3) _ _ _ _ _ _ _ _ _ h1
 obtain ⟨y2, hy2⟩ : ∃ y, xs[2]? = some y := ⟨_, List.getElem?_eq_getElem (by rw [hxl]; decide)⟩
 have e2 : Try.prog.cellsOf 3 = 1 := by kernel_rfl
 have h2 : DataW.trod enc Try.prog w base spare held n 3 ((([c0, c1, c2, c3, c4, c5, c6] : List Value).drop 2).take (Try.prog.cellsOf 3)) = xs[2]? := hf 2 _ rfl
 rw [e2, hy2] at h2
 obtain ⟨a2, k_2, b2⟩ := (Opens.opens_int Try.underlying3) _ _ _ _ _ _ _ _ _ h2
 obtain ⟨y3, hy3⟩ : ∃ y, xs[3]? = some y := ⟨_, List.getElem?_eq_getElem (by rw [hxl]; decide)⟩
 have e3 : Try.prog.cellsOf 3 = 1 := by kernel_rfl
 have h3 : DataW.trod enc Try.prog w base spare held n 3 ((([c0, c1, c2, c3, c4, c5, c6] : List Value).drop 3).take (Try.prog.cellsOf 3)) = xs[3]? := hf 3 _ rfl
 rw [e3, hy3] at h3
 obtain ⟨a3, k_3, b3⟩ := (Opens.opens_int Try.underlying3) _ _ _ _ _ _ _ _ _ h3
 obtain ⟨y4, hy4⟩ : ∃ y, xs[4]? = some y := ⟨_, List.getElem?_eq_getElem (by rw [hxl]; decide)⟩
 have e4 : Try.prog.cellsOf 3 = 1 := by kernel_rfl
 have h4 : DataW.trod enc Try.prog w base spare held n 3 ((([c0, c1, c2, c3, c4, c5, c6] : List Value).drop 4).take (Try.prog.cellsOf 3)) = xs[4]? := hf 4 _ rfl
 rw [e4, hy4] at h4
 obtain ⟨a4, k_4, b4⟩ := (Opens.opens_int Try.underlying3) _ _ _ _ _ _ _ _ _ h4
 obtain ⟨y5, hy5⟩ : ∃ y, xs[5]? = some y := ⟨_, List.getElem?_eq_getElem (by rw [hxl]; decide)⟩
 have e5 : Try.prog.cellsOf 3 = 1 := by kernel_rfl
 have h5 : DataW.trod enc Try.prog w base spare held n 3 ((([c0, c1, c2, c3, c4, c5, c6] : List Value).drop 5).take (Try.prog.cellsOf 3)) = xs[5]? := hf 5 _ rfl
 rw [e5, hy5] at h5
 obtain ⟨a5, k_5, b5⟩ := (Opens.opens_int Try.underlying3) _ _ _ _ _ _ _ _ _ h5
 obtain ⟨y6, hy6⟩ : ∃ y, xs[6]? = some y := ⟨_, List.getElem?_eq_getElem (by rw [hxl]; decide)⟩
 have e6 : Try.prog.cellsOf 3 = 1 := by kernel_rfl
 have h6 : DataW.trod enc Try.prog w base spare held n 3 ((([c0, c1, c2, c3, c4, c5, c6] : List Value).drop 6).take (Try.prog.cellsOf 3)) = xs[6]? := hf 6 _ rfl
 rw [e6, hy6] at h6
 obtain ⟨a6, k_6, b6⟩ := (Opens.opens_int Try.underlying3) _ _ _ _ _ _ _ _ _ h6
 have hK : k41.K w ⟨a0, a1, a2, a3, a4, a5, a6⟩ [c0, c1, c2, c3, c4, c5, c6] := ⟨[c0], [c1, c2, c3, c4, c5, c6], rfl, k_0, ⟨[c1], [c2, c3, c4, c5, c6], rfl, k_1, ⟨[c2], [c3, c4, c5, c6], rfl, k_2, ⟨[c3], [c4, c5, c6], rfl, k_3, ⟨[c4], [c5, c6], rfl, k_4, ⟨[c5], [c6], rfl, k_5, k_6⟩⟩⟩⟩⟩⟩
 exact ⟨_, hK, ⟨b0, b1, b2, b3, b4, b5, b6⟩⟩
def B47 (x : S47) : Prop := (x.f0.size ≤ maxLen) ∧ ((Lit.int .i64 x.f1).wf = true)
theorem opens_T47 : Opens.Opens Try.prog 47 k47 B47 := by
 intro H enc w base spare held fuel cs x h
 obtain ⟨xs, n, rfl, rfl, hl, hxl, hf⟩ := DataW.trod_struct Try.underlying47 h
 have hl' : cs.length = 2 := hl.trans (by kernel_rfl)
 obtain ⟨c0, c1, rfl⟩ : ∃ c0 c1, cs = [c0, c1] := by
  match cs, hl' with
  | [c0, c1], _ => exact ⟨c0, c1, rfl⟩
 obtain ⟨y0, hy0⟩ : ∃ y, xs[0]? = some y := ⟨_, List.getElem?_eq_getElem (by rw [hxl]; decide)⟩
 have e0 : Try.prog.cellsOf 9 = 1 := by kernel_rfl
 have h0 : DataW.trod enc Try.prog w base spare held n 9 ((([c0, c1] : List Value).drop 0).take (Try.prog.cellsOf 9)) = xs[0]? := hf 0 _ rfl
 rw [e0, hy0] at h0
 obtain ⟨a0, k_0, b0⟩ := (Opens.opens_string Try.underlying9) _ _ _ _ _ _ _ _ _ h0
 obtain ⟨y1, hy1⟩ : ∃ y, xs[1]? = some y := ⟨_, List.getElem?_eq_getElem (by rw [hxl]; decide)⟩
 have e1 : Try.prog.cellsOf 3 = 1 := by kernel_rfl
 have h1 : DataW.trod enc Try.prog w base spare held n 3 ((([c0, c1] : List Value).drop 1).take (Try.prog.cellsOf 3)) = xs[1]? := hf 1 _ rfl
 rw [e1, hy1] at h1
 obtain ⟨a1, k_1, b1⟩ := (Opens.opens_int Try.underlying3) _ _ _ _ _ _ _ _ _ h1
 have hK : k47.K w ⟨a0, a1⟩ [c0, c1] := ⟨[c0], [c1], rfl, k_0, k_1⟩
 exact ⟨_, hK, ⟨b0, b1⟩⟩
def B43 (x : S43) : Prop := (x.f0.size ≤ maxLen) ∧ ((Lit.int .i64 x.f1).wf = true) ∧ ((Lit.int .i64 x.f2).wf = true) ∧ ((Lit.int .i64 x.f3).wf = true)
theorem opens_T43 : Opens.Opens Try.prog 43 k43 B43 := by
 intro H enc w base spare held fuel cs x h
 obtain ⟨xs, n, rfl, rfl, hl, hxl, hf⟩ := DataW.trod_struct Try.underlying43 h
 have hl' : cs.length = 4 := hl.trans (by kernel_rfl)
 obtain ⟨c0, c1, c2, c3, rfl⟩ : ∃ c0 c1 c2 c3, cs = [c0, c1, c2, c3] := by
  match cs, hl' with
  | [c0, c1, c2, c3], _ => exact ⟨c0, c1, c2, c3, rfl⟩
 obtain ⟨y0, hy0⟩ : ∃ y, xs[0]? = some y := ⟨_, List.getElem?_eq_getElem (by rw [hxl]; decide)⟩
 have e0 : Try.prog.cellsOf 9 = 1 := by kernel_rfl
 have h0 : DataW.trod enc Try.prog w base spare held n 9 ((([c0, c1, c2, c3] : List Value).drop 0).take (Try.prog.cellsOf 9)) = xs[0]? := hf 0 _ rfl
 rw [e0, hy0] at h0
 obtain ⟨a0, k_0, b0⟩ := (Opens.opens_string Try.underlying9) _ _ _ _ _ _ _ _ _ h0
 obtain ⟨y1, hy1⟩ : ∃ y, xs[1]? = some y := ⟨_, List.getElem?_eq_getElem (by rw [hxl]; decide)⟩
 have e1 : Try.prog.cellsOf 3 = 1 := by kernel_rfl
 have h1 : DataW.trod enc Try.prog w base spare held n 3 ((([c0, c1, c2, c3] : List Value).drop 1).take (Try.prog.cellsOf 3)) = xs[1]? := hf 1 _ rfl
 rw [e1, hy1] at h1
 obtain ⟨a1, k_1, b1⟩ := (Opens.opens_int Try.underlying3) _ _ _ _ _ _ _ _ _ h1
 obtain ⟨y2, hy2⟩ : ∃ y, xs[2]? = some y := ⟨_, List.getElem?_eq_getElem (by rw [hxl]; decide)⟩
 have e2 : Try.prog.cellsOf 3 = 1 := by kernel_rfl
 have h2 : DataW.trod enc Try.prog w base spare held n 3 ((([c0, c1, c2, c3] : List Value).drop 2).take (Try.prog.cellsOf 3)) = xs[2]? := hf 2 _ rfl
 rw [e2, hy2] at h2
 obtain ⟨a2, k_2, b2⟩ := (Opens.opens_int Try.underlying3) _ _ _ _ _ _ _ _ _ h2
 obtain ⟨y3, hy3⟩ : ∃ y, xs[3]? = some y := ⟨_, List.getElem?_eq_getElem (by rw [hxl]; decide)⟩
 have e3 : Try.prog.cellsOf 3 = 1 := by kernel_rfl
 have h3 : DataW.trod enc Try.prog w base spare held n 3 ((([c0, c1, c2, c3] : List Value).drop 3).take (Try.prog.cellsOf 3)) = xs[3]? := hf 3 _ rfl
 rw [e3, hy3] at h3
 obtain ⟨a3, k_3, b3⟩ := (Opens.opens_int Try.underlying3) _ _ _ _ _ _ _ _ _ h3
 have hK : k43.K w ⟨a0, a1, a2, a3⟩ [c0, c1, c2, c3] := ⟨[c0], [c1, c2, c3], rfl, k_0, ⟨[c1], [c2, c3], rfl, k_1, ⟨[c2], [c3], rfl, k_2, k_3⟩⟩⟩
 exact ⟨_, hK, ⟨b0, b1, b2, b3⟩⟩
def B61 (x : S61) : Prop := ((Lit.int .i64 x.f0).wf = true) ∧ (x.f1.size ≤ maxLen) ∧ ((Lit.int .i64 x.f2).wf = true)
theorem opens_T61 : Opens.Opens Try.prog 61 k61 B61 := by
 intro H enc w base spare held fuel cs x h
 obtain ⟨xs, n, rfl, rfl, hl, hxl, hf⟩ := DataW.trod_struct Try.underlying61 h
 have hl' : cs.length = 3 := hl.trans (by kernel_rfl)
 obtain ⟨c0, c1, c2, rfl⟩ : ∃ c0 c1 c2, cs = [c0, c1, c2] := by
  match cs, hl' with
  | [c0, c1, c2], _ => exact ⟨c0, c1, c2, rfl⟩
 obtain ⟨y0, hy0⟩ : ∃ y, xs[0]? = some y := ⟨_, List.getElem?_eq_getElem (by rw [hxl]; decide)⟩
 have e0 : Try.prog.cellsOf 3 = 1 := by kernel_rfl
 have h0 : DataW.trod enc Try.prog w base spare held n 3 ((([c0, c1, c2] : List Value).drop 0).take (Try.prog.cellsOf 3)) = xs[0]? := hf 0 _ rfl
 rw [e0, hy0] at h0
 obtain ⟨a0, k_0, b0⟩ := (Opens.opens_int Try.underlying3) _ _ _ _ _ _ _ _ _ h0
 obtain ⟨y1, hy1⟩ : ∃ y, xs[1]? = some y := ⟨_, List.getElem?_eq_getElem (by rw [hxl]; decide)⟩
 have e1 : Try.prog.cellsOf 9 = 1 := by kernel_rfl
 have h1 : DataW.trod enc Try.prog w base spare held n 9 ((([c0, c1, c2] : List Value).drop 1).take (Try.prog.cellsOf 9)) = xs[1]? := hf 1 _ rfl
 rw [e1, hy1] at h1
 obtain ⟨a1, k_1, b1⟩ := (Opens.opens_string Try.underlying9) _ _ _ _ _ _ _ _ _ h1
 obtain ⟨y2, hy2⟩ : ∃ y, xs[2]? = some y := ⟨_, List.getElem?_eq_getElem (by rw [hxl]; decide)⟩
 have e2 : Try.prog.cellsOf 3 = 1 := by kernel_rfl
 have h2 : DataW.trod enc Try.prog w base spare held n 3 ((([c0, c1, c2] : List Value).drop 2).take (Try.prog.cellsOf 3)) = xs[2]? := hf 2 _ rfl
 rw [e2, hy2] at h2
 obtain ⟨a2, k_2, b2⟩ := (Opens.opens_int Try.underlying3) _ _ _ _ _ _ _ _ _ h2
 have hK : k61.K w ⟨a0, a1, a2⟩ [c0, c1, c2] := ⟨[c0], [c1, c2], rfl, k_0, ⟨[c1], [c2], rfl, k_1, k_2⟩⟩
 exact ⟨_, hK, ⟨b0, b1, b2⟩⟩
def B27 (x : S27) : Prop := ((x.f0.length ≤ maxLen ∧ ∀ z ∈ x.f0, B41 z)) ∧ ((x.f1.length ≤ maxLen ∧ ∀ z ∈ x.f1, B47 z)) ∧ ((x.f2.length ≤ maxLen ∧ ∀ z ∈ x.f2, B43 z)) ∧ ((x.f3.length ≤ maxLen ∧ ∀ z ∈ x.f3, B61 z)) ∧ ((x.f4.length ≤ maxLen ∧ ∀ z ∈ x.f4, B47 z))
theorem opens_T27 : Opens.Opens Try.prog 27 k27 B27 := by
 intro H enc w base spare held fuel cs x h
 obtain ⟨xs, n, rfl, rfl, hl, hxl, hf⟩ := DataW.trod_struct Try.underlying27 h
 have hl' : cs.length = 5 := hl.trans (by kernel_rfl)
 obtain ⟨c0, c1, c2, c3, c4, rfl⟩ : ∃ c0 c1 c2 c3 c4, cs = [c0, c1, c2, c3, c4] := by
  match cs, hl' with
  | [c0, c1, c2, c3, c4], _ => exact ⟨c0, c1, c2, c3, c4, rfl⟩
 obtain ⟨y0, hy0⟩ : ∃ y, xs[0]? = some y := ⟨_, List.getElem?_eq_getElem (by rw [hxl]; decide)⟩
 have e0 : Try.prog.cellsOf 22 = 1 := by kernel_rfl
 have h0 : DataW.trod enc Try.prog w base spare held n 22 ((([c0, c1, c2, c3, c4] : List Value).drop 0).take (Try.prog.cellsOf 22)) = xs[0]? := hf 0 _ rfl
 rw [e0, hy0] at h0
 obtain ⟨a0, k_0, b0⟩ := (Opens.opens_slice Try.underlying22 (by kernel_rfl) opens_T41) _ _ _ _ _ _ _ _ _ h0
 obtain ⟨y1, hy1⟩ : ∃ y, xs[1]? = some y := ⟨_, List.getElem?_eq_getElem (by rw [hxl]; decide)⟩
 have e1 : Try.prog.cellsOf 23 = 1 := by kernel_rfl
 have h1 : DataW.trod enc Try.prog w base spare held n 23 ((([c0, c1, c2, c3, c4] : List Value).drop 1).take (Try.prog.cellsOf 23)) = xs[1]? := hf 1 _ rfl
 rw [e1, hy1] at h1
 obtain ⟨a1, k_1, b1⟩ := (Opens.opens_slice Try.underlying23 (by kernel_rfl) opens_T47) _ _ _ _ _ _ _ _ _ h1
 obtain ⟨y2, hy2⟩ : ∃ y, xs[2]? = some y := ⟨_, List.getElem?_eq_getElem (by rw [hxl]; decide)⟩
 have e2 : Try.prog.cellsOf 24 = 1 := by kernel_rfl
 have h2 : DataW.trod enc Try.prog w base spare held n 24 ((([c0, c1, c2, c3, c4] : List Value).drop 2).take (Try.prog.cellsOf 24)) = xs[2]? := hf 2 _ rfl
 rw [e2, hy2] at h2
 obtain ⟨a2, k_2, b2⟩ := (Opens.opens_slice Try.underlying24 (by kernel_rfl) opens_T43) _ _ _ _ _ _ _ _ _ h2
 obtain ⟨y3, hy3⟩ : ∃ y, xs[3]? = some y := ⟨_, List.getElem?_eq_getElem (by rw [hxl]; decide)⟩
 have e3 : Try.prog.cellsOf 25 = 1 := by kernel_rfl
 have h3 : DataW.trod enc Try.prog w base spare held n 25 ((([c0, c1, c2, c3, c4] : List Value).drop 3).take (Try.prog.cellsOf 25)) = xs[3]? := hf 3 _ rfl
 rw [e3, hy3] at h3
 obtain ⟨a3, k_3, b3⟩ := (Opens.opens_slice Try.underlying25 (by kernel_rfl) opens_T61) _ _ _ _ _ _ _ _ _ h3
 obtain ⟨y4, hy4⟩ : ∃ y, xs[4]? = some y := ⟨_, List.getElem?_eq_getElem (by rw [hxl]; decide)⟩
 have e4 : Try.prog.cellsOf 23 = 1 := by kernel_rfl
 have h4 : DataW.trod enc Try.prog w base spare held n 23 ((([c0, c1, c2, c3, c4] : List Value).drop 4).take (Try.prog.cellsOf 23)) = xs[4]? := hf 4 _ rfl
 rw [e4, hy4] at h4
 obtain ⟨a4, k_4, b4⟩ := (Opens.opens_slice Try.underlying23 (by kernel_rfl) opens_T47) _ _ _ _ _ _ _ _ _ h4
 have hK : k27.K w ⟨a0, a1, a2, a3, a4⟩ [c0, c1, c2, c3, c4] := ⟨[c0], [c1, c2, c3, c4], rfl, k_0, ⟨[c1], [c2, c3, c4], rfl, k_1, ⟨[c2], [c3, c4], rfl, k_2, ⟨[c3], [c4], rfl, k_3, k_4⟩⟩⟩⟩
 exact ⟨_, hK, ⟨b0, b1, b2, b3, b4⟩⟩
end Go.Proofs.Yteblbknmikieoaa.Xb
