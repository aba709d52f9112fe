/- Slimmed by this session: what nothing names is struck out. -/
import Derived.Test.YteblbknmikieoaaRows
import Derived.Test.YteblbknmikieoaaXbK6
import Derived.Test.YteblbknmikieoaaXbOpens
import Derived.Test.YteblbknmikieoaaPureNetTells
import Derived.WalkKit
import Derived.ProofKit
import Derived.OpenShut
import Derived.ShutString
import Derived.ChangeOld
import Derived.Below
import Derived.SizedLaws
namespace Go.Proofs.Yteblbknmikieoaa.netTells
open Go.ChangeShapes Go.WideShapes Go.ChangeAt Go.RowKit Go.Proofs.YteblbknmikieoaaW.PrintWords Go.Proofs.Yteblbknmikieoaa.Xb
open Go.ChangeMaps (open_string shut_string)
set_option linter.unusedVariables false
theorem own : ownKnob Try.prog.godebug = none := by kernel_rfl
theorem laidOut : laidOutB Try.prog = true := by kernel_rfl
set_option maxRecDepth 100000 in
theorem lifted (os : Os) (started : os.Started) (H : Type) (enc : TypeId × Value → H) :
    ReturnsInHanded {} Try.checked os 3 .any (Rows.netTellsSpec.pre6 enc Try.prog Try.f3 Rows.netTellsRow.domain false) (Rows.netTellsSpec.post enc Try.prog Try.f3 false true false false) := by
  refine returnsInHanded_of_change_sized (C := Try.checked) own started (by kernel_rfl) Try.func3
    (ChangeSpec.witness6 (enc := enc) (C := Try.checked) false ⟨#[], #[(.agg #[(.slice none 0 0), (.slice none 0 0), (.slice none 0 0), (.slice none 0 0), (.slice none 0 0)]), (.agg #[(.slice none 0 0), (.slice none 0 0), (.slice none 0 0), (.slice none 0 0), (.slice none 0 0)]), (.slice none 0 0), (.slice none 0 0)], []⟩ 8 (by kernel_rfl) (by kernel_rfl) (by kernel_rfl) (by kernel_rfl)) ?_
  intro W base args ds gs before hval0 hW hcnd hsz0 _
  have hval : ∀ (j : Nat) t v, Try.f3.params[j]? = some t → args[j]? = some v → Value.okWide Try.prog W .any base t v := hval0
  have hW' := hW
  obtain ⟨p, q, hA0, hV, rfl, hfz, hnd⟩ := hW
  have hA : DataW.TrodAll enc Try.prog W 0 (fun _ => true) true Try.f3.params.toList args.toList ds p := hA0
  rw [Try.params3] at hA hval
  obtain ⟨v0, vs0, d0, ds0, p0, q0, hargs, rfl, rfl, h0, r0⟩ := trodAll_cons hA
  obtain ⟨v1, vs1, d1, ds1, p1, q1, rfl, rfl, rfl, h1, r1⟩ := trodAll_cons r0
  obtain ⟨v2, vs2, d2, ds2, p2, q2, rfl, rfl, rfl, h2, r2⟩ := trodAll_cons r1
  obtain ⟨v3, vs3, d3, ds3, p3, q3, rfl, rfl, rfl, h3, r3⟩ := trodAll_cons r2
  obtain ⟨rfl, rfl, rfl⟩ := trodAll_nil r3
  obtain rfl : args = #[v0, v1, v2, v3] := by cases args; simp_all
  obtain ⟨rfl, rfl⟩ := trodVars_none hV
  have k0 := h0
  have lt0 : ∀ x ∈ p0, x.block < W.heap.size := by obtain ⟨m, hm⟩ := k0; exact DataW.trod_lt m _ _ _ hm
  obtain ⟨cs0, x0, rfl, K0, B_0⟩ := Opens.arg_agg Try.underlying27 opens_T27 (hval 0 27 v0 rfl rfl) h0
  obtain ⟨A0_0, c0_0, A0_1, c0_1, A0_2, c0_2, A0_3, c0_3, A0_4, c0_4, rfl, L0_0, C0_0, L0_1, C0_1, L0_2, C0_2, L0_3, C0_3, L0_4, C0_4⟩ := k27_open K0
  have k1 := h1
  have lt1 : ∀ x ∈ p1, x.block < W.heap.size := by obtain ⟨m, hm⟩ := k1; exact DataW.trod_lt m _ _ _ hm
  obtain ⟨cs1, x1, rfl, K1, B_1⟩ := Opens.arg_agg Try.underlying27 opens_T27 (hval 1 27 v1 rfl rfl) h1
  obtain ⟨A1_0, c1_0, A1_1, c1_1, A1_2, c1_2, A1_3, c1_3, A1_4, c1_4, rfl, L1_0, C1_0, L1_1, C1_1, L1_2, C1_2, L1_3, C1_3, L1_4, C1_4⟩ := k27_open K1
  have k2 := h2
  have lt2 : ∀ x ∈ p2, x.block < W.heap.size := by obtain ⟨m, hm⟩ := k2; exact DataW.trod_lt m _ _ _ hm
  obtain ⟨A2, c2, x2, rfl, C2, L2, B_2⟩ := Opens.arg_slice Try.underlying28 (Opens.opens_slice Try.underlying28 (by kernel_rfl) (Opens.opens_int Try.underlying45)) (hval 2 28 v2 rfl rfl) h2
  have k3 := h3
  have lt3 : ∀ x ∈ p3, x.block < W.heap.size := by obtain ⟨m, hm⟩ := k3; exact DataW.trod_lt m _ _ _ hm
  obtain ⟨A3, c3, x3, rfl, C3, L3, B_3⟩ := Opens.arg_slice Try.underlying28 (Opens.opens_slice Try.underlying28 (by kernel_rfl) (Opens.opens_int Try.underlying45)) (hval 3 28 v3 rfl rfl) h3
  clear hA0 hval0 hsz0
  obtain ⟨k, hp⟩ := Pure.NetTells x0 x1 x2 x3 B_0 B_1 B_2 B_3
  refine (w9_NetTells.calls k A0_0 c0_0 x0.f0 A0_1 c0_1 x0.f1 A0_2 c0_2 x0.f2 A0_3 c0_3 x0.f3 A0_4 c0_4 x0.f4 A1_0 c1_0 x1.f0 A1_1 c1_1 x1.f1 A1_2 c1_2 x1.f2 A1_3 c1_3 x1.f3 A1_4 c1_4 x1.f4 A2 c2 x2 A3 c3 x3 true W C0_0 L0_0 C0_1 L0_1 C0_2 L0_2 C0_3 L0_3 C0_4 L0_4 C1_0 L1_0 C1_1 L1_1 C1_2 L1_2 C1_3 L1_3 C1_4 L1_4 C2 L2 C3 L3 hp).mono ?_
  rintro e W' ⟨rfl, bel0⟩
  have bel : Below W.heap.size W W' := bel0
  exact ⟨_, rfl, _, _, _, [], _, [], hW', trodAll_mk1 (shut_bool Try.underlying4 _), (trodAll_cons_mk (Below.trod laidOut (by kernel_rfl) (of_decide_eq_true (by kernel_rfl)) k0 bel lt0) (trodAll_cons_mk (Below.trod laidOut (by kernel_rfl) (of_decide_eq_true (by kernel_rfl)) k1 bel lt1) (trodAll_cons_mk (Below.trod laidOut (by kernel_rfl) (of_decide_eq_true (by kernel_rfl)) k2 bel lt2) (trodAll_cons_mk (Below.trod laidOut (by kernel_rfl) (of_decide_eq_true (by kernel_rfl)) k3 bel lt3) trodAll_mk0)))), rfl, bel.frame _, fun h => by cases h⟩
theorem over : Rows.netTellsRow.holds Try.pinned (OpenSpec.ofChange Rows.netTellsSpec) :=
  OpenClaim.holds_of_wide 3 Try.f3 rfl rfl rfl rfl rfl rfl rfl ⟨rfl, rfl, rfl, rfl, rfl⟩ rfl rfl rfl rfl rfl (by kernel_rfl) Try.func3 (by kernel_rfl)
    (of_decide_eq_true (by kernel_rfl)) (by unfold Func.isWrapper; first | (rw [if_pos (by decide +kernel)]; kernel_rfl) | (rw [if_neg (by decide +kernel)]; exact ⟨rfl, rfl⟩))
    (fun os started H enc _ => lifted os started H enc)
theorem proved : Rows.NetTellsSaid := over
#print axioms proved
end Go.Proofs.Yteblbknmikieoaa.netTells
namespace Go.Proofs.Yteblbknmikieoaa
theorem netTells_holds : Rows.NetTellsSaid := netTells.proved
end Go.Proofs.Yteblbknmikieoaa
