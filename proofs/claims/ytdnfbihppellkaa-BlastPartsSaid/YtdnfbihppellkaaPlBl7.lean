/- The cases of the laws: nodes and their operands. -/
import Derived.Test.YtdnfbihppellkaaPlBl6
namespace Go.Proofs.Ytdnfbihppellkaa.Am
set_option linter.unusedVariables false
set_option linter.unusedSimpArgs false
theorem lit_u32 {x : Int} (h : (Lit.int .u32 x).wf = true) : 0 ≤ x ∧ x ≤ 4294967295 := by
  have h1 : IntKind.u32.min = 0 := by decide
  have h2 : IntKind.u32.max = 4294967295 := by decide
  simp [Lit.wf] at h
  omega
/-- A law's case: its node, and operands. -/
structure CaseOK (op w u lo a b c wbit : Int) (wa wb wc W K : Nat) : Prop where
  n : NodeOK op w u lo wa wb wc W K
  w : w = (W : Int)
  a : Num_ wa a
  b : Num_ wb b
  c : Num_ wc c
  k : op = 17 → wbit = wb
theorem case_f {m : Nat} {x1 x2 x3 x4 x5 x6 : Int} (h1 : (Lit.int .u8 x1).wf = true) (h2 : (Lit.int .u8 x2).wf = true) (h3 : (Lit.int .u32 x3).wf = true) (h4 : (Lit.int .u32 x4).wf = true) (h5 : (Lit.int .u32 x5).wf = true) (h6 : (Lit.int .u8 x6).wf = true) :
    ∃ (op w u lo a b c wbit : Int) (wa wb wc W K : Nat), law08_Made m x1 x2 x3 x4 x5 x6 = some (op, w, 0, 0, 0, u, lo, a, b, c, wbit, ()) ∧ law14_widths m x1 x2 x3 x4 x5 x6 = some (op, w, 0, 0, 0, u, lo, (wa : Int), (wb : Int), (wc : Int), ()) ∧ CaseOK op w u lo a b c wbit wa wb wc W K := by
  have g1 := lit_u8 h1
  have g2 := lit_u8 h2
  have g3 := lit_u32 h3
  have g4 := lit_u32 h4
  have g5 := lit_u32 h5
  have g6 := lit_u8 h6
  have hop : Int.tmod (IntKind.wrap .i64 x1) 17 = x1 % 17 := by rw [w64 (by omega) (by omega), tmodn (by omega)]
  obtain ⟨k, hk, k1, k2⟩ : ∃ k : Nat, IntKind.wrap .i64 (Int.tmod (IntKind.wrap .i64 x2) 16 + 1) = (k : Int) ∧ 1 ≤ k ∧ k ≤ 16 := by
    refine ⟨(x2 % 16 + 1).toNat, ?_, by omega, by omega⟩
    rw [w64 (n := x2) (by omega) (by omega), tmodn (by omega), w64 (by omega) (by omega)]
    omega
  have hm : ref08_Mask m (k : Int) = some (P2 (k : Int) - 1, ()) := rmask_f (by omega) (by omega)
  have w3 : IntKind.wrap .i64 x3 = x3 := w64 (by omega) (by omega)
  have w4 : IntKind.wrap .i64 x4 = x4 := w64 (by omega) (by omega)
  have w5 : IntKind.wrap .i64 x5 = x5 := w64 (by omega) (by omega)
  have w6 : IntKind.wrap .i64 x6 = x6 := w64 (by omega) (by omega)
  have am : ∀ {x : Int}, bits .and .i64 x (P2 (k : Int) - 1) = x % P2 (k : Int) := and_mask (by omega) (by omega)
  have nm : ∀ {x : Int} {j : Nat}, Num_ (j : Int) (x % P2 (j : Int)) := num_mod _ _
  have z0 : ∀ {j : Nat}, Num_ (j : Int) 0 := num_zero _
  have tab : ∀ {x : Option (Int × Int × Int × Int × Int × Int × Int × Int × Int × Int × Int × Unit)}, law08_Made m x1 x2 x3 x4 x5 x6 = x → law08_Made m x1 x2 x3 x4 x5 x6 = x := fun h => h
  have cs : x1 % 17 = 0 ∨ x1 % 17 = 1 ∨ x1 % 17 = 2 ∨ x1 % 17 = 3 ∨ x1 % 17 = 4 ∨ x1 % 17 = 5 ∨ x1 % 17 = 6 ∨ x1 % 17 = 7 ∨ x1 % 17 = 8 ∨ x1 % 17 = 9 ∨ x1 % 17 = 10 ∨ x1 % 17 = 11 ∨ x1 % 17 = 12 ∨ x1 % 17 = 13 ∨ x1 % 17 = 14 ∨ x1 % 17 = 15 ∨ x1 % 17 = 16 := by omega
  rcases cs with h | h | h | h | h | h | h | h | h | h | h | h | h | h | h | h | h
  · obtain ⟨N, hN, hN2⟩ : ∃ N : Nat, x3 % P2 (k : Int) = (N : Int) ∧ N < 2 ^ k := by
      have := nm (x := x3) (j := k)
      refine ⟨(x3 % P2 (k : Int)).toNat, by have := this.1; omega, ?_⟩
      have := this.2
      rw [p2_nat] at this
      rw [p2_nat]
      omega
    have e1 : law08_Made m x1 x2 x3 x4 x5 x6 = some (1, (k : Int), 0, 0, 0, (N : Int), 0, 0, 0, 0, 0, ()) := by
      unfold law08_Made law08_Made_j1 law08_Made_j2 law08_Made_j3
      simp only [hop, h, show Ki_at [1, 3, 4, 5, 6, 7, 8, 9, 10, 11, 12, 13, 14, 15, 16, 17, 18] 0 = 1 from rfl, hk, hm, bindS, am, w3, w4, w5, w6, cond_dec, Int.reduceEq, ↓reduceIte, decide_true, decide_false, cond_true, cond_false]
      rw [ask_of (by omega), ask_of (by omega), ask_of (by simp)]
      rw [hN]
    exact ⟨_, _, _, _, _, _, _, _, 0, 0, 0, k, 0, e1, by
      unfold law14_widths law14_widths_j1
      rw [e1, bindS, ask_of (by omega)]
      simp only [hk, bindS, cond_dec, Int.reduceEq, ↓reduceIte, decide_true, decide_false, cond_true, cond_false] <;> rfl, ⟨.lit k N k1 k2 hN2, rfl, z0, z0, z0, fun h => by cases h⟩⟩
  · have e1 : law08_Made m x1 x2 x3 x4 x5 x6 = some (3, (k : Int), 0, 0, 0, 0, 0, x3 % P2 (k : Int), 0, 0, (k : Int), ()) := by
      unfold law08_Made law08_Made_j1 law08_Made_j2 law08_Made_j3
      simp only [hop, h, show Ki_at [1, 3, 4, 5, 6, 7, 8, 9, 10, 11, 12, 13, 14, 15, 16, 17, 18] 1 = 3 from rfl, hk, hm, bindS, am, w3, w4, w5, w6, cond_dec, Int.reduceEq, ↓reduceIte, decide_true, decide_false, cond_true, cond_false]
      rw [ask_of (by omega), ask_of (by omega), ask_of (by simp)]
    exact ⟨_, _, _, _, _, _, _, _, k, 0, 0, k, _, e1, by
      unfold law14_widths law14_widths_j1
      rw [e1, bindS, ask_of (by omega)]
      simp only [hk, bindS, cond_dec, Int.reduceEq, ↓reduceIte, decide_true, decide_false, cond_true, cond_false] <;> rfl, ⟨.inv k k1 k2, rfl, nm, z0, z0, fun h => by cases h⟩⟩
  · have e1 : law08_Made m x1 x2 x3 x4 x5 x6 = some (4, 1, 0, 0, 0, 0, (k : Int), x3 % P2 (k : Int), 0, 0, 0, ()) := by
      unfold law08_Made law08_Made_j1 law08_Made_j2 law08_Made_j3
      simp only [hop, h, show Ki_at [1, 3, 4, 5, 6, 7, 8, 9, 10, 11, 12, 13, 14, 15, 16, 17, 18] 2 = 4 from rfl, hk, hm, bindS, am, w3, w4, w5, w6, cond_dec, Int.reduceEq, ↓reduceIte, decide_true, decide_false, cond_true, cond_false]
      rw [ask_of (by omega), ask_of (by omega), ask_of (by simp)]
    exact ⟨_, _, _, _, _, _, _, _, k, 0, 0, 1, _, e1, by
      unfold law14_widths law14_widths_j1
      rw [e1, bindS, ask_of (by omega)]
      simp only [hk, bindS, cond_dec, Int.reduceEq, ↓reduceIte, decide_true, decide_false, cond_true, cond_false] <;> rfl, ⟨.red 4 k (by omega) k1 k2, rfl, nm, z0, z0, fun h => by cases h⟩⟩
  · have e1 : law08_Made m x1 x2 x3 x4 x5 x6 = some (5, 1, 0, 0, 0, 0, (k : Int), x3 % P2 (k : Int), 0, 0, 0, ()) := by
      unfold law08_Made law08_Made_j1 law08_Made_j2 law08_Made_j3
      simp only [hop, h, show Ki_at [1, 3, 4, 5, 6, 7, 8, 9, 10, 11, 12, 13, 14, 15, 16, 17, 18] 3 = 5 from rfl, hk, hm, bindS, am, w3, w4, w5, w6, cond_dec, Int.reduceEq, ↓reduceIte, decide_true, decide_false, cond_true, cond_false]
      rw [ask_of (by omega), ask_of (by omega), ask_of (by simp)]
    exact ⟨_, _, _, _, _, _, _, _, k, 0, 0, 1, _, e1, by
      unfold law14_widths law14_widths_j1
      rw [e1, bindS, ask_of (by omega)]
      simp only [hk, bindS, cond_dec, Int.reduceEq, ↓reduceIte, decide_true, decide_false, cond_true, cond_false] <;> rfl, ⟨.red 5 k (by omega) k1 k2, rfl, nm, z0, z0, fun h => by cases h⟩⟩
  · have e1 : law08_Made m x1 x2 x3 x4 x5 x6 = some (6, (k : Int), 0, 0, 0, 0, 0, x3 % P2 (k : Int), x4 % P2 (k : Int), 0, (k : Int), ()) := by
      unfold law08_Made law08_Made_j1 law08_Made_j2 law08_Made_j3
      simp only [hop, h, show Ki_at [1, 3, 4, 5, 6, 7, 8, 9, 10, 11, 12, 13, 14, 15, 16, 17, 18] 4 = 6 from rfl, hk, hm, bindS, am, w3, w4, w5, w6, cond_dec, Int.reduceEq, ↓reduceIte, decide_true, decide_false, cond_true, cond_false]
      rw [ask_of (by omega), ask_of (by omega), ask_of (by simp)]
    exact ⟨_, _, _, _, _, _, _, _, k, k, 0, k, _, e1, by
      unfold law14_widths law14_widths_j1
      rw [e1, bindS, ask_of (by omega)]
      simp only [hk, bindS, cond_dec, Int.reduceEq, ↓reduceIte, decide_true, decide_false, cond_true, cond_false] <;> rfl, ⟨.two 6 k (by omega) k1 k2, rfl, nm, nm, z0, fun h => by cases h⟩⟩
  · have e1 : law08_Made m x1 x2 x3 x4 x5 x6 = some (7, (k : Int), 0, 0, 0, 0, 0, x3 % P2 (k : Int), x4 % P2 (k : Int), 0, (k : Int), ()) := by
      unfold law08_Made law08_Made_j1 law08_Made_j2 law08_Made_j3
      simp only [hop, h, show Ki_at [1, 3, 4, 5, 6, 7, 8, 9, 10, 11, 12, 13, 14, 15, 16, 17, 18] 5 = 7 from rfl, hk, hm, bindS, am, w3, w4, w5, w6, cond_dec, Int.reduceEq, ↓reduceIte, decide_true, decide_false, cond_true, cond_false]
      rw [ask_of (by omega), ask_of (by omega), ask_of (by simp)]
    exact ⟨_, _, _, _, _, _, _, _, k, k, 0, k, _, e1, by
      unfold law14_widths law14_widths_j1
      rw [e1, bindS, ask_of (by omega)]
      simp only [hk, bindS, cond_dec, Int.reduceEq, ↓reduceIte, decide_true, decide_false, cond_true, cond_false] <;> rfl, ⟨.two 7 k (by omega) k1 k2, rfl, nm, nm, z0, fun h => by cases h⟩⟩
  · have e1 : law08_Made m x1 x2 x3 x4 x5 x6 = some (8, (k : Int), 0, 0, 0, 0, 0, x3 % P2 (k : Int), x4 % P2 (k : Int), 0, (k : Int), ()) := by
      unfold law08_Made law08_Made_j1 law08_Made_j2 law08_Made_j3
      simp only [hop, h, show Ki_at [1, 3, 4, 5, 6, 7, 8, 9, 10, 11, 12, 13, 14, 15, 16, 17, 18] 6 = 8 from rfl, hk, hm, bindS, am, w3, w4, w5, w6, cond_dec, Int.reduceEq, ↓reduceIte, decide_true, decide_false, cond_true, cond_false]
      rw [ask_of (by omega), ask_of (by omega), ask_of (by simp)]
    exact ⟨_, _, _, _, _, _, _, _, k, k, 0, k, _, e1, by
      unfold law14_widths law14_widths_j1
      rw [e1, bindS, ask_of (by omega)]
      simp only [hk, bindS, cond_dec, Int.reduceEq, ↓reduceIte, decide_true, decide_false, cond_true, cond_false] <;> rfl, ⟨.two 8 k (by omega) k1 k2, rfl, nm, nm, z0, fun h => by cases h⟩⟩
  · have e1 : law08_Made m x1 x2 x3 x4 x5 x6 = some (9, (k : Int), 0, 0, 0, 0, 0, x3 % P2 (k : Int), x4 % P2 (k : Int), 0, (k : Int), ()) := by
      unfold law08_Made law08_Made_j1 law08_Made_j2 law08_Made_j3
      simp only [hop, h, show Ki_at [1, 3, 4, 5, 6, 7, 8, 9, 10, 11, 12, 13, 14, 15, 16, 17, 18] 7 = 9 from rfl, hk, hm, bindS, am, w3, w4, w5, w6, cond_dec, Int.reduceEq, ↓reduceIte, decide_true, decide_false, cond_true, cond_false]
      rw [ask_of (by omega), ask_of (by omega), ask_of (by simp)]
    exact ⟨_, _, _, _, _, _, _, _, k, k, 0, k, _, e1, by
      unfold law14_widths law14_widths_j1
      rw [e1, bindS, ask_of (by omega)]
      simp only [hk, bindS, cond_dec, Int.reduceEq, ↓reduceIte, decide_true, decide_false, cond_true, cond_false] <;> rfl, ⟨.two 9 k (by omega) k1 k2, rfl, nm, nm, z0, fun h => by cases h⟩⟩
  · have e1 : law08_Made m x1 x2 x3 x4 x5 x6 = some (10, (k : Int), 0, 0, 0, 0, 0, x3 % P2 (k : Int), x4 % P2 (k : Int), 0, (k : Int), ()) := by
      unfold law08_Made law08_Made_j1 law08_Made_j2 law08_Made_j3
      simp only [hop, h, show Ki_at [1, 3, 4, 5, 6, 7, 8, 9, 10, 11, 12, 13, 14, 15, 16, 17, 18] 8 = 10 from rfl, hk, hm, bindS, am, w3, w4, w5, w6, cond_dec, Int.reduceEq, ↓reduceIte, decide_true, decide_false, cond_true, cond_false]
      rw [ask_of (by omega), ask_of (by omega), ask_of (by simp)]
    exact ⟨_, _, _, _, _, _, _, _, k, k, 0, k, _, e1, by
      unfold law14_widths law14_widths_j1
      rw [e1, bindS, ask_of (by omega)]
      simp only [hk, bindS, cond_dec, Int.reduceEq, ↓reduceIte, decide_true, decide_false, cond_true, cond_false] <;> rfl, ⟨.two 10 k (by omega) k1 k2, rfl, nm, nm, z0, fun h => by cases h⟩⟩
  · have e1 : law08_Made m x1 x2 x3 x4 x5 x6 = some (11, (k : Int), 0, 0, 0, 0, 0, x3 % P2 (k : Int), x4 % P2 (k : Int), 0, (k : Int), ()) := by
      unfold law08_Made law08_Made_j1 law08_Made_j2 law08_Made_j3
      simp only [hop, h, show Ki_at [1, 3, 4, 5, 6, 7, 8, 9, 10, 11, 12, 13, 14, 15, 16, 17, 18] 9 = 11 from rfl, hk, hm, bindS, am, w3, w4, w5, w6, cond_dec, Int.reduceEq, ↓reduceIte, decide_true, decide_false, cond_true, cond_false]
      rw [ask_of (by omega), ask_of (by omega), ask_of (by simp)]
    exact ⟨_, _, _, _, _, _, _, _, k, k, 0, k, _, e1, by
      unfold law14_widths law14_widths_j1
      rw [e1, bindS, ask_of (by omega)]
      simp only [hk, bindS, cond_dec, Int.reduceEq, ↓reduceIte, decide_true, decide_false, cond_true, cond_false] <;> rfl, ⟨.mul k k1 k2, rfl, nm, nm, z0, fun h => by cases h⟩⟩
  · have e1 : law08_Made m x1 x2 x3 x4 x5 x6 = some (12, 1, 0, 0, 0, 0, (k : Int), x3 % P2 (k : Int), x4 % P2 (k : Int), 0, (k : Int), ()) := by
      unfold law08_Made law08_Made_j1 law08_Made_j2 law08_Made_j3
      simp only [hop, h, show Ki_at [1, 3, 4, 5, 6, 7, 8, 9, 10, 11, 12, 13, 14, 15, 16, 17, 18] 10 = 12 from rfl, hk, hm, bindS, am, w3, w4, w5, w6, cond_dec, Int.reduceEq, ↓reduceIte, decide_true, decide_false, cond_true, cond_false]
      rw [ask_of (by omega), ask_of (by omega), ask_of (by simp)]
    exact ⟨_, _, _, _, _, _, _, _, k, k, 0, 1, _, e1, by
      unfold law14_widths law14_widths_j1
      rw [e1, bindS, ask_of (by omega)]
      simp only [hk, bindS, cond_dec, Int.reduceEq, ↓reduceIte, decide_true, decide_false, cond_true, cond_false] <;> rfl, ⟨.ord 12 k (by omega) k1 k2, rfl, nm, nm, z0, fun h => by cases h⟩⟩
  · have e1 : law08_Made m x1 x2 x3 x4 x5 x6 = some (13, 1, 0, 0, 0, 0, (k : Int), x3 % P2 (k : Int), x4 % P2 (k : Int), 0, (k : Int), ()) := by
      unfold law08_Made law08_Made_j1 law08_Made_j2 law08_Made_j3
      simp only [hop, h, show Ki_at [1, 3, 4, 5, 6, 7, 8, 9, 10, 11, 12, 13, 14, 15, 16, 17, 18] 11 = 13 from rfl, hk, hm, bindS, am, w3, w4, w5, w6, cond_dec, Int.reduceEq, ↓reduceIte, decide_true, decide_false, cond_true, cond_false]
      rw [ask_of (by omega), ask_of (by omega), ask_of (by simp)]
    exact ⟨_, _, _, _, _, _, _, _, k, k, 0, 1, _, e1, by
      unfold law14_widths law14_widths_j1
      rw [e1, bindS, ask_of (by omega)]
      simp only [hk, bindS, cond_dec, Int.reduceEq, ↓reduceIte, decide_true, decide_false, cond_true, cond_false] <;> rfl, ⟨.ord 13 k (by omega) k1 k2, rfl, nm, nm, z0, fun h => by cases h⟩⟩
  · have e1 : law08_Made m x1 x2 x3 x4 x5 x6 = some (14, 1, 0, 0, 0, 0, (k : Int), x3 % P2 (k : Int), x4 % P2 (k : Int), 0, (k : Int), ()) := by
      unfold law08_Made law08_Made_j1 law08_Made_j2 law08_Made_j3
      simp only [hop, h, show Ki_at [1, 3, 4, 5, 6, 7, 8, 9, 10, 11, 12, 13, 14, 15, 16, 17, 18] 12 = 14 from rfl, hk, hm, bindS, am, w3, w4, w5, w6, cond_dec, Int.reduceEq, ↓reduceIte, decide_true, decide_false, cond_true, cond_false]
      rw [ask_of (by omega), ask_of (by omega), ask_of (by simp)]
    exact ⟨_, _, _, _, _, _, _, _, k, k, 0, 1, _, e1, by
      unfold law14_widths law14_widths_j1
      rw [e1, bindS, ask_of (by omega)]
      simp only [hk, bindS, cond_dec, Int.reduceEq, ↓reduceIte, decide_true, decide_false, cond_true, cond_false] <;> rfl, ⟨.ord 14 k (by omega) k1 k2, rfl, nm, nm, z0, fun h => by cases h⟩⟩
  · have e1 : law08_Made m x1 x2 x3 x4 x5 x6 = some (15, 1, 0, 0, 0, 0, (k : Int), x3 % P2 (k : Int), x4 % P2 (k : Int), 0, (k : Int), ()) := by
      unfold law08_Made law08_Made_j1 law08_Made_j2 law08_Made_j3
      simp only [hop, h, show Ki_at [1, 3, 4, 5, 6, 7, 8, 9, 10, 11, 12, 13, 14, 15, 16, 17, 18] 13 = 15 from rfl, hk, hm, bindS, am, w3, w4, w5, w6, cond_dec, Int.reduceEq, ↓reduceIte, decide_true, decide_false, cond_true, cond_false]
      rw [ask_of (by omega), ask_of (by omega), ask_of (by simp)]
    exact ⟨_, _, _, _, _, _, _, _, k, k, 0, 1, _, e1, by
      unfold law14_widths law14_widths_j1
      rw [e1, bindS, ask_of (by omega)]
      simp only [hk, bindS, cond_dec, Int.reduceEq, ↓reduceIte, decide_true, decide_false, cond_true, cond_false] <;> rfl, ⟨.ord 15 k (by omega) k1 k2, rfl, nm, nm, z0, fun h => by cases h⟩⟩
  · have e1 : law08_Made m x1 x2 x3 x4 x5 x6 = some (16, (k : Int), 0, 0, 0, 0, 0, x3 % 2, x4 % P2 (k : Int), x5 % P2 (k : Int), (k : Int), ()) := by
      unfold law08_Made law08_Made_j1 law08_Made_j2 law08_Made_j3
      simp only [hop, h, show Ki_at [1, 3, 4, 5, 6, 7, 8, 9, 10, 11, 12, 13, 14, 15, 16, 17, 18] 14 = 16 from rfl, hk, hm, bindS, am, w3, w4, w5, w6, cond_dec, Int.reduceEq, ↓reduceIte, decide_true, decide_false, cond_true, cond_false]
      rw [ask_of (by omega), ask_of (by omega), ask_of (by simp)]
      rw [and_one x3 (by omega) (by omega)]
    exact ⟨_, _, _, _, _, _, _, _, 1, k, k, k, _, e1, by
      unfold law14_widths law14_widths_j1
      rw [e1, bindS, ask_of (by omega)]
      simp only [hk, bindS, cond_dec, Int.reduceEq, ↓reduceIte, decide_true, decide_false, cond_true, cond_false] <;> rfl, ⟨.mux k k1 k2, rfl, nm (j := 1), nm, nm, fun h => by cases h⟩⟩
  · obtain ⟨j, hj, hj2⟩ : ∃ j : Nat, Int.tmod x6 (k : Int) = (j : Int) ∧ j < k := by
      have h0 := Int.emod_nonneg x6 (show (k : Int) ≠ 0 by omega)
      have h1 := Int.emod_lt_of_pos x6 (show (0 : Int) < (k : Int) by omega)
      exact ⟨(x6 % (k : Int)).toNat, by rw [tmodn (by omega)]; omega, by omega⟩
    have wj : IntKind.wrap .i64 ((j : Int) + 1) = ((j + 1 : Nat) : Int) := by rw [w64 (by omega) (by omega)]; omega
    have wk : IntKind.wrap .i64 ((k : Int) + 1) = ((k + 1 : Nat) : Int) := by rw [w64 (by omega) (by omega)]; omega
    obtain ⟨a, b, a1, b1, ab, e1⟩ : ∃ a b : Nat, 1 ≤ a ∧ 1 ≤ b ∧ a + b ≤ 16 ∧ law08_Made m x1 x2 x3 x4 x5 x6 = some (17, ((a + b : Nat) : Int), 0, 0, 0, 0, 0, x3 % P2 (a : Int), x4 % P2 (b : Int), 0, (b : Int), ()) := by
      unfold law08_Made law08_Made_j1 law08_Made_j2 law08_Made_j3
      simp only [hop, h, show Ki_at [1, 3, 4, 5, 6, 7, 8, 9, 10, 11, 12, 13, 14, 15, 16, 17, 18] 15 = 17 from rfl, hk, hm, bindS, am, w3, w4, w5, w6, cond_dec, Int.reduceEq, ↓reduceIte, decide_true, decide_false, cond_true, cond_false]
      rw [ask_of (by omega), ask_of (by omega), ask_of (by simp)]
      rw [ask_of (by omega)]
      simp only [hj, wj, wk]
      have fin : ∀ (a b : Nat) (W : Int), W = ((a + b : Nat) : Int) → a + b ≤ 16 → ((some ((b : Int), (17 : Int), W, (0 : Int), (0 : Int), (0 : Int), (0 : Int), (0 : Int), ())).bind fun d12 : Int × Int × Int × Int × Int × Int × Int × Int × Unit => (ref08_Mask m (IntKind.wrap .i64 (d12.2.2.1 - d12.1))).bind fun r13 => (ref08_Mask m d12.1).bind fun r14 => some (d12.2.1, d12.2.2.1, d12.2.2.2.1, d12.2.2.2.2.1, d12.2.2.2.2.2.1, d12.2.2.2.2.2.2.1, d12.2.2.2.2.2.2.2.1, bits .and .i64 x3 r13.1, bits .and .i64 x4 r14.1, (0 : Int), d12.1, ())) = some (17, ((a + b : Nat) : Int), 0, 0, 0, 0, 0, x3 % P2 (a : Int), x4 % P2 (b : Int), 0, (b : Int), ())   := fun a b W hW hab => by
        subst hW
        rw [bindS]
        simp only
        rw [w64 (by omega) (by omega), show ((a + b : Nat) : Int) - (b : Int) = (a : Int) by omega, rmask_f (by omega) (by omega), bindS, rmask_f (by omega) (by omega), bindS, and_mask (by omega) (by omega), and_mask (by omega) (by omega)]
      by_cases c : j + 1 = k
      · rw [if_pos (by omega), ask_of trivial]
        by_cases c2 : k = 16
        · refine ⟨15, 1, by omega, by omega, by omega, ?_⟩
          rw [if_pos (by omega)]
          exact fin 15 1 _ rfl (by omega)
        · refine ⟨k, 1, by omega, by omega, by omega, ?_⟩
          rw [if_neg (by omega)]
          exact fin k 1 _ rfl (by omega)
      · refine ⟨k - (j + 1), j + 1, by omega, by omega, by omega, ?_⟩
        rw [if_neg (by omega)]
        exact fin (k - (j + 1)) (j + 1) _ (by omega) (by omega)
    refine ⟨_, _, _, _, _, _, _, _, a, b, 0, a + b, _, e1, ?_, ⟨.cat a b a1 b1 ab, rfl, nm, nm, z0, fun h => rfl⟩⟩
    unfold law14_widths law14_widths_j1
    rw [e1, bindS, ask_of (by omega)]
    simp only [hk, bindS, cond_dec, Int.reduceEq, ↓reduceIte, decide_true, decide_false, cond_true, cond_false]
    rw [w64 (by omega) (by omega), show ((a + b : Nat) : Int) - (b : Int) = (a : Int) by omega]
    rfl
  · obtain ⟨j, hj, hj2⟩ : ∃ j : Nat, Int.tmod x6 (k : Int) = (j : Int) ∧ j < k := by
      have h0 := Int.emod_nonneg x6 (show (k : Int) ≠ 0 by omega)
      have h1 := Int.emod_lt_of_pos x6 (show (0 : Int) < (k : Int) by omega)
      exact ⟨(x6 % (k : Int)).toNat, by rw [tmodn (by omega)]; omega, by omega⟩
    have wkj : IntKind.wrap .i64 ((k : Int) - (j : Int)) = ((k - j : Nat) : Int) := by rw [w64 (by omega) (by omega)]; omega
    obtain ⟨i, hi, hi2⟩ : ∃ i : Nat, Int.tmod x5 ((k - j : Nat) : Int) = (i : Int) ∧ i < k - j := by
      have h0 := Int.emod_nonneg x5 (show ((k - j : Nat) : Int) ≠ 0 by omega)
      have h1 := Int.emod_lt_of_pos x5 (show (0 : Int) < ((k - j : Nat) : Int) by omega)
      exact ⟨(x5 % ((k - j : Nat) : Int)).toNat, by rw [tmodn (by omega)]; omega, by omega⟩
    have wji : IntKind.wrap .i64 ((j : Int) + (i : Int)) = ((j + i : Nat) : Int) := by rw [w64 (by omega) (by omega)]; omega
    have e1 : law08_Made m x1 x2 x3 x4 x5 x6 = some (18, ((j + i - j + 1 : Nat) : Int), 0, 0, 0, ((j + i : Nat) : Int), (j : Int), x3 % P2 (k : Int), 0, 0, 0, ()) := by
      unfold law08_Made law08_Made_j1 law08_Made_j2 law08_Made_j3
      simp only [hop, h, show Ki_at [1, 3, 4, 5, 6, 7, 8, 9, 10, 11, 12, 13, 14, 15, 16, 17, 18] 16 = 18 from rfl, hk, hm, bindS, am, w3, w4, w5, w6, cond_dec, Int.reduceEq, ↓reduceIte, decide_true, decide_false, cond_true, cond_false]
      rw [ask_of (by omega), ask_of (by omega), ask_of (by simp)]
      simp only [hj, wkj, hi, wji]
      rw [ask_of (by omega), ask_of (by omega), w64 (n := ((j + i : Nat) : Int) - (j : Int)) (by omega) (by omega), w64 (by omega) (by omega)]
      congr 3
      omega
    exact ⟨_, _, _, _, _, _, _, _, k, 0, 0, j + i - j + 1, _, e1, by
      unfold law14_widths law14_widths_j1
      rw [e1, bindS, ask_of (by omega)]
      simp only [hk, bindS, cond_dec, Int.reduceEq, ↓reduceIte, decide_true, decide_false, cond_true, cond_false] <;> rfl, ⟨.slice k (j + i) j k2 (by omega) (by omega), rfl, nm, z0, z0, fun h => by cases h⟩⟩
end Go.Proofs.Ytdnfbihppellkaa.Am
