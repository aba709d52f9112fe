/- The live question of the laws of bits. -/
import Derived.Test.YtdnfbihppellkaaPlBl7
namespace Go.Proofs.Ytdnfbihppellkaa.Am
set_option linter.unusedVariables false
set_option linter.unusedSimpArgs false
theorem means_f {n k W : Nat} {ins : Int} {g : List Kii} {op w p q s u lo wb : Int} {A B : List Int} {inp : List Bool} (hd : DoOK k W ins g op w p q s u lo A B [] wb (blast_Do n ins g op w p q s u lo A B [])) (hw : w = (W : Int)) (hW : W ≤ 16) (hi : (inp.length : Int) = ins) (hn : 30000 < n) : ∃ N Y, law14_means n ins g op w p q s u lo A B inp = some (N, ()) ∧ ∀ m, vec_Do m op w p q s u lo (nb (bv ((false :: inp) ++ Y) A) : Int) (nb (bv ((false :: inp) ++ Y) B) : Int) 0 wb = some (N, ()) := by
  obtain ⟨t, l, e, ht, hr, hl, hls, hv⟩ := hd
  have i0 := hr.i0
  have i1 := hr.i1
  have hg := hr.len
  obtain ⟨Y, e2, hY, hM⟩ := eval_f (n := n) hr hi hn
  refine ⟨(nb (bv ((false :: inp) ++ Y) l) : Int), Y, ?_, fun m => hv _ hM m⟩
  have hlen : ((false :: inp) ++ Y).length = inp.length + 1 + (g ++ t).length := by simp [hY]; omega
  have hlit : ∀ x ∈ l, 0 ≤ x ∧ x / 2 < (((false :: inp) ++ Y).length : Int) ∧ x < 1000000 := fun x hx => by
    obtain ⟨q1, q2⟩ := hls x hx
    rw [hlen]
    exact ⟨q1, by omega, by omega⟩
  unfold law14_means
  rw [e, bindS]
  simp only [cond_dec]
  rw [aigRight_f hr hn, bindS]
  simp only [Bool.not_true, cond_false]
  rw [if_neg (by simp), if_neg (by simp [hl, hw]), right14_f hr hls (by omega) hn, bindS]
  simp only [Bool.not_true, cond_false]
  rw [e2, bindS]
  simp only
  rw [hlen, wrap_small (x := 1 + ins) (by omega) (by omega), wrap_small (by omega) (by omega), if_neg (by omega), num_f (by omega) hlit hn, bindS]
theorem head14 : law14_head big = some (true, ()) := by
  have r0 : RG 4 [] := ⟨by omega, by omega, by simp, fun j hj => by simp at hj, fun i j _ hj => by simp at hj⟩
  have m1 : law14_means big 4 [] 1 4 0 0 0 5 0 [] [] [true, false, true, true] = some (5, ()) := by kernel_rfl
  have m2 : law14_means big 4 [] 17 3 0 0 0 0 0 [2] [4, 6] [true, false, true, true] = some (6, ()) := by kernel_rfl
  have m3 : law14_means big 4 [] 9 2 0 0 0 0 0 [2, 4] [6, 8] [true, false, true, true] = some (0, ()) := by kernel_rfl
  have m4 : law14_means big 4 [] 14 1 0 0 0 0 2 [2, 4] [6, 8] [true, false, true, true] = some (1, ()) := by
    have hl : Lits 4 [] [2, 4] := fun x hx => by simp at hx; rcases hx with rfl | rfl <;> simp [LitG]
    have hl2 : Lits 4 [] [6, 8] := fun x hx => by simp at hx; rcases hx with rfl | rfl <;> simp [LitG]
    obtain ⟨N, Y, e, h⟩ := means_f (n := big) (inp := [true, false, true, true]) (Do_lt (n := big) (w := 1) (p := 0) (q := 0) (s := 0) (u := 0) (lo := 2) (wb := 0) (C := []) r0 (by simp) hl hl2 (by simp) rfl (by decide)) rfl (by omega) rfl (by decide)
    have h1 := h 1
    rw [do_lt] at h1
    have h2 : (nb (bv ((false :: [true, false, true, true]) ++ Y) [2, 4]) : Int) = 1 := rfl
    have h3 : (nb (bv ((false :: [true, false, true, true]) ++ Y) [6, 8]) : Int) = 3 := rfl
    rw [h2, h3, if_pos (by omega)] at h1
    rw [e, ← h1]
  unfold law14_head aig_New
  rw [bindS]
  simp only
  rw [m1, bindS]
  simp only [cond_dec, ↓reduceIte]
  rw [m2, bindS]
  simp only [↓reduceIte]
  rw [m3, bindS]
  simp only [↓reduceIte]
  rw [m4, bindS]
  rfl
end Go.Proofs.Ytdnfbihppellkaa.Am
