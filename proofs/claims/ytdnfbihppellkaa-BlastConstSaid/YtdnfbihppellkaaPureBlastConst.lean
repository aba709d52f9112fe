/- BlastConst, in plain Lean. -/
import Derived.Test.YtdnfbihppellkaaPlBl9
namespace Go.Proofs.Ytdnfbihppellkaa.Am
set_option linter.unusedVariables false
set_option linter.unusedSimpArgs false
theorem Do_o_eq : blast_Do_o = blast_Do := rfl
theorem num_of {k : Nat} {x : Int} (h : Num_ (k : Int) x) : ∃ N : Nat, x = (N : Int) ∧ N < 2 ^ k := by
  obtain ⟨h0, h1⟩ := h
  rw [p2_nat] at h1
  exact ⟨x.toNat, by omega, by omega⟩
theorem const14 {x1 x2 x3 x4 x5 x6 : Int} {x7 : List Bool} (h1 : (Lit.int .u8 x1).wf = true) (h2 : (Lit.int .u8 x2).wf = true) (h3 : (Lit.int .u32 x3).wf = true) (h4 : (Lit.int .u32 x4).wf = true) (h5 : (Lit.int .u32 x5).wf = true) (h6 : (Lit.int .u8 x6).wf = true) : law14_BlastConst big x1 x2 x3 x4 x5 x6 x7 = some (true, ()) := by
  have hn : 30000 < big := by decide
  obtain ⟨op, w, u, lo, a, b, c, wbit, wa, wb, wc, W, K, e1, e2, ok⟩ := case_f (m := big) h1 h2 h3 h4 h5 h6
  have hws : wa ≤ 16 ∧ wb ≤ 16 ∧ wc ≤ 16 ∧ W ≤ 16 := by cases ok.n <;> omega
  obtain ⟨hwa, hwb, hwc, hW⟩ := hws
  have okn := ok.n
  have oka := ok.a
  have okb := ok.b
  have okc := ok.c
  obtain ⟨Na, rfl, na⟩ := num_of ok.a
  obtain ⟨Nb, rfl, nb_⟩ := num_of ok.b
  obtain ⟨Nc, rfl, nc⟩ := num_of ok.c
  have sm : ∀ {k N : Nat}, k ≤ 16 → N < 2 ^ k → N < 4611686018427387904 := fun hk hN => by have := pow16 hk; omega
  have r0 : RG 3 [] := ⟨by omega, by omega, by simp, fun j hj => by simp at hj, fun i j _ hj => by simp at hj⟩
  have l1 := iter_up (F := law14_BlastConst_l1b big (op, w, 0, 0, 0, u, lo, (Na : Int), (Nb : Int), (Nc : Int), wbit, ()) (op, w, 0, 0, 0, u, lo, (wa : Int), (wb : Int), (wc : Int), ())) (fun j => ((j : Int), nbits Na j, ())) (nbits Na wa, ()) (len := wa) (m := big)
    (fun self j hj => by
      unfold law14_BlastConst_l1b
      simp only [cond_dec]
      rw [if_pos (by omega), ask_of (by omega), ask_of (by simp [nbits]; omega), bit_f (sm hwa na) (by omega), succ64 (by omega), nbits_succ])
    (fun self => by
      unfold law14_BlastConst_l1b
      simp only [cond_dec]
      rw [if_neg (by omega)]) (by omega)
  have l2 := iter_up (F := law14_BlastConst_l2b big (op, w, 0, 0, 0, u, lo, (Na : Int), (Nb : Int), (Nc : Int), wbit, ()) (op, w, 0, 0, 0, u, lo, (wa : Int), (wb : Int), (wc : Int), ())) (fun j => ((j : Int), nbits Nb j, ())) (nbits Nb wb, ()) (len := wb) (m := big)
    (fun self j hj => by
      unfold law14_BlastConst_l2b
      simp only [cond_dec]
      rw [if_pos (by omega), ask_of (by omega), ask_of (by simp [nbits]; omega), bit_f (sm hwb nb_) (by omega), succ64 (by omega), nbits_succ])
    (fun self => by
      unfold law14_BlastConst_l2b
      simp only [cond_dec]
      rw [if_neg (by omega)]) (by omega)
  have l3 := iter_up (F := law14_BlastConst_l3b big (op, w, 0, 0, 0, u, lo, (Na : Int), (Nb : Int), (Nc : Int), wbit, ()) (op, w, 0, 0, 0, u, lo, (wa : Int), (wb : Int), (wc : Int), ())) (fun j => ((j : Int), nbits Nc j, ())) (nbits Nc wc, ()) (len := wc) (m := big)
    (fun self j hj => by
      unfold law14_BlastConst_l3b
      simp only [cond_dec]
      rw [if_pos (by omega), ask_of (by omega), ask_of (by simp [nbits]; omega), bit_f (sm hwc nc) (by omega), succ64 (by omega), nbits_succ])
    (fun self => by
      unfold law14_BlastConst_l3b
      simp only [cond_dec]
      rw [if_neg (by omega)]) (by omega)
  unfold law14_BlastConst aig_New
  rw [head14, bindS, e1, bindS, e2, bindS, bindS, show law14_BlastConst_l1 big (op, w, 0, 0, 0, u, lo, (Na : Int), (Nb : Int), (Nc : Int), wbit, ()) (op, w, 0, 0, 0, u, lo, (wa : Int), (wb : Int), (wc : Int), ()) (0, [], ()) = _ from l1, bindS, show law14_BlastConst_l2 big (op, w, 0, 0, 0, u, lo, (Na : Int), (Nb : Int), (Nc : Int), wbit, ()) (op, w, 0, 0, 0, u, lo, (wa : Int), (wb : Int), (wc : Int), ()) (0, [], ()) = _ from l2, bindS, show law14_BlastConst_l3 big (op, w, 0, 0, 0, u, lo, (Na : Int), (Nb : Int), (Nc : Int), wbit, ()) (op, w, 0, 0, 0, u, lo, (wa : Int), (wb : Int), (wc : Int), ()) (0, [], ()) = _ from l3, bindS, Do_o_eq]
  simp only
  obtain ⟨t, l, e3, ht, hr, hl3, hls, hv⟩ := Do_all (n := big) (p := 0) (q := 0) (s := 0) r0 (by simp) okn (nbits_lits r0 Na wa) (nbits_lits r0 Nb wb) (nbits_lits r0 Nc wc) (by simp [nbits]) (by simp [nbits]) (by simp [nbits]) hn
  rw [List.nil_append] at e3 hr hls
  have hgt := hr.len
  rw [e3, bindS]
  simp only
  rw [aigRight_f hr hn, bindS]
  simp only [Bool.not_true, cond_false, cond_dec]
  have hw := ok.w
  rw [if_neg (by simp), if_neg (by omega), right14_f hr hls (by omega) hn, bindS]
  simp only [Bool.not_true, cond_false]
  obtain ⟨inp, e4, hinp⟩ := bits13_f (n := big) (l := x7) r0 hn
  rw [e4, bindS]
  simp only
  obtain ⟨Y, e5, hY, hM⟩ := eval_f (n := big) hr hinp hn
  have hlen : ((false :: inp) ++ Y).length = inp.length + 1 + t.length := by simp [hY]; omega
  generalize (false :: inp) ++ Y = V at e5 hM hlen
  have hlit : ∀ x ∈ l, 0 ≤ x ∧ x / 2 < (V.length : Int) ∧ x < 1000000 := fun x hx => by
    obtain ⟨q1, q2⟩ := hls x hx
    rw [hlen]
    exact ⟨q1, by omega, by omega⟩
  rw [e5, bindS]
  simp only
  rw [hlen, wrap_small (by omega) (by omega), if_neg (by omega)]
  simp only [cond_true]
  rw [num_f (by omega) hlit hn, bindS]
  have hv1 := hv V (by simpa using hM) 1
  rw [nbits_v hM na, nbits_v hM nb_, nbits_v hM nc] at hv1
  rw [rdo_f (m := 1) okn oka okb okc ok.k, hv1, bindS]
  simp
end Go.Proofs.Ytdnfbihppellkaa.Am
namespace Go.Proofs.Ytdnfbihppellkaa.Pure
open Go.Proofs.Ytdnfbihppellkaa.Am
theorem BlastConst (d : law14_BlastConst_s.I) (h : BAs law14_BlastConst_s.ar d fun _ => True) : ∃ n, law14_BlastConst n d.1 d.2.1 d.2.2.1 d.2.2.2.1 d.2.2.2.2.1 d.2.2.2.2.2.1 d.2.2.2.2.2.2.1 = some (true, ()) := by
  obtain ⟨h1, h2, h3, h4, h5, h6, -⟩ := h
  exact ⟨big, const14 h1 h2 h3 h4 h5 h6⟩
end Go.Proofs.Ytdnfbihppellkaa.Pure
