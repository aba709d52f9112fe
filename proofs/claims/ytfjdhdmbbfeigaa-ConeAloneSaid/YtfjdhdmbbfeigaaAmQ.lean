/- Regions. -/
import Derived.Test.YtfjdhdmbbfeigaaAmP
namespace Go.Proofs.Ytfjdhdmbbfeigaa.Am
set_option linter.unusedVariables false
set_option linter.unusedSimpArgs false
theorem blt_of {a b : Nat} (h : Nat.blt a b = true) : a < b := by rwa [Nat.blt_eq] at h
theorem step1_c {P : Program} {ops : Array Oper} {an : An} {nm : Nat} {o : Oper} {env : Nat → Option AV} {bl : Nat → Option Blk} {out : Out} (h : step1 P ops an nm o env bl = some out) (ht : (triv an o || !(wantedIs ops o env)) = true) : out.c := by
  have run : stp P an nm o (evO env) bl = some out → wantedIs ops o env = true → out.c := fun h hw => by
    rw [hw] at ht
    simp only [Bool.not_true, Bool.or_false] at ht
    exact stp_triv h ht
  unfold step1 at h
  split at h
  · rename_i hg
    exact run h (by simp [wantedIs, hg])
  · rename_i j want hg
    split at h <;> (try cases h)
    rename_i oj hj
    split at h <;> (try cases h)
    rename_i t ht'
    split at h
    · rename_i b hb
      cases b <;> cases want <;> simp only at h
      · exact run h (by simp [wantedIs, hg, hj, ht', hb])
      · cases h; trivial
      · cases h; trivial
      · exact run h (by simp [wantedIs, hg, hj, ht', hb])
    · cases h; trivial
    · cases h
theorem app_has {st : St} {d : Option Nat} {o : Out} {b : Nat} (h : (st.app d o).has b) : st.has b ∨ b ∈ outNs o := by
  have blk : ∀ c B, (st.app d o).b c = some B → st.b c = some B ∨ (c, some B) ∈ o.ub := fun c B hB => by
    unfold St.app at hB
    rw [St.put_b, setbs_b] at hB
    cases hl : lk o.ub.reverse c with
    | none => rw [hl] at hB; exact .inl hB
    | some x =>
      rw [hl] at hB
      simp only at hB
      subst hB
      exact .inr (List.mem_reverse.1 (lk_mem hl))
  rcases h with ⟨t, v, hv, hb⟩ | ⟨B, hB⟩ | ⟨c, B, hB, hb⟩
  · unfold St.app at hv
    cases d with
    | none =>
      have : (st.setbs o.ub).e t = some v := by cases hov : o.v <;> (rw [hov] at hv; exact hv)
      rw [setbs_e] at this
      exact .inl (.inl ⟨t, v, this, hb⟩)
    | some d =>
      rw [St.put_e] at hv
      split at hv
      · refine .inr (List.mem_append_left _ ?_)
        rw [hv]
        exact hb
      · rw [setbs_e] at hv
        exact .inl (.inl ⟨t, v, hv, hb⟩)
  · rcases blk b B hB with h | h
    · exact .inl (.inr (.inl ⟨B, h⟩))
    · exact .inr (List.mem_append_right _ (List.mem_flatMap.2 ⟨_, h, List.mem_cons_self⟩))
  · rcases blk c B hB with h | h
    · exact .inl (.inr (.inr ⟨c, B, h, hb⟩))
    · exact .inr (List.mem_append_right _ (List.mem_flatMap.2 ⟨_, h, List.mem_cons_of_mem _ hb⟩))
end Go.Proofs.Ytfjdhdmbbfeigaa.Am
