/- Own slices as slices that are read; nil slices as own ones; regions. -/
import Derived.Test.YtfjdhdmbbfeigaaAmN
namespace Go.Proofs.Ytfjdhdmbbfeigaa.Am
set_option linter.unusedVariables false
set_option linter.unusedSimpArgs false
def vwBlk (bl : Nat → Option Blk) (vw : List Nat) : Blk → Blk
  | .var ty cs => .var ty (cs.map (vwSV bl vw))
  | .tab l => .tab (l.map fun p => (vwSV bl vw p.1, vwCV bl vw p.2))
  | .lop k tm j => .lop k (tm.map fun p => (p.1, vwAV bl vw p.2)) j
  | B => B
theorem vwBlk_R {bl : Nat → Option Blk} {vw : List Nat} {w : World} {m : Mp} (hb : ∀ b B, bl b = some B → B.R w m b) {b : Nat} {B : Blk} (h : B.R w m b) : (vwBlk bl vw B).R w (m.vw bl vw) b := by
  have same := Blk.R_goes (goes_vw w m bl vw) trivial (fun _ => rfl) (fun _ _ => trivial) h
  cases B <;> simp only [vwBlk] <;> (try exact same)
  case var ty cs =>
    obtain ⟨h0, cells, h1, h2, h3⟩ := h
    exact ⟨h0, cells, h1, h2, F2.map _ (h3.imp fun _ _ r => vwSV_R hb r)⟩
  case tab l =>
    obtain ⟨h0, es, cl, h1, h2⟩ := h
    exact ⟨h0, es, cl, h1, F2.map _ (h2.imp fun _ _ r => ⟨vwSV_R hb r.1, vwCV_R hb r.2⟩)⟩
  case lop k tm j =>
    obtain ⟨h0, fn, tmps, df, h1, h2, h3⟩ := h
    refine ⟨h0, fn, tmps, df, h1, h2, fun p hp => ?_⟩
    obtain ⟨q, hq, rfl⟩ := List.mem_map.1 hp
    exact vwAV_R hb (h3 q hq)
def frzB (bl : Nat → Option Blk) (vw : List Nat) (n : Nat) (x : Option Blk) : Option Blk := match memN n vw with | true => none | false => x.map (vwBlk bl vw)
theorem lk_map {α β : Type} (f : Nat → α → β) : ∀ (l : List (Nat × α)) (k : Nat), lk (l.map fun p => (p.1, f p.1 p.2)) k = (lk l k).map (f k)
  | [], k => rfl
  | (n, x) :: r, k => by
    rw [List.map_cons, lk_cons, lk_cons, lk_map f r k]
    split
    · rename_i e; subst e; rfl
    · rfl
/-- Names of a state, listed. -/
def allNs (st : St) : List Nat := (st.env.flatMap fun p => p.2.ns) ++ st.blk.flatMap fun p => match p.2 with | some B => p.1 :: B.ns | none => []
theorem has_allNs {st : St} {b : Nat} (h : st.has b) : b ∈ allNs st := by
  rcases h with ⟨t, v, hv, hb⟩ | ⟨B, hB⟩ | ⟨c, B, hB, hb⟩
  · exact List.mem_append_left _ (List.mem_flatMap.2 ⟨_, lk_mem hv, hb⟩)
  all_goals
    unfold St.b at hB
    cases hl : lk st.blk _ with
    | none => rw [hl] at hB; cases hB
    | some x =>
      rw [hl] at hB
      simp only [Option.join_some] at hB
      subst hB
      exact List.mem_append_right _ (List.mem_flatMap.2 ⟨_, lk_mem hl, by simp_all⟩)
end Go.Proofs.Ytfjdhdmbbfeigaa.Am
