/-
  No cell of these rows narrows 'for every input' (looked for: loops, veiled, ifaces, maps, wideKeys, modest, calm, conditions, laid).
  DERIVED. THE GIVEN ROWS OF THIS SEAT. 7 by the template 'for every input the law returns true; each argument reads behind the call as it read before'; 0 by the template 'total and deterministic' (their statements: YtdfbnlmjnollnaaTotals.lean).
  GIVEN WITH THE SEED: the statements are not yours to turn. If you find one false, say at which input.
  Laid BY PROGRAM, IN A SANDBOX (cutbox-rows.mjs): the forced cells as the released guide's own fill.sh prints them over the translation fd838d1dd83710a1… (all of the seat's roots in one cut). By AI agents, Wed Nov 11 2026. No macro, syntax, notation, axiom, sorry.
-/
import Derived.Test.YtdfbnlmjnollnaaChecked
import GoSem.Claim
import GoSem.ClaimJoined
import GoSem.ClaimMapViews
import Derived.JoinedTies
import Derived.KernelRfl
namespace Go.Proofs.Ytdfbnlmjnollnaa
/- THE CELL 'sum', in the pinned program and in every row, IS THE sha256 OF THE DUMP (.gsa) THAT YtdfbnlmjnollnaaProg.lean LOADS. Nothing in Lean hashes anything: it is a label: what it is worth is what the hold of that sum in a sandbox is worth. -/
noncomputable def Try.pinned : Pinned := { name := "ytdfbnlmjnollnaa", sum := "fd838d1dd83710a1a6f699cc85e3a2925f8b0a6d173e6b1bbb18e7460a33a3ac", checked := Try.checked }
namespace Rows
def none {H : Type} : Left H := { results := [], args := [] }

/-- 'proofmarklaw17.CnfTells': WHATEVER THE INPUT: true; the input reads as it did. -/
def cnfTellsSpec : ChangeSpec := { name := "cnfTells", fn := fun _ => fun
  | [d1, d2, d3, d4] => { results := [.lit (.bool true)], args := [d1, d2, d3, d4] }
  | _ => none }
def cnfTellsRow : OpenClaim := { program := "ytdfbnlmjnollnaa", sum := "fd838d1dd83710a1a6f699cc85e3a2925f8b0a6d173e6b1bbb18e7460a33a3ac", func := "proofmark/proofmarklaw17.CnfTells", spec := "cnfTells", unfollowed := true, recurses := true, apart := false }
def CnfTellsSaid : Prop := cnfTellsRow.holds Try.pinned (OpenSpec.ofChange cnfTellsSpec)

/-- ITS FALSE NEIGHBOUR: 'it returns false'. Refute it at one input. -/
def cnfTellsWrong : ChangeSpec := { name := "cnfTells", fn := fun _ => fun
  | [d1, d2, d3, d4] => { results := [.lit (.bool false)], args := [d1, d2, d3, d4] }
  | _ => none }
def CnfTellsWrongFalsely : Prop := cnfTellsRow.holds Try.pinned (OpenSpec.ofChange cnfTellsWrong)

/-- 'proofmarklaw17.CnfApart': WHATEVER THE INPUT: true; the input reads as it did. -/
def cnfApartSpec : ChangeSpec := { name := "cnfApart", fn := fun _ => fun
  | [d1, d2, d3] => { results := [.lit (.bool true)], args := [d1, d2, d3] }
  | _ => none }
def cnfApartRow : OpenClaim := { program := "ytdfbnlmjnollnaa", sum := "fd838d1dd83710a1a6f699cc85e3a2925f8b0a6d173e6b1bbb18e7460a33a3ac", func := "proofmark/proofmarklaw17.CnfApart", spec := "cnfApart", unfollowed := true, recurses := true, apart := false }
def CnfApartSaid : Prop := cnfApartRow.holds Try.pinned (OpenSpec.ofChange cnfApartSpec)

/-- ITS FALSE NEIGHBOUR: 'it returns false'. Refute it at one input. -/
def cnfApartWrong : ChangeSpec := { name := "cnfApart", fn := fun _ => fun
  | [d1, d2, d3] => { results := [.lit (.bool false)], args := [d1, d2, d3] }
  | _ => none }
def CnfApartWrongFalsely : Prop := cnfApartRow.holds Try.pinned (OpenSpec.ofChange cnfApartWrong)

/-- 'proofmarklaw17.CnfTurn': WHATEVER THE INPUT: true; the input reads as it did. -/
def cnfTurnSpec : ChangeSpec := { name := "cnfTurn", fn := fun _ => fun
  | [d1, d2, d3] => { results := [.lit (.bool true)], args := [d1, d2, d3] }
  | _ => none }
def cnfTurnRow : OpenClaim := { program := "ytdfbnlmjnollnaa", sum := "fd838d1dd83710a1a6f699cc85e3a2925f8b0a6d173e6b1bbb18e7460a33a3ac", func := "proofmark/proofmarklaw17.CnfTurn", spec := "cnfTurn", unfollowed := true, recurses := true, apart := false }
def CnfTurnSaid : Prop := cnfTurnRow.holds Try.pinned (OpenSpec.ofChange cnfTurnSpec)

/-- ITS FALSE NEIGHBOUR: 'it returns false'. Refute it at one input. -/
def cnfTurnWrong : ChangeSpec := { name := "cnfTurn", fn := fun _ => fun
  | [d1, d2, d3] => { results := [.lit (.bool false)], args := [d1, d2, d3] }
  | _ => none }
def CnfTurnWrongFalsely : Prop := cnfTurnRow.holds Try.pinned (OpenSpec.ofChange cnfTurnWrong)

/-- 'proofmarklaw17.CnfGrows': WHATEVER THE INPUT: true; the input reads as it did. -/
def cnfGrowsSpec : ChangeSpec := { name := "cnfGrows", fn := fun _ => fun
  | [d1, d2, d3, d4] => { results := [.lit (.bool true)], args := [d1, d2, d3, d4] }
  | _ => none }
def cnfGrowsRow : OpenClaim := { program := "ytdfbnlmjnollnaa", sum := "fd838d1dd83710a1a6f699cc85e3a2925f8b0a6d173e6b1bbb18e7460a33a3ac", func := "proofmark/proofmarklaw17.CnfGrows", spec := "cnfGrows", unfollowed := true, recurses := true, apart := false }
def CnfGrowsSaid : Prop := cnfGrowsRow.holds Try.pinned (OpenSpec.ofChange cnfGrowsSpec)

/-- ITS FALSE NEIGHBOUR: 'it returns false'. Refute it at one input. -/
def cnfGrowsWrong : ChangeSpec := { name := "cnfGrows", fn := fun _ => fun
  | [d1, d2, d3, d4] => { results := [.lit (.bool false)], args := [d1, d2, d3, d4] }
  | _ => none }
def CnfGrowsWrongFalsely : Prop := cnfGrowsRow.holds Try.pinned (OpenSpec.ofChange cnfGrowsWrong)

/-- 'proofmarklaw17.CnfMeets': WHATEVER THE INPUT: true; the input reads as it did. -/
def cnfMeetsSpec : ChangeSpec := { name := "cnfMeets", fn := fun _ => fun
  | [d1, d2, d3] => { results := [.lit (.bool true)], args := [d1, d2, d3] }
  | _ => none }
def cnfMeetsRow : OpenClaim := { program := "ytdfbnlmjnollnaa", sum := "fd838d1dd83710a1a6f699cc85e3a2925f8b0a6d173e6b1bbb18e7460a33a3ac", func := "proofmark/proofmarklaw17.CnfMeets", spec := "cnfMeets", unfollowed := true, recurses := true, apart := false }
def CnfMeetsSaid : Prop := cnfMeetsRow.holds Try.pinned (OpenSpec.ofChange cnfMeetsSpec)

/-- ITS FALSE NEIGHBOUR: 'it returns false'. Refute it at one input. -/
def cnfMeetsWrong : ChangeSpec := { name := "cnfMeets", fn := fun _ => fun
  | [d1, d2, d3] => { results := [.lit (.bool false)], args := [d1, d2, d3] }
  | _ => none }
def CnfMeetsWrongFalsely : Prop := cnfMeetsRow.holds Try.pinned (OpenSpec.ofChange cnfMeetsWrong)

/-- 'proofmarklaw17.CnfOnly': WHATEVER THE INPUT: true; the input reads as it did. -/
def cnfOnlySpec : ChangeSpec := { name := "cnfOnly", fn := fun _ => fun
  | [d1, d2, d3, d4] => { results := [.lit (.bool true)], args := [d1, d2, d3, d4] }
  | _ => none }
def cnfOnlyRow : OpenClaim := { program := "ytdfbnlmjnollnaa", sum := "fd838d1dd83710a1a6f699cc85e3a2925f8b0a6d173e6b1bbb18e7460a33a3ac", func := "proofmark/proofmarklaw17.CnfOnly", spec := "cnfOnly", unfollowed := true, recurses := true, apart := false }
def CnfOnlySaid : Prop := cnfOnlyRow.holds Try.pinned (OpenSpec.ofChange cnfOnlySpec)

/-- ITS FALSE NEIGHBOUR: 'it returns false'. Refute it at one input. -/
def cnfOnlyWrong : ChangeSpec := { name := "cnfOnly", fn := fun _ => fun
  | [d1, d2, d3, d4] => { results := [.lit (.bool false)], args := [d1, d2, d3, d4] }
  | _ => none }
def CnfOnlyWrongFalsely : Prop := cnfOnlyRow.holds Try.pinned (OpenSpec.ofChange cnfOnlyWrong)

/-- 'proofmarklaw17.CnfValue': WHATEVER THE INPUT: true; the input reads as it did. -/
def cnfValueSpec : ChangeSpec := { name := "cnfValue", fn := fun _ => fun
  | [d1, d2, d3, d4, d5] => { results := [.lit (.bool true)], args := [d1, d2, d3, d4, d5] }
  | _ => none }
def cnfValueRow : OpenClaim := { program := "ytdfbnlmjnollnaa", sum := "fd838d1dd83710a1a6f699cc85e3a2925f8b0a6d173e6b1bbb18e7460a33a3ac", func := "proofmark/proofmarklaw17.CnfValue", spec := "cnfValue", unfollowed := true, recurses := true, apart := false }
def CnfValueSaid : Prop := cnfValueRow.holds Try.pinned (OpenSpec.ofChange cnfValueSpec)

/-- ITS FALSE NEIGHBOUR: 'it returns false'. Refute it at one input. -/
def cnfValueWrong : ChangeSpec := { name := "cnfValue", fn := fun _ => fun
  | [d1, d2, d3, d4, d5] => { results := [.lit (.bool false)], args := [d1, d2, d3, d4, d5] }
  | _ => none }
def CnfValueWrongFalsely : Prop := cnfValueRow.holds Try.pinned (OpenSpec.ofChange cnfValueWrong)

/- THE SECOND FORM. 'bulk': how many values and letters a reading holds, each counted each time it is reached (what is shared counts as often as it is met; a slice's spare places count too). A statement '..UptoSaid' is the law's where the arguments, and the package variables that the reading takes, are together of bulk at most 1048576: NARROWER than '..Said'. Prove '..Said' where nothing that the law and all that it calls make is longer than what came in: it says more and counts as full. Else prove '..UptoSaid'. A law counts once. -/
mutual
def uptoBulk {H : Type} : DataW H → Nat
  | .lit (.string bytes) => bytes.length + 1
  | .lit _ => 1
  | .nil => 1
  | .ptr d => uptoBulk d + 1
  | .slice elems spare => uptoBulkAll elems + uptoBulkAll spare + 1
  | .agg parts => uptoBulkAll parts + 1
  | .iface _ d => uptoBulk d + 1
  | .map entries => uptoBulkEntries entries + 1
  | .held _ => 1
def uptoBulkAll {H : Type} : List (DataW H) → Nat
  | [] => 0
  | d :: r => uptoBulk d + uptoBulkAll r
def uptoBulkEntries {H : Type} : List (Lit × DataW H) → Nat
  | [] => 0
  | x :: r => uptoBulkEntry x + uptoBulkEntries r
def uptoBulkEntry {H : Type} : Lit × DataW H → Nat
  | (.string bytes, d) => bytes.length + uptoBulk d + 1
  | (_, d) => uptoBulk d + 1
 end
def uptoSmall : (H : Type) → List (DataW H) → Bool := fun _ ds => decide (uptoBulkAll ds ≤ 1048576)
def OpenSpec.upto (s : _root_.Go.ChangeSpec) : _root_.Go.OpenSpec := { _root_.Go.OpenSpec.ofChange s with cond := some uptoSmall }

/-- 'proofmarklaw17.CnfTells', WHERE WHAT IT READS IS OF BULK AT MOST 1048576: true; the input reads as it did. -/
def cnfTellsUptoRow : OpenClaim := { program := "ytdfbnlmjnollnaa", sum := "fd838d1dd83710a1a6f699cc85e3a2925f8b0a6d173e6b1bbb18e7460a33a3ac", func := "proofmark/proofmarklaw17.CnfTells", spec := "cnfTells", unfollowed := true, recurses := true, apart := false, narrowed := true }
def CnfTellsUptoSaid : Prop := cnfTellsUptoRow.holds Try.pinned (OpenSpec.upto cnfTellsSpec)

/-- 'proofmarklaw17.CnfApart', WHERE WHAT IT READS IS OF BULK AT MOST 1048576: true; the input reads as it did. -/
def cnfApartUptoRow : OpenClaim := { program := "ytdfbnlmjnollnaa", sum := "fd838d1dd83710a1a6f699cc85e3a2925f8b0a6d173e6b1bbb18e7460a33a3ac", func := "proofmark/proofmarklaw17.CnfApart", spec := "cnfApart", unfollowed := true, recurses := true, apart := false, narrowed := true }
def CnfApartUptoSaid : Prop := cnfApartUptoRow.holds Try.pinned (OpenSpec.upto cnfApartSpec)

/-- 'proofmarklaw17.CnfTurn', WHERE WHAT IT READS IS OF BULK AT MOST 1048576: true; the input reads as it did. -/
def cnfTurnUptoRow : OpenClaim := { program := "ytdfbnlmjnollnaa", sum := "fd838d1dd83710a1a6f699cc85e3a2925f8b0a6d173e6b1bbb18e7460a33a3ac", func := "proofmark/proofmarklaw17.CnfTurn", spec := "cnfTurn", unfollowed := true, recurses := true, apart := false, narrowed := true }
def CnfTurnUptoSaid : Prop := cnfTurnUptoRow.holds Try.pinned (OpenSpec.upto cnfTurnSpec)

/-- 'proofmarklaw17.CnfGrows', WHERE WHAT IT READS IS OF BULK AT MOST 1048576: true; the input reads as it did. -/
def cnfGrowsUptoRow : OpenClaim := { program := "ytdfbnlmjnollnaa", sum := "fd838d1dd83710a1a6f699cc85e3a2925f8b0a6d173e6b1bbb18e7460a33a3ac", func := "proofmark/proofmarklaw17.CnfGrows", spec := "cnfGrows", unfollowed := true, recurses := true, apart := false, narrowed := true }
def CnfGrowsUptoSaid : Prop := cnfGrowsUptoRow.holds Try.pinned (OpenSpec.upto cnfGrowsSpec)

/-- 'proofmarklaw17.CnfMeets', WHERE WHAT IT READS IS OF BULK AT MOST 1048576: true; the input reads as it did. -/
def cnfMeetsUptoRow : OpenClaim := { program := "ytdfbnlmjnollnaa", sum := "fd838d1dd83710a1a6f699cc85e3a2925f8b0a6d173e6b1bbb18e7460a33a3ac", func := "proofmark/proofmarklaw17.CnfMeets", spec := "cnfMeets", unfollowed := true, recurses := true, apart := false, narrowed := true }
def CnfMeetsUptoSaid : Prop := cnfMeetsUptoRow.holds Try.pinned (OpenSpec.upto cnfMeetsSpec)

/-- 'proofmarklaw17.CnfOnly', WHERE WHAT IT READS IS OF BULK AT MOST 1048576: true; the input reads as it did. -/
def cnfOnlyUptoRow : OpenClaim := { program := "ytdfbnlmjnollnaa", sum := "fd838d1dd83710a1a6f699cc85e3a2925f8b0a6d173e6b1bbb18e7460a33a3ac", func := "proofmark/proofmarklaw17.CnfOnly", spec := "cnfOnly", unfollowed := true, recurses := true, apart := false, narrowed := true }
def CnfOnlyUptoSaid : Prop := cnfOnlyUptoRow.holds Try.pinned (OpenSpec.upto cnfOnlySpec)

/-- 'proofmarklaw17.CnfValue', WHERE WHAT IT READS IS OF BULK AT MOST 1048576: true; the input reads as it did. -/
def cnfValueUptoRow : OpenClaim := { program := "ytdfbnlmjnollnaa", sum := "fd838d1dd83710a1a6f699cc85e3a2925f8b0a6d173e6b1bbb18e7460a33a3ac", func := "proofmark/proofmarklaw17.CnfValue", spec := "cnfValue", unfollowed := true, recurses := true, apart := false, narrowed := true }
def CnfValueUptoSaid : Prop := cnfValueUptoRow.holds Try.pinned (OpenSpec.upto cnfValueSpec)

end Rows
end Go.Proofs.Ytdfbnlmjnollnaa
