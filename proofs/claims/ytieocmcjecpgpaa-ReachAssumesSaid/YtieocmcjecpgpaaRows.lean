/-
  No cell of these rows narrows 'for every input' (looked for: loops, veiled, ifaces, maps, wideKeys, modest, calm, conditions, laid).
  DERIVED. THE GIVEN ROWS OF THIS SEAT. 6 by the template 'for every input the law returns true; each argument reads behind the call as it read before'; 0 by the template 'total and deterministic' (their statements: YtieocmcjecpgpaaTotals.lean).
  GIVEN WITH THE SEED: the statements are not yours to turn. If you find one false, say at which input.
  Laid BY PROGRAM, IN A SANDBOX (cutbox-rows.mjs): the forced cells as the released guide's own fill.sh prints them over the translation e61398769ce14e63… (all of the seat's roots in one cut). By AI agents, Wed Nov 11 2026. No macro, syntax, notation, axiom, sorry.
-/
import Derived.Test.YtieocmcjecpgpaaChecked
import GoSem.Claim
import GoSem.ClaimJoined
import GoSem.ClaimMapViews
import Derived.JoinedTies
import Derived.KernelRfl
namespace Go.Proofs.Ytieocmcjecpgpaa
/- THE CELL 'sum', in the pinned program and in every row, IS THE sha256 OF THE DUMP (.gsa) THAT YtieocmcjecpgpaaProg.lean LOADS. Nothing in Lean hashes anything: it is a label: what it is worth is what the hold of that sum in a sandbox is worth. -/
noncomputable def Try.pinned : Pinned := { name := "ytieocmcjecpgpaa", sum := "e61398769ce14e6388ba891191b41204e0e41d08adc586a8b5fb7694ddca5dc0", checked := Try.checked }
namespace Rows
def none {H : Type} : Left H := { results := [], args := [] }

/-- 'proofmarklaw12.ReachTells': WHATEVER THE INPUT: true; the input reads as it did. -/
def reachTellsSpec : ChangeSpec := { name := "reachTells", fn := fun _ => fun
  | [d1, d2] => { results := [.lit (.bool true)], args := [d1, d2] }
  | _ => none }
def reachTellsRow : OpenClaim := { program := "ytieocmcjecpgpaa", sum := "e61398769ce14e6388ba891191b41204e0e41d08adc586a8b5fb7694ddca5dc0", func := "proofmark/proofmarklaw12.ReachTells", spec := "reachTells", unfollowed := true, recurses := true, plainKeys := false, apart := false }
def ReachTellsSaid : Prop := reachTellsRow.holds Try.pinned (OpenSpec.ofChange reachTellsSpec)

/-- ITS FALSE NEIGHBOUR: 'it returns false'. Refute it at one input. -/
def reachTellsWrong : ChangeSpec := { name := "reachTells", fn := fun _ => fun
  | [d1, d2] => { results := [.lit (.bool false)], args := [d1, d2] }
  | _ => none }
def ReachTellsWrongFalsely : Prop := reachTellsRow.holds Try.pinned (OpenSpec.ofChange reachTellsWrong)

/-- 'proofmarklaw12.ReachTurned': WHATEVER THE INPUT: true; the input reads as it did. -/
def reachTurnedSpec : ChangeSpec := { name := "reachTurned", fn := fun _ => fun
  | [d1, d2] => { results := [.lit (.bool true)], args := [d1, d2] }
  | _ => none }
def reachTurnedRow : OpenClaim := { program := "ytieocmcjecpgpaa", sum := "e61398769ce14e6388ba891191b41204e0e41d08adc586a8b5fb7694ddca5dc0", func := "proofmark/proofmarklaw12.ReachTurned", spec := "reachTurned", unfollowed := true, recurses := true, plainKeys := false, apart := false }
def ReachTurnedSaid : Prop := reachTurnedRow.holds Try.pinned (OpenSpec.ofChange reachTurnedSpec)

/-- ITS FALSE NEIGHBOUR: 'it returns false'. Refute it at one input. -/
def reachTurnedWrong : ChangeSpec := { name := "reachTurned", fn := fun _ => fun
  | [d1, d2] => { results := [.lit (.bool false)], args := [d1, d2] }
  | _ => none }
def ReachTurnedWrongFalsely : Prop := reachTurnedRow.holds Try.pinned (OpenSpec.ofChange reachTurnedWrong)

/-- 'proofmarklaw12.ReachAssumes': WHATEVER THE INPUT: true; the input reads as it did. -/
def reachAssumesSpec : ChangeSpec := { name := "reachAssumes", fn := fun _ => fun
  | [d1, d2, d3] => { results := [.lit (.bool true)], args := [d1, d2, d3] }
  | _ => none }
def reachAssumesRow : OpenClaim := { program := "ytieocmcjecpgpaa", sum := "e61398769ce14e6388ba891191b41204e0e41d08adc586a8b5fb7694ddca5dc0", func := "proofmark/proofmarklaw12.ReachAssumes", spec := "reachAssumes", unfollowed := true, recurses := true, plainKeys := false, apart := false }
def ReachAssumesSaid : Prop := reachAssumesRow.holds Try.pinned (OpenSpec.ofChange reachAssumesSpec)

/-- ITS FALSE NEIGHBOUR: 'it returns false'. Refute it at one input. -/
def reachAssumesWrong : ChangeSpec := { name := "reachAssumes", fn := fun _ => fun
  | [d1, d2, d3] => { results := [.lit (.bool false)], args := [d1, d2, d3] }
  | _ => none }
def ReachAssumesWrongFalsely : Prop := reachAssumesRow.holds Try.pinned (OpenSpec.ofChange reachAssumesWrong)

/-- 'proofmarklaw12.ReachTrace': WHATEVER THE INPUT: true; the input reads as it did. -/
def reachTraceSpec : ChangeSpec := { name := "reachTrace", fn := fun _ => fun
  | [d1, d2, d3] => { results := [.lit (.bool true)], args := [d1, d2, d3] }
  | _ => none }
def reachTraceRow : OpenClaim := { program := "ytieocmcjecpgpaa", sum := "e61398769ce14e6388ba891191b41204e0e41d08adc586a8b5fb7694ddca5dc0", func := "proofmark/proofmarklaw12.ReachTrace", spec := "reachTrace", unfollowed := true, recurses := true, plainKeys := false, apart := false }
def ReachTraceSaid : Prop := reachTraceRow.holds Try.pinned (OpenSpec.ofChange reachTraceSpec)

/-- ITS FALSE NEIGHBOUR: 'it returns false'. Refute it at one input. -/
def reachTraceWrong : ChangeSpec := { name := "reachTrace", fn := fun _ => fun
  | [d1, d2, d3] => { results := [.lit (.bool false)], args := [d1, d2, d3] }
  | _ => none }
def ReachTraceWrongFalsely : Prop := reachTraceRow.holds Try.pinned (OpenSpec.ofChange reachTraceWrong)

/-- 'proofmarklaw12.ReachNever': WHATEVER THE INPUT: true; the input reads as it did. -/
def reachNeverSpec : ChangeSpec := { name := "reachNever", fn := fun _ => fun
  | [d1, d2, d3] => { results := [.lit (.bool true)], args := [d1, d2, d3] }
  | _ => none }
def reachNeverRow : OpenClaim := { program := "ytieocmcjecpgpaa", sum := "e61398769ce14e6388ba891191b41204e0e41d08adc586a8b5fb7694ddca5dc0", func := "proofmark/proofmarklaw12.ReachNever", spec := "reachNever", unfollowed := true, recurses := true, plainKeys := false, apart := false }
def ReachNeverSaid : Prop := reachNeverRow.holds Try.pinned (OpenSpec.ofChange reachNeverSpec)

/-- ITS FALSE NEIGHBOUR: 'it returns false'. Refute it at one input. -/
def reachNeverWrong : ChangeSpec := { name := "reachNever", fn := fun _ => fun
  | [d1, d2, d3] => { results := [.lit (.bool false)], args := [d1, d2, d3] }
  | _ => none }
def ReachNeverWrongFalsely : Prop := reachNeverRow.holds Try.pinned (OpenSpec.ofChange reachNeverWrong)

/-- 'proofmarklaw12.ReachMany': WHATEVER THE INPUT: true; the input reads as it did. -/
def reachManySpec : ChangeSpec := { name := "reachMany", fn := fun _ => fun
  | [d1, d2, d3] => { results := [.lit (.bool true)], args := [d1, d2, d3] }
  | _ => none }
def reachManyRow : OpenClaim := { program := "ytieocmcjecpgpaa", sum := "e61398769ce14e6388ba891191b41204e0e41d08adc586a8b5fb7694ddca5dc0", func := "proofmark/proofmarklaw12.ReachMany", spec := "reachMany", unfollowed := true, recurses := true, plainKeys := false, apart := false }
def ReachManySaid : Prop := reachManyRow.holds Try.pinned (OpenSpec.ofChange reachManySpec)

/-- ITS FALSE NEIGHBOUR: 'it returns false'. Refute it at one input. -/
def reachManyWrong : ChangeSpec := { name := "reachMany", fn := fun _ => fun
  | [d1, d2, d3] => { results := [.lit (.bool false)], args := [d1, d2, d3] }
  | _ => none }
def ReachManyWrongFalsely : Prop := reachManyRow.holds Try.pinned (OpenSpec.ofChange reachManyWrong)

/- THE SECOND FORM. 'bulk': how many values and letters a reading holds, each counted each time it is reached (what is shared counts as often as it is met; a slice's spare places count too). A statement '..UptoSaid' is the law's where the arguments, and the package variables that the reading takes, are together of bulk at most 1048576: NARROWER than '..Said'. Prove '..Said' where nothing that the law and all that it calls make is longer than what came in: it says more and counts as full. Else prove '..UptoSaid'. A law counts once. -/
mutual
def uptoBulk {H : Type} : DataW H → Nat
  | .lit (.string bytes) => bytes.length + 1
  | .lit _ => 1
  | .nil => 1
  | .ptr d => uptoBulk d + 1
  | .slice elems spare => uptoBulkAll elems + uptoBulkAll spare + 1
  | .agg parts => uptoBulkAll parts + 1
  | .iface _ d => uptoBulk d + 1
  | .map entries => uptoBulkEntries entries + 1
  | .held _ => 1
def uptoBulkAll {H : Type} : List (DataW H) → Nat
  | [] => 0
  | d :: r => uptoBulk d + uptoBulkAll r
def uptoBulkEntries {H : Type} : List (Lit × DataW H) → Nat
  | [] => 0
  | x :: r => uptoBulkEntry x + uptoBulkEntries r
def uptoBulkEntry {H : Type} : Lit × DataW H → Nat
  | (.string bytes, d) => bytes.length + uptoBulk d + 1
  | (_, d) => uptoBulk d + 1
 end
def uptoSmall : (H : Type) → List (DataW H) → Bool := fun _ ds => decide (uptoBulkAll ds ≤ 1048576)
def OpenSpec.upto (s : _root_.Go.ChangeSpec) : _root_.Go.OpenSpec := { _root_.Go.OpenSpec.ofChange s with cond := some uptoSmall }

/-- 'proofmarklaw12.ReachTells', WHERE WHAT IT READS IS OF BULK AT MOST 1048576: true; the input reads as it did. -/
def reachTellsUptoRow : OpenClaim := { program := "ytieocmcjecpgpaa", sum := "e61398769ce14e6388ba891191b41204e0e41d08adc586a8b5fb7694ddca5dc0", func := "proofmark/proofmarklaw12.ReachTells", spec := "reachTells", unfollowed := true, recurses := true, plainKeys := false, apart := false, narrowed := true }
def ReachTellsUptoSaid : Prop := reachTellsUptoRow.holds Try.pinned (OpenSpec.upto reachTellsSpec)

/-- 'proofmarklaw12.ReachTurned', WHERE WHAT IT READS IS OF BULK AT MOST 1048576: true; the input reads as it did. -/
def reachTurnedUptoRow : OpenClaim := { program := "ytieocmcjecpgpaa", sum := "e61398769ce14e6388ba891191b41204e0e41d08adc586a8b5fb7694ddca5dc0", func := "proofmark/proofmarklaw12.ReachTurned", spec := "reachTurned", unfollowed := true, recurses := true, plainKeys := false, apart := false, narrowed := true }
def ReachTurnedUptoSaid : Prop := reachTurnedUptoRow.holds Try.pinned (OpenSpec.upto reachTurnedSpec)

/-- 'proofmarklaw12.ReachAssumes', WHERE WHAT IT READS IS OF BULK AT MOST 1048576: true; the input reads as it did. -/
def reachAssumesUptoRow : OpenClaim := { program := "ytieocmcjecpgpaa", sum := "e61398769ce14e6388ba891191b41204e0e41d08adc586a8b5fb7694ddca5dc0", func := "proofmark/proofmarklaw12.ReachAssumes", spec := "reachAssumes", unfollowed := true, recurses := true, plainKeys := false, apart := false, narrowed := true }
def ReachAssumesUptoSaid : Prop := reachAssumesUptoRow.holds Try.pinned (OpenSpec.upto reachAssumesSpec)

/-- 'proofmarklaw12.ReachTrace', WHERE WHAT IT READS IS OF BULK AT MOST 1048576: true; the input reads as it did. -/
def reachTraceUptoRow : OpenClaim := { program := "ytieocmcjecpgpaa", sum := "e61398769ce14e6388ba891191b41204e0e41d08adc586a8b5fb7694ddca5dc0", func := "proofmark/proofmarklaw12.ReachTrace", spec := "reachTrace", unfollowed := true, recurses := true, plainKeys := false, apart := false, narrowed := true }
def ReachTraceUptoSaid : Prop := reachTraceUptoRow.holds Try.pinned (OpenSpec.upto reachTraceSpec)

/-- 'proofmarklaw12.ReachNever', WHERE WHAT IT READS IS OF BULK AT MOST 1048576: true; the input reads as it did. -/
def reachNeverUptoRow : OpenClaim := { program := "ytieocmcjecpgpaa", sum := "e61398769ce14e6388ba891191b41204e0e41d08adc586a8b5fb7694ddca5dc0", func := "proofmark/proofmarklaw12.ReachNever", spec := "reachNever", unfollowed := true, recurses := true, plainKeys := false, apart := false, narrowed := true }
def ReachNeverUptoSaid : Prop := reachNeverUptoRow.holds Try.pinned (OpenSpec.upto reachNeverSpec)

/-- 'proofmarklaw12.ReachMany', WHERE WHAT IT READS IS OF BULK AT MOST 1048576: true; the input reads as it did. -/
def reachManyUptoRow : OpenClaim := { program := "ytieocmcjecpgpaa", sum := "e61398769ce14e6388ba891191b41204e0e41d08adc586a8b5fb7694ddca5dc0", func := "proofmark/proofmarklaw12.ReachMany", spec := "reachMany", unfollowed := true, recurses := true, plainKeys := false, apart := false, narrowed := true }
def ReachManyUptoSaid : Prop := reachManyUptoRow.holds Try.pinned (OpenSpec.upto reachManySpec)

end Rows
end Go.Proofs.Ytieocmcjecpgpaa
