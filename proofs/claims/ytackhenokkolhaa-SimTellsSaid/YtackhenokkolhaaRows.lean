/-
  No cell of these rows narrows 'for every input' (looked for: loops, veiled, ifaces, maps, wideKeys, modest, calm, conditions, laid).
  DERIVED. THE GIVEN ROWS OF THIS SEAT. 7 by the template 'for every input the law returns true; each argument reads behind the call as it read before'; 0 by the template 'total and deterministic' (their statements: YtackhenokkolhaaTotals.lean).
  GIVEN WITH THE SEED: the statements are not yours to turn. If you find one false, say at which input.
  Laid BY PROGRAM, IN A SANDBOX (cutbox-rows.mjs): the forced cells as the released guide's own fill.sh prints them over the translation 16fc9c61817fe613… (all of the seat's roots in one cut). By AI agents, Wed Nov 11 2026. No macro, syntax, notation, axiom, sorry.
-/
import Derived.Test.YtackhenokkolhaaChecked
import GoSem.Claim
import GoSem.ClaimJoined
import GoSem.ClaimMapViews
import Derived.JoinedTies
import Derived.KernelRfl
namespace Go.Proofs.Ytackhenokkolhaa
/- THE CELL 'sum', in the pinned program and in every row, IS THE sha256 OF THE DUMP (.gsa) THAT YtackhenokkolhaaProg.lean LOADS. Nothing in Lean hashes anything: it is a label: what it is worth is what the hold of that sum in a sandbox is worth. -/
noncomputable def Try.pinned : Pinned := { name := "ytackhenokkolhaa", sum := "16fc9c61817fe613333baefe77b961170c28045046d7524650af51a065a71344", checked := Try.checked }
namespace Rows
def none {H : Type} : Left H := { results := [], args := [] }

/-- 'proofmarklaw11.SimTells': WHATEVER THE INPUT: true; the input reads as it did. -/
def simTellsSpec : ChangeSpec := { name := "simTells", fn := fun _ => fun
  | [d1, d2, d3, d4] => { results := [.lit (.bool true)], args := [d1, d2, d3, d4] }
  | _ => none }
def simTellsRow : OpenClaim := { program := "ytackhenokkolhaa", sum := "16fc9c61817fe613333baefe77b961170c28045046d7524650af51a065a71344", func := "proofmark/proofmarklaw11.SimTells", spec := "simTells", unfollowed := true, recurses := true, apart := false }
def SimTellsSaid : Prop := simTellsRow.holds Try.pinned (OpenSpec.ofChange simTellsSpec)

/-- ITS FALSE NEIGHBOUR: 'it returns false'. Refute it at one input. -/
def simTellsWrong : ChangeSpec := { name := "simTells", fn := fun _ => fun
  | [d1, d2, d3, d4] => { results := [.lit (.bool false)], args := [d1, d2, d3, d4] }
  | _ => none }
def SimTellsWrongFalsely : Prop := simTellsRow.holds Try.pinned (OpenSpec.ofChange simTellsWrong)

/-- 'proofmarklaw11.SimSteps': WHATEVER THE INPUT: true; the input reads as it did. -/
def simStepsSpec : ChangeSpec := { name := "simSteps", fn := fun _ => fun
  | [d1, d2] => { results := [.lit (.bool true)], args := [d1, d2] }
  | _ => none }
def simStepsRow : OpenClaim := { program := "ytackhenokkolhaa", sum := "16fc9c61817fe613333baefe77b961170c28045046d7524650af51a065a71344", func := "proofmark/proofmarklaw11.SimSteps", spec := "simSteps", unfollowed := true, recurses := true, apart := false }
def SimStepsSaid : Prop := simStepsRow.holds Try.pinned (OpenSpec.ofChange simStepsSpec)

/-- ITS FALSE NEIGHBOUR: 'it returns false'. Refute it at one input. -/
def simStepsWrong : ChangeSpec := { name := "simSteps", fn := fun _ => fun
  | [d1, d2] => { results := [.lit (.bool false)], args := [d1, d2] }
  | _ => none }
def SimStepsWrongFalsely : Prop := simStepsRow.holds Try.pinned (OpenSpec.ofChange simStepsWrong)

/-- 'proofmarklaw11.SimParts': WHATEVER THE INPUT: true; the input reads as it did. -/
def simPartsSpec : ChangeSpec := { name := "simParts", fn := fun _ => fun
  | [d1, d2, d3] => { results := [.lit (.bool true)], args := [d1, d2, d3] }
  | _ => none }
def simPartsRow : OpenClaim := { program := "ytackhenokkolhaa", sum := "16fc9c61817fe613333baefe77b961170c28045046d7524650af51a065a71344", func := "proofmark/proofmarklaw11.SimParts", spec := "simParts", unfollowed := true, recurses := true, apart := false }
def SimPartsSaid : Prop := simPartsRow.holds Try.pinned (OpenSpec.ofChange simPartsSpec)

/-- ITS FALSE NEIGHBOUR: 'it returns false'. Refute it at one input. -/
def simPartsWrong : ChangeSpec := { name := "simParts", fn := fun _ => fun
  | [d1, d2, d3] => { results := [.lit (.bool false)], args := [d1, d2, d3] }
  | _ => none }
def SimPartsWrongFalsely : Prop := simPartsRow.holds Try.pinned (OpenSpec.ofChange simPartsWrong)

/-- 'proofmarklaw11.SimCut': WHATEVER THE INPUT: true; the input reads as it did. -/
def simCutSpec : ChangeSpec := { name := "simCut", fn := fun _ => fun
  | [d1, d2, d3, d4] => { results := [.lit (.bool true)], args := [d1, d2, d3, d4] }
  | _ => none }
def simCutRow : OpenClaim := { program := "ytackhenokkolhaa", sum := "16fc9c61817fe613333baefe77b961170c28045046d7524650af51a065a71344", func := "proofmark/proofmarklaw11.SimCut", spec := "simCut", unfollowed := true, recurses := true, apart := false }
def SimCutSaid : Prop := simCutRow.holds Try.pinned (OpenSpec.ofChange simCutSpec)

/-- ITS FALSE NEIGHBOUR: 'it returns false'. Refute it at one input. -/
def simCutWrong : ChangeSpec := { name := "simCut", fn := fun _ => fun
  | [d1, d2, d3, d4] => { results := [.lit (.bool false)], args := [d1, d2, d3, d4] }
  | _ => none }
def SimCutWrongFalsely : Prop := simCutRow.holds Try.pinned (OpenSpec.ofChange simCutWrong)

/-- 'proofmarklaw11.SimHits': WHATEVER THE INPUT: true; the input reads as it did. -/
def simHitsSpec : ChangeSpec := { name := "simHits", fn := fun _ => fun
  | [d1, d2, d3] => { results := [.lit (.bool true)], args := [d1, d2, d3] }
  | _ => none }
def simHitsRow : OpenClaim := { program := "ytackhenokkolhaa", sum := "16fc9c61817fe613333baefe77b961170c28045046d7524650af51a065a71344", func := "proofmark/proofmarklaw11.SimHits", spec := "simHits", unfollowed := true, recurses := true, apart := false }
def SimHitsSaid : Prop := simHitsRow.holds Try.pinned (OpenSpec.ofChange simHitsSpec)

/-- ITS FALSE NEIGHBOUR: 'it returns false'. Refute it at one input. -/
def simHitsWrong : ChangeSpec := { name := "simHits", fn := fun _ => fun
  | [d1, d2, d3] => { results := [.lit (.bool false)], args := [d1, d2, d3] }
  | _ => none }
def SimHitsWrongFalsely : Prop := simHitsRow.holds Try.pinned (OpenSpec.ofChange simHitsWrong)

/-- 'proofmarklaw11.SimOdd': WHATEVER THE INPUT: true; the input reads as it did. -/
def simOddSpec : ChangeSpec := { name := "simOdd", fn := fun _ => fun
  | [d1, d2, d3, d4] => { results := [.lit (.bool true)], args := [d1, d2, d3, d4] }
  | _ => none }
def simOddRow : OpenClaim := { program := "ytackhenokkolhaa", sum := "16fc9c61817fe613333baefe77b961170c28045046d7524650af51a065a71344", func := "proofmark/proofmarklaw11.SimOdd", spec := "simOdd", unfollowed := true, recurses := true, apart := false }
def SimOddSaid : Prop := simOddRow.holds Try.pinned (OpenSpec.ofChange simOddSpec)

/-- ITS FALSE NEIGHBOUR: 'it returns false'. Refute it at one input. -/
def simOddWrong : ChangeSpec := { name := "simOdd", fn := fun _ => fun
  | [d1, d2, d3, d4] => { results := [.lit (.bool false)], args := [d1, d2, d3, d4] }
  | _ => none }
def SimOddWrongFalsely : Prop := simOddRow.holds Try.pinned (OpenSpec.ofChange simOddWrong)

/-- 'proofmarklaw11.SimLess': WHATEVER THE INPUT: true; the input reads as it did. -/
def simLessSpec : ChangeSpec := { name := "simLess", fn := fun _ => fun
  | [d1, d2, d3] => { results := [.lit (.bool true)], args := [d1, d2, d3] }
  | _ => none }
def simLessRow : OpenClaim := { program := "ytackhenokkolhaa", sum := "16fc9c61817fe613333baefe77b961170c28045046d7524650af51a065a71344", func := "proofmark/proofmarklaw11.SimLess", spec := "simLess", unfollowed := true, recurses := true, apart := false }
def SimLessSaid : Prop := simLessRow.holds Try.pinned (OpenSpec.ofChange simLessSpec)

/-- ITS FALSE NEIGHBOUR: 'it returns false'. Refute it at one input. -/
def simLessWrong : ChangeSpec := { name := "simLess", fn := fun _ => fun
  | [d1, d2, d3] => { results := [.lit (.bool false)], args := [d1, d2, d3] }
  | _ => none }
def SimLessWrongFalsely : Prop := simLessRow.holds Try.pinned (OpenSpec.ofChange simLessWrong)

/- THE SECOND FORM. 'bulk': how many values and letters a reading holds, each counted each time it is reached (what is shared counts as often as it is met; a slice's spare places count too). A statement '..UptoSaid' is the law's where the arguments, and the package variables that the reading takes, are together of bulk at most 1048576: NARROWER than '..Said'. Prove '..Said' where nothing that the law and all that it calls make is longer than what came in: it says more and counts as full. Else prove '..UptoSaid'. A law counts once. -/
mutual
def uptoBulk {H : Type} : DataW H → Nat
  | .lit (.string bytes) => bytes.length + 1
  | .lit _ => 1
  | .nil => 1
  | .ptr d => uptoBulk d + 1
  | .slice elems spare => uptoBulkAll elems + uptoBulkAll spare + 1
  | .agg parts => uptoBulkAll parts + 1
  | .iface _ d => uptoBulk d + 1
  | .map entries => uptoBulkEntries entries + 1
  | .held _ => 1
def uptoBulkAll {H : Type} : List (DataW H) → Nat
  | [] => 0
  | d :: r => uptoBulk d + uptoBulkAll r
def uptoBulkEntries {H : Type} : List (Lit × DataW H) → Nat
  | [] => 0
  | x :: r => uptoBulkEntry x + uptoBulkEntries r
def uptoBulkEntry {H : Type} : Lit × DataW H → Nat
  | (.string bytes, d) => bytes.length + uptoBulk d + 1
  | (_, d) => uptoBulk d + 1
 end
def uptoSmall : (H : Type) → List (DataW H) → Bool := fun _ ds => decide (uptoBulkAll ds ≤ 1048576)
def OpenSpec.upto (s : _root_.Go.ChangeSpec) : _root_.Go.OpenSpec := { _root_.Go.OpenSpec.ofChange s with cond := some uptoSmall }

/-- 'proofmarklaw11.SimTells', WHERE WHAT IT READS IS OF BULK AT MOST 1048576: true; the input reads as it did. -/
def simTellsUptoRow : OpenClaim := { program := "ytackhenokkolhaa", sum := "16fc9c61817fe613333baefe77b961170c28045046d7524650af51a065a71344", func := "proofmark/proofmarklaw11.SimTells", spec := "simTells", unfollowed := true, recurses := true, apart := false, narrowed := true }
def SimTellsUptoSaid : Prop := simTellsUptoRow.holds Try.pinned (OpenSpec.upto simTellsSpec)

/-- 'proofmarklaw11.SimSteps', WHERE WHAT IT READS IS OF BULK AT MOST 1048576: true; the input reads as it did. -/
def simStepsUptoRow : OpenClaim := { program := "ytackhenokkolhaa", sum := "16fc9c61817fe613333baefe77b961170c28045046d7524650af51a065a71344", func := "proofmark/proofmarklaw11.SimSteps", spec := "simSteps", unfollowed := true, recurses := true, apart := false, narrowed := true }
def SimStepsUptoSaid : Prop := simStepsUptoRow.holds Try.pinned (OpenSpec.upto simStepsSpec)

/-- 'proofmarklaw11.SimParts', WHERE WHAT IT READS IS OF BULK AT MOST 1048576: true; the input reads as it did. -/
def simPartsUptoRow : OpenClaim := { program := "ytackhenokkolhaa", sum := "16fc9c61817fe613333baefe77b961170c28045046d7524650af51a065a71344", func := "proofmark/proofmarklaw11.SimParts", spec := "simParts", unfollowed := true, recurses := true, apart := false, narrowed := true }
def SimPartsUptoSaid : Prop := simPartsUptoRow.holds Try.pinned (OpenSpec.upto simPartsSpec)

/-- 'proofmarklaw11.SimCut', WHERE WHAT IT READS IS OF BULK AT MOST 1048576: true; the input reads as it did. -/
def simCutUptoRow : OpenClaim := { program := "ytackhenokkolhaa", sum := "16fc9c61817fe613333baefe77b961170c28045046d7524650af51a065a71344", func := "proofmark/proofmarklaw11.SimCut", spec := "simCut", unfollowed := true, recurses := true, apart := false, narrowed := true }
def SimCutUptoSaid : Prop := simCutUptoRow.holds Try.pinned (OpenSpec.upto simCutSpec)

/-- 'proofmarklaw11.SimHits', WHERE WHAT IT READS IS OF BULK AT MOST 1048576: true; the input reads as it did. -/
def simHitsUptoRow : OpenClaim := { program := "ytackhenokkolhaa", sum := "16fc9c61817fe613333baefe77b961170c28045046d7524650af51a065a71344", func := "proofmark/proofmarklaw11.SimHits", spec := "simHits", unfollowed := true, recurses := true, apart := false, narrowed := true }
def SimHitsUptoSaid : Prop := simHitsUptoRow.holds Try.pinned (OpenSpec.upto simHitsSpec)

/-- 'proofmarklaw11.SimOdd', WHERE WHAT IT READS IS OF BULK AT MOST 1048576: true; the input reads as it did. -/
def simOddUptoRow : OpenClaim := { program := "ytackhenokkolhaa", sum := "16fc9c61817fe613333baefe77b961170c28045046d7524650af51a065a71344", func := "proofmark/proofmarklaw11.SimOdd", spec := "simOdd", unfollowed := true, recurses := true, apart := false, narrowed := true }
def SimOddUptoSaid : Prop := simOddUptoRow.holds Try.pinned (OpenSpec.upto simOddSpec)

/-- 'proofmarklaw11.SimLess', WHERE WHAT IT READS IS OF BULK AT MOST 1048576: true; the input reads as it did. -/
def simLessUptoRow : OpenClaim := { program := "ytackhenokkolhaa", sum := "16fc9c61817fe613333baefe77b961170c28045046d7524650af51a065a71344", func := "proofmark/proofmarklaw11.SimLess", spec := "simLess", unfollowed := true, recurses := true, apart := false, narrowed := true }
def SimLessUptoSaid : Prop := simLessUptoRow.holds Try.pinned (OpenSpec.upto simLessSpec)

end Rows
end Go.Proofs.Ytackhenokkolhaa
