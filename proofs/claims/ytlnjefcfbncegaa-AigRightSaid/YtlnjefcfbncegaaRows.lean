/-
  No cell of these rows narrows 'for every input' (looked for: loops, veiled, ifaces, maps, wideKeys, modest, calm, conditions, laid).
  DERIVED. THE GIVEN ROWS OF THIS SEAT. 7 by the template 'for every input the law returns true; each argument reads behind the call as it read before'; 0 by the template 'total and deterministic' (their statements: YtlnjefcfbncegaaTotals.lean).
  GIVEN WITH THE SEED: the statements are not yours to turn. If you find one false, say at which input.
  Laid BY PROGRAM, IN A SANDBOX (cutbox-rows.mjs): the forced cells as the released guide's own fill.sh prints them over the translation 253f6894ed88998b… (all of the seat's roots in one cut). By AI agents, Wed Nov 11 2026. No macro, syntax, notation, axiom, sorry.
-/
import Derived.Test.YtlnjefcfbncegaaChecked
import GoSem.Claim
import GoSem.ClaimJoined
import GoSem.ClaimMapViews
import Derived.JoinedTies
import Derived.KernelRfl
namespace Go.Proofs.Ytlnjefcfbncegaa
/- THE CELL 'sum', in the pinned program and in every row, IS THE sha256 OF THE DUMP (.gsa) THAT YtlnjefcfbncegaaProg.lean LOADS. Nothing in Lean hashes anything: it is a label: what it is worth is what the hold of that sum in a sandbox is worth. -/
noncomputable def Try.pinned : Pinned := { name := "ytlnjefcfbncegaa", sum := "253f6894ed88998b7a731c3e56f9601deed4d4e557897b822f844c0555ccc31d", checked := Try.checked }
namespace Rows
def none {H : Type} : Left H := { results := [], args := [] }

/-- 'proofmarklaw13.AigTells': WHATEVER THE INPUT: true; the input reads as it did. -/
def aigTellsSpec : ChangeSpec := { name := "aigTells", fn := fun _ => fun
  | [d1, d2, d3, d4, d5] => { results := [.lit (.bool true)], args := [d1, d2, d3, d4, d5] }
  | _ => none }
def aigTellsRow : OpenClaim := { program := "ytlnjefcfbncegaa", sum := "253f6894ed88998b7a731c3e56f9601deed4d4e557897b822f844c0555ccc31d", func := "proofmark/proofmarklaw13.AigTells", spec := "aigTells", unfollowed := true, recurses := true, plainKeys := false, apart := false }
def AigTellsSaid : Prop := aigTellsRow.holds Try.pinned (OpenSpec.ofChange aigTellsSpec)

/-- ITS FALSE NEIGHBOUR: 'it returns false'. Refute it at one input. -/
def aigTellsWrong : ChangeSpec := { name := "aigTells", fn := fun _ => fun
  | [d1, d2, d3, d4, d5] => { results := [.lit (.bool false)], args := [d1, d2, d3, d4, d5] }
  | _ => none }
def AigTellsWrongFalsely : Prop := aigTellsRow.holds Try.pinned (OpenSpec.ofChange aigTellsWrong)

/-- 'proofmarklaw13.AigMeans': WHATEVER THE INPUT: true; the input reads as it did. -/
def aigMeansSpec : ChangeSpec := { name := "aigMeans", fn := fun _ => fun
  | [d1, d2, d3, d4] => { results := [.lit (.bool true)], args := [d1, d2, d3, d4] }
  | _ => none }
def aigMeansRow : OpenClaim := { program := "ytlnjefcfbncegaa", sum := "253f6894ed88998b7a731c3e56f9601deed4d4e557897b822f844c0555ccc31d", func := "proofmark/proofmarklaw13.AigMeans", spec := "aigMeans", unfollowed := true, recurses := true, plainKeys := false, apart := false }
def AigMeansSaid : Prop := aigMeansRow.holds Try.pinned (OpenSpec.ofChange aigMeansSpec)

/-- ITS FALSE NEIGHBOUR: 'it returns false'. Refute it at one input. -/
def aigMeansWrong : ChangeSpec := { name := "aigMeans", fn := fun _ => fun
  | [d1, d2, d3, d4] => { results := [.lit (.bool false)], args := [d1, d2, d3, d4] }
  | _ => none }
def AigMeansWrongFalsely : Prop := aigMeansRow.holds Try.pinned (OpenSpec.ofChange aigMeansWrong)

/-- 'proofmarklaw13.AigRight': WHATEVER THE INPUT: true; the input reads as it did. -/
def aigRightSpec : ChangeSpec := { name := "aigRight", fn := fun _ => fun
  | [d1, d2, d3] => { results := [.lit (.bool true)], args := [d1, d2, d3] }
  | _ => none }
def aigRightRow : OpenClaim := { program := "ytlnjefcfbncegaa", sum := "253f6894ed88998b7a731c3e56f9601deed4d4e557897b822f844c0555ccc31d", func := "proofmark/proofmarklaw13.AigRight", spec := "aigRight", unfollowed := true, recurses := true, plainKeys := false, apart := false }
def AigRightSaid : Prop := aigRightRow.holds Try.pinned (OpenSpec.ofChange aigRightSpec)

/-- ITS FALSE NEIGHBOUR: 'it returns false'. Refute it at one input. -/
def aigRightWrong : ChangeSpec := { name := "aigRight", fn := fun _ => fun
  | [d1, d2, d3] => { results := [.lit (.bool false)], args := [d1, d2, d3] }
  | _ => none }
def AigRightWrongFalsely : Prop := aigRightRow.holds Try.pinned (OpenSpec.ofChange aigRightWrong)

/-- 'proofmarklaw13.AigShared': WHATEVER THE INPUT: true; the input reads as it did. -/
def aigSharedSpec : ChangeSpec := { name := "aigShared", fn := fun _ => fun
  | [d1, d2, d3] => { results := [.lit (.bool true)], args := [d1, d2, d3] }
  | _ => none }
def aigSharedRow : OpenClaim := { program := "ytlnjefcfbncegaa", sum := "253f6894ed88998b7a731c3e56f9601deed4d4e557897b822f844c0555ccc31d", func := "proofmark/proofmarklaw13.AigShared", spec := "aigShared", unfollowed := true, recurses := true, plainKeys := false, apart := false }
def AigSharedSaid : Prop := aigSharedRow.holds Try.pinned (OpenSpec.ofChange aigSharedSpec)

/-- ITS FALSE NEIGHBOUR: 'it returns false'. Refute it at one input. -/
def aigSharedWrong : ChangeSpec := { name := "aigShared", fn := fun _ => fun
  | [d1, d2, d3] => { results := [.lit (.bool false)], args := [d1, d2, d3] }
  | _ => none }
def AigSharedWrongFalsely : Prop := aigSharedRow.holds Try.pinned (OpenSpec.ofChange aigSharedWrong)

/-- 'proofmarklaw13.AigPlain': WHATEVER THE INPUT: true; the input reads as it did. -/
def aigPlainSpec : ChangeSpec := { name := "aigPlain", fn := fun _ => fun
  | [d1, d2, d3, d4] => { results := [.lit (.bool true)], args := [d1, d2, d3, d4] }
  | _ => none }
def aigPlainRow : OpenClaim := { program := "ytlnjefcfbncegaa", sum := "253f6894ed88998b7a731c3e56f9601deed4d4e557897b822f844c0555ccc31d", func := "proofmark/proofmarklaw13.AigPlain", spec := "aigPlain", unfollowed := true, recurses := true, plainKeys := false, apart := false }
def AigPlainSaid : Prop := aigPlainRow.holds Try.pinned (OpenSpec.ofChange aigPlainSpec)

/-- ITS FALSE NEIGHBOUR: 'it returns false'. Refute it at one input. -/
def aigPlainWrong : ChangeSpec := { name := "aigPlain", fn := fun _ => fun
  | [d1, d2, d3, d4] => { results := [.lit (.bool false)], args := [d1, d2, d3, d4] }
  | _ => none }
def AigPlainWrongFalsely : Prop := aigPlainRow.holds Try.pinned (OpenSpec.ofChange aigPlainWrong)

/-- 'proofmarklaw13.AigOdd': WHATEVER THE INPUT: true; the input reads as it did. -/
def aigOddSpec : ChangeSpec := { name := "aigOdd", fn := fun _ => fun
  | [d1, d2, d3, d4] => { results := [.lit (.bool true)], args := [d1, d2, d3, d4] }
  | _ => none }
def aigOddRow : OpenClaim := { program := "ytlnjefcfbncegaa", sum := "253f6894ed88998b7a731c3e56f9601deed4d4e557897b822f844c0555ccc31d", func := "proofmark/proofmarklaw13.AigOdd", spec := "aigOdd", unfollowed := true, recurses := true, plainKeys := false, apart := false }
def AigOddSaid : Prop := aigOddRow.holds Try.pinned (OpenSpec.ofChange aigOddSpec)

/-- ITS FALSE NEIGHBOUR: 'it returns false'. Refute it at one input. -/
def aigOddWrong : ChangeSpec := { name := "aigOdd", fn := fun _ => fun
  | [d1, d2, d3, d4] => { results := [.lit (.bool false)], args := [d1, d2, d3, d4] }
  | _ => none }
def AigOddWrongFalsely : Prop := aigOddRow.holds Try.pinned (OpenSpec.ofChange aigOddWrong)

/-- 'proofmarklaw13.AigTurn': WHATEVER THE INPUT: true; the input reads as it did. -/
def aigTurnSpec : ChangeSpec := { name := "aigTurn", fn := fun _ => fun
  | [d1, d2, d3, d4] => { results := [.lit (.bool true)], args := [d1, d2, d3, d4] }
  | _ => none }
def aigTurnRow : OpenClaim := { program := "ytlnjefcfbncegaa", sum := "253f6894ed88998b7a731c3e56f9601deed4d4e557897b822f844c0555ccc31d", func := "proofmark/proofmarklaw13.AigTurn", spec := "aigTurn", unfollowed := true, recurses := true, plainKeys := false, apart := false }
def AigTurnSaid : Prop := aigTurnRow.holds Try.pinned (OpenSpec.ofChange aigTurnSpec)

/-- ITS FALSE NEIGHBOUR: 'it returns false'. Refute it at one input. -/
def aigTurnWrong : ChangeSpec := { name := "aigTurn", fn := fun _ => fun
  | [d1, d2, d3, d4] => { results := [.lit (.bool false)], args := [d1, d2, d3, d4] }
  | _ => none }
def AigTurnWrongFalsely : Prop := aigTurnRow.holds Try.pinned (OpenSpec.ofChange aigTurnWrong)

/- THE SECOND FORM. 'bulk': how many values and letters a reading holds, each counted each time it is reached (what is shared counts as often as it is met; a slice's spare places count too). A statement '..UptoSaid' is the law's where the arguments, and the package variables that the reading takes, are together of bulk at most 1048576: NARROWER than '..Said'. Prove '..Said' where nothing that the law and all that it calls make is longer than what came in: it says more and counts as full. Else prove '..UptoSaid'. A law counts once. -/
mutual
def uptoBulk {H : Type} : DataW H → Nat
  | .lit (.string bytes) => bytes.length + 1
  | .lit _ => 1
  | .nil => 1
  | .ptr d => uptoBulk d + 1
  | .slice elems spare => uptoBulkAll elems + uptoBulkAll spare + 1
  | .agg parts => uptoBulkAll parts + 1
  | .iface _ d => uptoBulk d + 1
  | .map entries => uptoBulkEntries entries + 1
  | .held _ => 1
def uptoBulkAll {H : Type} : List (DataW H) → Nat
  | [] => 0
  | d :: r => uptoBulk d + uptoBulkAll r
def uptoBulkEntries {H : Type} : List (Lit × DataW H) → Nat
  | [] => 0
  | x :: r => uptoBulkEntry x + uptoBulkEntries r
def uptoBulkEntry {H : Type} : Lit × DataW H → Nat
  | (.string bytes, d) => bytes.length + uptoBulk d + 1
  | (_, d) => uptoBulk d + 1
 end
def uptoSmall : (H : Type) → List (DataW H) → Bool := fun _ ds => decide (uptoBulkAll ds ≤ 1048576)
def OpenSpec.upto (s : _root_.Go.ChangeSpec) : _root_.Go.OpenSpec := { _root_.Go.OpenSpec.ofChange s with cond := some uptoSmall }

/-- 'proofmarklaw13.AigTells', WHERE WHAT IT READS IS OF BULK AT MOST 1048576: true; the input reads as it did. -/
def aigTellsUptoRow : OpenClaim := { program := "ytlnjefcfbncegaa", sum := "253f6894ed88998b7a731c3e56f9601deed4d4e557897b822f844c0555ccc31d", func := "proofmark/proofmarklaw13.AigTells", spec := "aigTells", unfollowed := true, recurses := true, plainKeys := false, apart := false, narrowed := true }
def AigTellsUptoSaid : Prop := aigTellsUptoRow.holds Try.pinned (OpenSpec.upto aigTellsSpec)

/-- 'proofmarklaw13.AigMeans', WHERE WHAT IT READS IS OF BULK AT MOST 1048576: true; the input reads as it did. -/
def aigMeansUptoRow : OpenClaim := { program := "ytlnjefcfbncegaa", sum := "253f6894ed88998b7a731c3e56f9601deed4d4e557897b822f844c0555ccc31d", func := "proofmark/proofmarklaw13.AigMeans", spec := "aigMeans", unfollowed := true, recurses := true, plainKeys := false, apart := false, narrowed := true }
def AigMeansUptoSaid : Prop := aigMeansUptoRow.holds Try.pinned (OpenSpec.upto aigMeansSpec)

/-- 'proofmarklaw13.AigRight', WHERE WHAT IT READS IS OF BULK AT MOST 1048576: true; the input reads as it did. -/
def aigRightUptoRow : OpenClaim := { program := "ytlnjefcfbncegaa", sum := "253f6894ed88998b7a731c3e56f9601deed4d4e557897b822f844c0555ccc31d", func := "proofmark/proofmarklaw13.AigRight", spec := "aigRight", unfollowed := true, recurses := true, plainKeys := false, apart := false, narrowed := true }
def AigRightUptoSaid : Prop := aigRightUptoRow.holds Try.pinned (OpenSpec.upto aigRightSpec)

/-- 'proofmarklaw13.AigShared', WHERE WHAT IT READS IS OF BULK AT MOST 1048576: true; the input reads as it did. -/
def aigSharedUptoRow : OpenClaim := { program := "ytlnjefcfbncegaa", sum := "253f6894ed88998b7a731c3e56f9601deed4d4e557897b822f844c0555ccc31d", func := "proofmark/proofmarklaw13.AigShared", spec := "aigShared", unfollowed := true, recurses := true, plainKeys := false, apart := false, narrowed := true }
def AigSharedUptoSaid : Prop := aigSharedUptoRow.holds Try.pinned (OpenSpec.upto aigSharedSpec)

/-- 'proofmarklaw13.AigPlain', WHERE WHAT IT READS IS OF BULK AT MOST 1048576: true; the input reads as it did. -/
def aigPlainUptoRow : OpenClaim := { program := "ytlnjefcfbncegaa", sum := "253f6894ed88998b7a731c3e56f9601deed4d4e557897b822f844c0555ccc31d", func := "proofmark/proofmarklaw13.AigPlain", spec := "aigPlain", unfollowed := true, recurses := true, plainKeys := false, apart := false, narrowed := true }
def AigPlainUptoSaid : Prop := aigPlainUptoRow.holds Try.pinned (OpenSpec.upto aigPlainSpec)

/-- 'proofmarklaw13.AigOdd', WHERE WHAT IT READS IS OF BULK AT MOST 1048576: true; the input reads as it did. -/
def aigOddUptoRow : OpenClaim := { program := "ytlnjefcfbncegaa", sum := "253f6894ed88998b7a731c3e56f9601deed4d4e557897b822f844c0555ccc31d", func := "proofmark/proofmarklaw13.AigOdd", spec := "aigOdd", unfollowed := true, recurses := true, plainKeys := false, apart := false, narrowed := true }
def AigOddUptoSaid : Prop := aigOddUptoRow.holds Try.pinned (OpenSpec.upto aigOddSpec)

/-- 'proofmarklaw13.AigTurn', WHERE WHAT IT READS IS OF BULK AT MOST 1048576: true; the input reads as it did. -/
def aigTurnUptoRow : OpenClaim := { program := "ytlnjefcfbncegaa", sum := "253f6894ed88998b7a731c3e56f9601deed4d4e557897b822f844c0555ccc31d", func := "proofmark/proofmarklaw13.AigTurn", spec := "aigTurn", unfollowed := true, recurses := true, plainKeys := false, apart := false, narrowed := true }
def AigTurnUptoSaid : Prop := aigTurnUptoRow.holds Try.pinned (OpenSpec.upto aigTurnSpec)

end Rows
end Go.Proofs.Ytlnjefcfbncegaa
