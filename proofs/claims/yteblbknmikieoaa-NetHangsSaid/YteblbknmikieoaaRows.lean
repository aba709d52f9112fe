/-
  No cell of these rows narrows 'for every input' (looked for: loops, veiled, ifaces, maps, wideKeys, modest, calm, conditions, laid).
  DERIVED. THE GIVEN ROWS OF THIS SEAT. 7 by the template 'for every input the law returns true; each argument reads behind the call as it read before'; 0 by the template 'total and deterministic' (their statements: YteblbknmikieoaaTotals.lean).
  GIVEN WITH THE SEED: the statements are not yours to turn. If you find one false, say at which input.
  Laid BY PROGRAM, IN A SANDBOX (cutbox-rows.mjs): the forced cells as the released guide's own fill.sh prints them over the translation b3979347d8424e27… (all of the seat's roots in one cut). By AI agents, Wed Nov 11 2026. No macro, syntax, notation, axiom, sorry.
-/
import Derived.Test.YteblbknmikieoaaChecked
import GoSem.Claim
import GoSem.ClaimJoined
import GoSem.ClaimMapViews
import Derived.JoinedTies
import Derived.KernelRfl
namespace Go.Proofs.Yteblbknmikieoaa
/- THE CELL 'sum', in the pinned program and in every row, IS THE sha256 OF THE DUMP (.gsa) THAT YteblbknmikieoaaProg.lean LOADS. Nothing in Lean hashes anything: it is a label: what it is worth is what the hold of that sum in a sandbox is worth. -/
noncomputable def Try.pinned : Pinned := { name := "yteblbknmikieoaa", sum := "b3979347d8424e27ec6a3b15caf2e19774c7f65d7097484117bbe47923899eaa", checked := Try.checked }
namespace Rows
def none {H : Type} : Left H := { results := [], args := [] }

/-- 'proofmarklaw09.NetTells': WHATEVER THE INPUT: true; the input reads as it did. -/
def netTellsSpec : ChangeSpec := { name := "netTells", fn := fun _ => fun
  | [d1, d2, d3, d4] => { results := [.lit (.bool true)], args := [d1, d2, d3, d4] }
  | _ => none }
def netTellsRow : OpenClaim := { program := "yteblbknmikieoaa", sum := "b3979347d8424e27ec6a3b15caf2e19774c7f65d7097484117bbe47923899eaa", func := "proofmark/proofmarklaw09.NetTells", spec := "netTells", unfollowed := true, recurses := true, apart := false }
def NetTellsSaid : Prop := netTellsRow.holds Try.pinned (OpenSpec.ofChange netTellsSpec)

/-- ITS FALSE NEIGHBOUR: 'it returns false'. Refute it at one input. -/
def netTellsWrong : ChangeSpec := { name := "netTells", fn := fun _ => fun
  | [d1, d2, d3, d4] => { results := [.lit (.bool false)], args := [d1, d2, d3, d4] }
  | _ => none }
def NetTellsWrongFalsely : Prop := netTellsRow.holds Try.pinned (OpenSpec.ofChange netTellsWrong)

/-- 'proofmarklaw09.NetFits': WHATEVER THE INPUT: true; the input reads as it did. -/
def netFitsSpec : ChangeSpec := { name := "netFits", fn := fun _ => fun
  | [d1, d2, d3] => { results := [.lit (.bool true)], args := [d1, d2, d3] }
  | _ => none }
def netFitsRow : OpenClaim := { program := "yteblbknmikieoaa", sum := "b3979347d8424e27ec6a3b15caf2e19774c7f65d7097484117bbe47923899eaa", func := "proofmark/proofmarklaw09.NetFits", spec := "netFits", unfollowed := true, recurses := true, apart := false }
def NetFitsSaid : Prop := netFitsRow.holds Try.pinned (OpenSpec.ofChange netFitsSpec)

/-- ITS FALSE NEIGHBOUR: 'it returns false'. Refute it at one input. -/
def netFitsWrong : ChangeSpec := { name := "netFits", fn := fun _ => fun
  | [d1, d2, d3] => { results := [.lit (.bool false)], args := [d1, d2, d3] }
  | _ => none }
def NetFitsWrongFalsely : Prop := netFitsRow.holds Try.pinned (OpenSpec.ofChange netFitsWrong)

/-- 'proofmarklaw09.NetAhead': WHATEVER THE INPUT: true; the input reads as it did. -/
def netAheadSpec : ChangeSpec := { name := "netAhead", fn := fun _ => fun
  | [d1, d2, d3, d4] => { results := [.lit (.bool true)], args := [d1, d2, d3, d4] }
  | _ => none }
def netAheadRow : OpenClaim := { program := "yteblbknmikieoaa", sum := "b3979347d8424e27ec6a3b15caf2e19774c7f65d7097484117bbe47923899eaa", func := "proofmark/proofmarklaw09.NetAhead", spec := "netAhead", unfollowed := true, recurses := true, apart := false }
def NetAheadSaid : Prop := netAheadRow.holds Try.pinned (OpenSpec.ofChange netAheadSpec)

/-- ITS FALSE NEIGHBOUR: 'it returns false'. Refute it at one input. -/
def netAheadWrong : ChangeSpec := { name := "netAhead", fn := fun _ => fun
  | [d1, d2, d3, d4] => { results := [.lit (.bool false)], args := [d1, d2, d3, d4] }
  | _ => none }
def NetAheadWrongFalsely : Prop := netAheadRow.holds Try.pinned (OpenSpec.ofChange netAheadWrong)

/-- 'proofmarklaw09.NetHangs': WHATEVER THE INPUT: true; the input reads as it did. -/
def netHangsSpec : ChangeSpec := { name := "netHangs", fn := fun _ => fun
  | [d1, d2, d3, d4, d5] => { results := [.lit (.bool true)], args := [d1, d2, d3, d4, d5] }
  | _ => none }
def netHangsRow : OpenClaim := { program := "yteblbknmikieoaa", sum := "b3979347d8424e27ec6a3b15caf2e19774c7f65d7097484117bbe47923899eaa", func := "proofmark/proofmarklaw09.NetHangs", spec := "netHangs", unfollowed := true, recurses := true, apart := false }
def NetHangsSaid : Prop := netHangsRow.holds Try.pinned (OpenSpec.ofChange netHangsSpec)

/-- ITS FALSE NEIGHBOUR: 'it returns false'. Refute it at one input. -/
def netHangsWrong : ChangeSpec := { name := "netHangs", fn := fun _ => fun
  | [d1, d2, d3, d4, d5] => { results := [.lit (.bool false)], args := [d1, d2, d3, d4, d5] }
  | _ => none }
def NetHangsWrongFalsely : Prop := netHangsRow.holds Try.pinned (OpenSpec.ofChange netHangsWrong)

/-- 'proofmarklaw09.NetLeft': WHATEVER THE INPUT: true; the input reads as it did. -/
def netLeftSpec : ChangeSpec := { name := "netLeft", fn := fun _ => fun
  | [d1, d2, d3, d4] => { results := [.lit (.bool true)], args := [d1, d2, d3, d4] }
  | _ => none }
def netLeftRow : OpenClaim := { program := "yteblbknmikieoaa", sum := "b3979347d8424e27ec6a3b15caf2e19774c7f65d7097484117bbe47923899eaa", func := "proofmark/proofmarklaw09.NetLeft", spec := "netLeft", unfollowed := true, recurses := true, apart := false }
def NetLeftSaid : Prop := netLeftRow.holds Try.pinned (OpenSpec.ofChange netLeftSpec)

/-- ITS FALSE NEIGHBOUR: 'it returns false'. Refute it at one input. -/
def netLeftWrong : ChangeSpec := { name := "netLeft", fn := fun _ => fun
  | [d1, d2, d3, d4] => { results := [.lit (.bool false)], args := [d1, d2, d3, d4] }
  | _ => none }
def NetLeftWrongFalsely : Prop := netLeftRow.holds Try.pinned (OpenSpec.ofChange netLeftWrong)

/-- 'proofmarklaw09.NetOdd': WHATEVER THE INPUT: true; the input reads as it did. -/
def netOddSpec : ChangeSpec := { name := "netOdd", fn := fun _ => fun
  | [d1, d2, d3] => { results := [.lit (.bool true)], args := [d1, d2, d3] }
  | _ => none }
def netOddRow : OpenClaim := { program := "yteblbknmikieoaa", sum := "b3979347d8424e27ec6a3b15caf2e19774c7f65d7097484117bbe47923899eaa", func := "proofmark/proofmarklaw09.NetOdd", spec := "netOdd", unfollowed := true, recurses := true, apart := false }
def NetOddSaid : Prop := netOddRow.holds Try.pinned (OpenSpec.ofChange netOddSpec)

/-- ITS FALSE NEIGHBOUR: 'it returns false'. Refute it at one input. -/
def netOddWrong : ChangeSpec := { name := "netOdd", fn := fun _ => fun
  | [d1, d2, d3] => { results := [.lit (.bool false)], args := [d1, d2, d3] }
  | _ => none }
def NetOddWrongFalsely : Prop := netOddRow.holds Try.pinned (OpenSpec.ofChange netOddWrong)

/-- 'proofmarklaw09.NetTwice': WHATEVER THE INPUT: true; the input reads as it did. -/
def netTwiceSpec : ChangeSpec := { name := "netTwice", fn := fun _ => fun
  | [d1, d2, d3, d4] => { results := [.lit (.bool true)], args := [d1, d2, d3, d4] }
  | _ => none }
def netTwiceRow : OpenClaim := { program := "yteblbknmikieoaa", sum := "b3979347d8424e27ec6a3b15caf2e19774c7f65d7097484117bbe47923899eaa", func := "proofmark/proofmarklaw09.NetTwice", spec := "netTwice", unfollowed := true, recurses := true, apart := false }
def NetTwiceSaid : Prop := netTwiceRow.holds Try.pinned (OpenSpec.ofChange netTwiceSpec)

/-- ITS FALSE NEIGHBOUR: 'it returns false'. Refute it at one input. -/
def netTwiceWrong : ChangeSpec := { name := "netTwice", fn := fun _ => fun
  | [d1, d2, d3, d4] => { results := [.lit (.bool false)], args := [d1, d2, d3, d4] }
  | _ => none }
def NetTwiceWrongFalsely : Prop := netTwiceRow.holds Try.pinned (OpenSpec.ofChange netTwiceWrong)

/- THE SECOND FORM. 'bulk': how many values and letters a reading holds, each counted each time it is reached (what is shared counts as often as it is met; a slice's spare places count too). A statement '..UptoSaid' is the law's where the arguments, and the package variables that the reading takes, are together of bulk at most 1048576: NARROWER than '..Said'. Prove '..Said' where nothing that the law and all that it calls make is longer than what came in: it says more and counts as full. Else prove '..UptoSaid'. A law counts once. -/
mutual
def uptoBulk {H : Type} : DataW H → Nat
  | .lit (.string bytes) => bytes.length + 1
  | .lit _ => 1
  | .nil => 1
  | .ptr d => uptoBulk d + 1
  | .slice elems spare => uptoBulkAll elems + uptoBulkAll spare + 1
  | .agg parts => uptoBulkAll parts + 1
  | .iface _ d => uptoBulk d + 1
  | .map entries => uptoBulkEntries entries + 1
  | .held _ => 1
def uptoBulkAll {H : Type} : List (DataW H) → Nat
  | [] => 0
  | d :: r => uptoBulk d + uptoBulkAll r
def uptoBulkEntries {H : Type} : List (Lit × DataW H) → Nat
  | [] => 0
  | x :: r => uptoBulkEntry x + uptoBulkEntries r
def uptoBulkEntry {H : Type} : Lit × DataW H → Nat
  | (.string bytes, d) => bytes.length + uptoBulk d + 1
  | (_, d) => uptoBulk d + 1
 end
def uptoSmall : (H : Type) → List (DataW H) → Bool := fun _ ds => decide (uptoBulkAll ds ≤ 1048576)
def OpenSpec.upto (s : _root_.Go.ChangeSpec) : _root_.Go.OpenSpec := { _root_.Go.OpenSpec.ofChange s with cond := some uptoSmall }

/-- 'proofmarklaw09.NetTells', WHERE WHAT IT READS IS OF BULK AT MOST 1048576: true; the input reads as it did. -/
def netTellsUptoRow : OpenClaim := { program := "yteblbknmikieoaa", sum := "b3979347d8424e27ec6a3b15caf2e19774c7f65d7097484117bbe47923899eaa", func := "proofmark/proofmarklaw09.NetTells", spec := "netTells", unfollowed := true, recurses := true, apart := false, narrowed := true }
def NetTellsUptoSaid : Prop := netTellsUptoRow.holds Try.pinned (OpenSpec.upto netTellsSpec)

/-- 'proofmarklaw09.NetFits', WHERE WHAT IT READS IS OF BULK AT MOST 1048576: true; the input reads as it did. -/
def netFitsUptoRow : OpenClaim := { program := "yteblbknmikieoaa", sum := "b3979347d8424e27ec6a3b15caf2e19774c7f65d7097484117bbe47923899eaa", func := "proofmark/proofmarklaw09.NetFits", spec := "netFits", unfollowed := true, recurses := true, apart := false, narrowed := true }
def NetFitsUptoSaid : Prop := netFitsUptoRow.holds Try.pinned (OpenSpec.upto netFitsSpec)

/-- 'proofmarklaw09.NetAhead', WHERE WHAT IT READS IS OF BULK AT MOST 1048576: true; the input reads as it did. -/
def netAheadUptoRow : OpenClaim := { program := "yteblbknmikieoaa", sum := "b3979347d8424e27ec6a3b15caf2e19774c7f65d7097484117bbe47923899eaa", func := "proofmark/proofmarklaw09.NetAhead", spec := "netAhead", unfollowed := true, recurses := true, apart := false, narrowed := true }
def NetAheadUptoSaid : Prop := netAheadUptoRow.holds Try.pinned (OpenSpec.upto netAheadSpec)

/-- 'proofmarklaw09.NetHangs', WHERE WHAT IT READS IS OF BULK AT MOST 1048576: true; the input reads as it did. -/
def netHangsUptoRow : OpenClaim := { program := "yteblbknmikieoaa", sum := "b3979347d8424e27ec6a3b15caf2e19774c7f65d7097484117bbe47923899eaa", func := "proofmark/proofmarklaw09.NetHangs", spec := "netHangs", unfollowed := true, recurses := true, apart := false, narrowed := true }
def NetHangsUptoSaid : Prop := netHangsUptoRow.holds Try.pinned (OpenSpec.upto netHangsSpec)

/-- 'proofmarklaw09.NetLeft', WHERE WHAT IT READS IS OF BULK AT MOST 1048576: true; the input reads as it did. -/
def netLeftUptoRow : OpenClaim := { program := "yteblbknmikieoaa", sum := "b3979347d8424e27ec6a3b15caf2e19774c7f65d7097484117bbe47923899eaa", func := "proofmark/proofmarklaw09.NetLeft", spec := "netLeft", unfollowed := true, recurses := true, apart := false, narrowed := true }
def NetLeftUptoSaid : Prop := netLeftUptoRow.holds Try.pinned (OpenSpec.upto netLeftSpec)

/-- 'proofmarklaw09.NetOdd', WHERE WHAT IT READS IS OF BULK AT MOST 1048576: true; the input reads as it did. -/
def netOddUptoRow : OpenClaim := { program := "yteblbknmikieoaa", sum := "b3979347d8424e27ec6a3b15caf2e19774c7f65d7097484117bbe47923899eaa", func := "proofmark/proofmarklaw09.NetOdd", spec := "netOdd", unfollowed := true, recurses := true, apart := false, narrowed := true }
def NetOddUptoSaid : Prop := netOddUptoRow.holds Try.pinned (OpenSpec.upto netOddSpec)

/-- 'proofmarklaw09.NetTwice', WHERE WHAT IT READS IS OF BULK AT MOST 1048576: true; the input reads as it did. -/
def netTwiceUptoRow : OpenClaim := { program := "yteblbknmikieoaa", sum := "b3979347d8424e27ec6a3b15caf2e19774c7f65d7097484117bbe47923899eaa", func := "proofmark/proofmarklaw09.NetTwice", spec := "netTwice", unfollowed := true, recurses := true, apart := false, narrowed := true }
def NetTwiceUptoSaid : Prop := netTwiceUptoRow.holds Try.pinned (OpenSpec.upto netTwiceSpec)

end Rows
end Go.Proofs.Yteblbknmikieoaa
