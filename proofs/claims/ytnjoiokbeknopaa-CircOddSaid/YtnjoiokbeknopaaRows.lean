/-
  No cell of these rows narrows 'for every input' (looked for: loops, veiled, ifaces, maps, wideKeys, modest, calm, conditions, laid).
  DERIVED. THE GIVEN ROWS OF THIS SEAT. 4 by the template 'for every input the law returns true; each argument reads behind the call as it read before'; 0 by the template 'total and deterministic' (their statements: YtnjoiokbeknopaaTotals.lean).
  GIVEN WITH THE SEED: the statements are not yours to turn. If you find one false, say at which input.
  Laid BY PROGRAM, IN A SANDBOX (cutbox-rows.mjs): the forced cells as the released guide's own fill.sh prints them over the translation 51c838561f503035… (all of the seat's roots in one cut). By AI agents, Wed Nov 11 2026. No macro, syntax, notation, axiom, sorry.
-/
import Derived.Test.YtnjoiokbeknopaaChecked
import GoSem.Claim
import GoSem.ClaimJoined
import GoSem.ClaimMapViews
import Derived.JoinedTies
import Derived.KernelRfl
namespace Go.Proofs.Ytnjoiokbeknopaa
/- THE CELL 'sum', in the pinned program and in every row, IS THE sha256 OF THE DUMP (.gsa) THAT YtnjoiokbeknopaaProg.lean LOADS. Nothing in Lean hashes anything: it is a label: what it is worth is what the hold of that sum in a sandbox is worth. -/
noncomputable def Try.pinned : Pinned := { name := "ytnjoiokbeknopaa", sum := "51c838561f50303541377c0c0af20e124b546fefd4aabdf45cff30c42e0b5b7a", checked := Try.checked }
namespace Rows
def none {H : Type} : Left H := { results := [], args := [] }

/-- 'proofmarklaw15.CircBits': WHATEVER THE INPUT: true; the input reads as it did. -/
def circBitsSpec : ChangeSpec := { name := "circBits", fn := fun _ => fun
  | [d] => { results := [.lit (.bool true)], args := [d] }
  | _ => none }
def circBitsRow : OpenClaim := { program := "ytnjoiokbeknopaa", sum := "51c838561f50303541377c0c0af20e124b546fefd4aabdf45cff30c42e0b5b7a", func := "proofmark/proofmarklaw15.CircBits", spec := "circBits", unfollowed := true, recurses := true, plainKeys := false, apart := false }
def CircBitsSaid : Prop := circBitsRow.holds Try.pinned (OpenSpec.ofChange circBitsSpec)

/-- ITS FALSE NEIGHBOUR: 'it returns false'. Refute it at one input. -/
def circBitsWrong : ChangeSpec := { name := "circBits", fn := fun _ => fun
  | [d] => { results := [.lit (.bool false)], args := [d] }
  | _ => none }
def CircBitsWrongFalsely : Prop := circBitsRow.holds Try.pinned (OpenSpec.ofChange circBitsWrong)

/-- 'proofmarklaw15.CircRows': WHATEVER THE INPUT: true; the input reads as it did. -/
def circRowsSpec : ChangeSpec := { name := "circRows", fn := fun _ => fun
  | [d1, d2, d3] => { results := [.lit (.bool true)], args := [d1, d2, d3] }
  | _ => none }
def circRowsRow : OpenClaim := { program := "ytnjoiokbeknopaa", sum := "51c838561f50303541377c0c0af20e124b546fefd4aabdf45cff30c42e0b5b7a", func := "proofmark/proofmarklaw15.CircRows", spec := "circRows", unfollowed := true, recurses := true, plainKeys := false, apart := false }
def CircRowsSaid : Prop := circRowsRow.holds Try.pinned (OpenSpec.ofChange circRowsSpec)

/-- ITS FALSE NEIGHBOUR: 'it returns false'. Refute it at one input. -/
def circRowsWrong : ChangeSpec := { name := "circRows", fn := fun _ => fun
  | [d1, d2, d3] => { results := [.lit (.bool false)], args := [d1, d2, d3] }
  | _ => none }
def CircRowsWrongFalsely : Prop := circRowsRow.holds Try.pinned (OpenSpec.ofChange circRowsWrong)

/-- 'proofmarklaw15.CircOdd': WHATEVER THE INPUT: true; the input reads as it did. -/
def circOddSpec : ChangeSpec := { name := "circOdd", fn := fun _ => fun
  | [d1, d2, d3] => { results := [.lit (.bool true)], args := [d1, d2, d3] }
  | _ => none }
def circOddRow : OpenClaim := { program := "ytnjoiokbeknopaa", sum := "51c838561f50303541377c0c0af20e124b546fefd4aabdf45cff30c42e0b5b7a", func := "proofmark/proofmarklaw15.CircOdd", spec := "circOdd", unfollowed := true, recurses := true, plainKeys := false, apart := false }
def CircOddSaid : Prop := circOddRow.holds Try.pinned (OpenSpec.ofChange circOddSpec)

/-- ITS FALSE NEIGHBOUR: 'it returns false'. Refute it at one input. -/
def circOddWrong : ChangeSpec := { name := "circOdd", fn := fun _ => fun
  | [d1, d2, d3] => { results := [.lit (.bool false)], args := [d1, d2, d3] }
  | _ => none }
def CircOddWrongFalsely : Prop := circOddRow.holds Try.pinned (OpenSpec.ofChange circOddWrong)

/-- 'proofmarklaw15.CircFirst': WHATEVER THE INPUT: true; the input reads as it did. -/
def circFirstSpec : ChangeSpec := { name := "circFirst", fn := fun _ => fun
  | [d] => { results := [.lit (.bool true)], args := [d] }
  | _ => none }
def circFirstRow : OpenClaim := { program := "ytnjoiokbeknopaa", sum := "51c838561f50303541377c0c0af20e124b546fefd4aabdf45cff30c42e0b5b7a", func := "proofmark/proofmarklaw15.CircFirst", spec := "circFirst", unfollowed := true, recurses := true, plainKeys := false, apart := false }
def CircFirstSaid : Prop := circFirstRow.holds Try.pinned (OpenSpec.ofChange circFirstSpec)

/-- ITS FALSE NEIGHBOUR: 'it returns false'. Refute it at one input. -/
def circFirstWrong : ChangeSpec := { name := "circFirst", fn := fun _ => fun
  | [d] => { results := [.lit (.bool false)], args := [d] }
  | _ => none }
def CircFirstWrongFalsely : Prop := circFirstRow.holds Try.pinned (OpenSpec.ofChange circFirstWrong)

/- THE SECOND FORM. 'bulk': how many values and letters a reading holds, each counted each time it is reached (what is shared counts as often as it is met; a slice's spare places count too). A statement '..UptoSaid' is the law's where the arguments, and the package variables that the reading takes, are together of bulk at most 1048576: NARROWER than '..Said'. Prove '..Said' where nothing that the law and all that it calls make is longer than what came in: it says more and counts as full. Else prove '..UptoSaid'. A law counts once. -/
mutual
def uptoBulk {H : Type} : DataW H → Nat
  | .lit (.string bytes) => bytes.length + 1
  | .lit _ => 1
  | .nil => 1
  | .ptr d => uptoBulk d + 1
  | .slice elems spare => uptoBulkAll elems + uptoBulkAll spare + 1
  | .agg parts => uptoBulkAll parts + 1
  | .iface _ d => uptoBulk d + 1
  | .map entries => uptoBulkEntries entries + 1
  | .held _ => 1
def uptoBulkAll {H : Type} : List (DataW H) → Nat
  | [] => 0
  | d :: r => uptoBulk d + uptoBulkAll r
def uptoBulkEntries {H : Type} : List (Lit × DataW H) → Nat
  | [] => 0
  | x :: r => uptoBulkEntry x + uptoBulkEntries r
def uptoBulkEntry {H : Type} : Lit × DataW H → Nat
  | (.string bytes, d) => bytes.length + uptoBulk d + 1
  | (_, d) => uptoBulk d + 1
 end
def uptoSmall : (H : Type) → List (DataW H) → Bool := fun _ ds => decide (uptoBulkAll ds ≤ 1048576)
def OpenSpec.upto (s : _root_.Go.ChangeSpec) : _root_.Go.OpenSpec := { _root_.Go.OpenSpec.ofChange s with cond := some uptoSmall }

/-- 'proofmarklaw15.CircBits', WHERE WHAT IT READS IS OF BULK AT MOST 1048576: true; the input reads as it did. -/
def circBitsUptoRow : OpenClaim := { program := "ytnjoiokbeknopaa", sum := "51c838561f50303541377c0c0af20e124b546fefd4aabdf45cff30c42e0b5b7a", func := "proofmark/proofmarklaw15.CircBits", spec := "circBits", unfollowed := true, recurses := true, plainKeys := false, apart := false, narrowed := true }
def CircBitsUptoSaid : Prop := circBitsUptoRow.holds Try.pinned (OpenSpec.upto circBitsSpec)

/-- 'proofmarklaw15.CircRows', WHERE WHAT IT READS IS OF BULK AT MOST 1048576: true; the input reads as it did. -/
def circRowsUptoRow : OpenClaim := { program := "ytnjoiokbeknopaa", sum := "51c838561f50303541377c0c0af20e124b546fefd4aabdf45cff30c42e0b5b7a", func := "proofmark/proofmarklaw15.CircRows", spec := "circRows", unfollowed := true, recurses := true, plainKeys := false, apart := false, narrowed := true }
def CircRowsUptoSaid : Prop := circRowsUptoRow.holds Try.pinned (OpenSpec.upto circRowsSpec)

/-- 'proofmarklaw15.CircOdd', WHERE WHAT IT READS IS OF BULK AT MOST 1048576: true; the input reads as it did. -/
def circOddUptoRow : OpenClaim := { program := "ytnjoiokbeknopaa", sum := "51c838561f50303541377c0c0af20e124b546fefd4aabdf45cff30c42e0b5b7a", func := "proofmark/proofmarklaw15.CircOdd", spec := "circOdd", unfollowed := true, recurses := true, plainKeys := false, apart := false, narrowed := true }
def CircOddUptoSaid : Prop := circOddUptoRow.holds Try.pinned (OpenSpec.upto circOddSpec)

/-- 'proofmarklaw15.CircFirst', WHERE WHAT IT READS IS OF BULK AT MOST 1048576: true; the input reads as it did. -/
def circFirstUptoRow : OpenClaim := { program := "ytnjoiokbeknopaa", sum := "51c838561f50303541377c0c0af20e124b546fefd4aabdf45cff30c42e0b5b7a", func := "proofmark/proofmarklaw15.CircFirst", spec := "circFirst", unfollowed := true, recurses := true, plainKeys := false, apart := false, narrowed := true }
def CircFirstUptoSaid : Prop := circFirstUptoRow.holds Try.pinned (OpenSpec.upto circFirstSpec)

end Rows
end Go.Proofs.Ytnjoiokbeknopaa
