/-
  No cell of these rows narrows 'for every input' (looked for: loops, veiled, ifaces, maps, wideKeys, modest, calm, conditions, laid).
  DERIVED. THE GIVEN ROWS OF THIS SEAT. 7 by the template 'for every input the law returns true; each argument reads behind the call as it read before'; 0 by the template 'total and deterministic' (their statements: YtcfipamdinfomaaTotals.lean).
  GIVEN WITH THE SEED: the statements are not yours to turn. If you find one false, say at which input.
  Laid BY PROGRAM, IN A SANDBOX (cutbox-rows.mjs): the forced cells as the released guide's own fill.sh prints them over the translation 37c7a9657c1290a2… (all of the seat's roots in one cut). By AI agents, Wed Nov 11 2026. No macro, syntax, notation, axiom, sorry.
-/
import Derived.Test.YtcfipamdinfomaaChecked
import GoSem.Claim
import GoSem.ClaimJoined
import GoSem.ClaimMapViews
import Derived.JoinedTies
import Derived.KernelRfl
namespace Go.Proofs.Ytcfipamdinfomaa
/- THE CELL 'sum', in the pinned program and in every row, IS THE sha256 OF THE DUMP (.gsa) THAT YtcfipamdinfomaaProg.lean LOADS. Nothing in Lean hashes anything: it is a label: what it is worth is what the hold of that sum in a sandbox is worth. -/
noncomputable def Try.pinned : Pinned := { name := "ytcfipamdinfomaa", sum := "37c7a9657c1290a2d34eaf06acc99a4a7978d631f09a08012b09a31675ae1d7b", checked := Try.checked }
namespace Rows
def none {H : Type} : Left H := { results := [], args := [] }

/-- 'proofmarklaw08.VecTells': WHATEVER THE INPUT: true; the input reads as it did. -/
def vecTellsSpec : ChangeSpec := { name := "vecTells", fn := fun _ => fun
  | [d1, d2] => { results := [.lit (.bool true)], args := [d1, d2] }
  | _ => none }
def vecTellsRow : OpenClaim := { program := "ytcfipamdinfomaa", sum := "37c7a9657c1290a2d34eaf06acc99a4a7978d631f09a08012b09a31675ae1d7b", func := "proofmark/proofmarklaw08.VecTells", spec := "vecTells", unfollowed := true, recurses := true, apart := false }
def VecTellsSaid : Prop := vecTellsRow.holds Try.pinned (OpenSpec.ofChange vecTellsSpec)

/-- ITS FALSE NEIGHBOUR: 'it returns false'. Refute it at one input. -/
def vecTellsWrong : ChangeSpec := { name := "vecTells", fn := fun _ => fun
  | [d1, d2] => { results := [.lit (.bool false)], args := [d1, d2] }
  | _ => none }
def VecTellsWrongFalsely : Prop := vecTellsRow.holds Try.pinned (OpenSpec.ofChange vecTellsWrong)

/-- 'proofmarklaw08.VecFits': WHATEVER THE INPUT: true; the input reads as it did. -/
def vecFitsSpec : ChangeSpec := { name := "vecFits", fn := fun _ => fun
  | [d] => { results := [.lit (.bool true)], args := [d] }
  | _ => none }
def vecFitsRow : OpenClaim := { program := "ytcfipamdinfomaa", sum := "37c7a9657c1290a2d34eaf06acc99a4a7978d631f09a08012b09a31675ae1d7b", func := "proofmark/proofmarklaw08.VecFits", spec := "vecFits", unfollowed := true, recurses := true, apart := false }
def VecFitsSaid : Prop := vecFitsRow.holds Try.pinned (OpenSpec.ofChange vecFitsSpec)

/-- ITS FALSE NEIGHBOUR: 'it returns false'. Refute it at one input. -/
def vecFitsWrong : ChangeSpec := { name := "vecFits", fn := fun _ => fun
  | [d] => { results := [.lit (.bool false)], args := [d] }
  | _ => none }
def VecFitsWrongFalsely : Prop := vecFitsRow.holds Try.pinned (OpenSpec.ofChange vecFitsWrong)

/-- 'proofmarklaw08.VecSums': WHATEVER THE INPUT: true; the input reads as it did. -/
def vecSumsSpec : ChangeSpec := { name := "vecSums", fn := fun _ => fun
  | [d1, d2, d3] => { results := [.lit (.bool true)], args := [d1, d2, d3] }
  | _ => none }
def vecSumsRow : OpenClaim := { program := "ytcfipamdinfomaa", sum := "37c7a9657c1290a2d34eaf06acc99a4a7978d631f09a08012b09a31675ae1d7b", func := "proofmark/proofmarklaw08.VecSums", spec := "vecSums", unfollowed := true, recurses := true, apart := false }
def VecSumsSaid : Prop := vecSumsRow.holds Try.pinned (OpenSpec.ofChange vecSumsSpec)

/-- ITS FALSE NEIGHBOUR: 'it returns false'. Refute it at one input. -/
def vecSumsWrong : ChangeSpec := { name := "vecSums", fn := fun _ => fun
  | [d1, d2, d3] => { results := [.lit (.bool false)], args := [d1, d2, d3] }
  | _ => none }
def VecSumsWrongFalsely : Prop := vecSumsRow.holds Try.pinned (OpenSpec.ofChange vecSumsWrong)

/-- 'proofmarklaw08.VecOrder': WHATEVER THE INPUT: true; the input reads as it did. -/
def vecOrderSpec : ChangeSpec := { name := "vecOrder", fn := fun _ => fun
  | [d1, d2, d3] => { results := [.lit (.bool true)], args := [d1, d2, d3] }
  | _ => none }
def vecOrderRow : OpenClaim := { program := "ytcfipamdinfomaa", sum := "37c7a9657c1290a2d34eaf06acc99a4a7978d631f09a08012b09a31675ae1d7b", func := "proofmark/proofmarklaw08.VecOrder", spec := "vecOrder", unfollowed := true, recurses := true, apart := false }
def VecOrderSaid : Prop := vecOrderRow.holds Try.pinned (OpenSpec.ofChange vecOrderSpec)

/-- ITS FALSE NEIGHBOUR: 'it returns false'. Refute it at one input. -/
def vecOrderWrong : ChangeSpec := { name := "vecOrder", fn := fun _ => fun
  | [d1, d2, d3] => { results := [.lit (.bool false)], args := [d1, d2, d3] }
  | _ => none }
def VecOrderWrongFalsely : Prop := vecOrderRow.holds Try.pinned (OpenSpec.ofChange vecOrderWrong)

/-- 'proofmarklaw08.VecBits': WHATEVER THE INPUT: true; the input reads as it did. -/
def vecBitsSpec : ChangeSpec := { name := "vecBits", fn := fun _ => fun
  | [d1, d2, d3, d4] => { results := [.lit (.bool true)], args := [d1, d2, d3, d4] }
  | _ => none }
def vecBitsRow : OpenClaim := { program := "ytcfipamdinfomaa", sum := "37c7a9657c1290a2d34eaf06acc99a4a7978d631f09a08012b09a31675ae1d7b", func := "proofmark/proofmarklaw08.VecBits", spec := "vecBits", unfollowed := true, recurses := true, apart := false }
def VecBitsSaid : Prop := vecBitsRow.holds Try.pinned (OpenSpec.ofChange vecBitsSpec)

/-- ITS FALSE NEIGHBOUR: 'it returns false'. Refute it at one input. -/
def vecBitsWrong : ChangeSpec := { name := "vecBits", fn := fun _ => fun
  | [d1, d2, d3, d4] => { results := [.lit (.bool false)], args := [d1, d2, d3, d4] }
  | _ => none }
def VecBitsWrongFalsely : Prop := vecBitsRow.holds Try.pinned (OpenSpec.ofChange vecBitsWrong)

/-- 'proofmarklaw08.VecParts': WHATEVER THE INPUT: true; the input reads as it did. -/
def vecPartsSpec : ChangeSpec := { name := "vecParts", fn := fun _ => fun
  | [d1, d2, d3] => { results := [.lit (.bool true)], args := [d1, d2, d3] }
  | _ => none }
def vecPartsRow : OpenClaim := { program := "ytcfipamdinfomaa", sum := "37c7a9657c1290a2d34eaf06acc99a4a7978d631f09a08012b09a31675ae1d7b", func := "proofmark/proofmarklaw08.VecParts", spec := "vecParts", unfollowed := true, recurses := true, apart := false }
def VecPartsSaid : Prop := vecPartsRow.holds Try.pinned (OpenSpec.ofChange vecPartsSpec)

/-- ITS FALSE NEIGHBOUR: 'it returns false'. Refute it at one input. -/
def vecPartsWrong : ChangeSpec := { name := "vecParts", fn := fun _ => fun
  | [d1, d2, d3] => { results := [.lit (.bool false)], args := [d1, d2, d3] }
  | _ => none }
def VecPartsWrongFalsely : Prop := vecPartsRow.holds Try.pinned (OpenSpec.ofChange vecPartsWrong)

/-- 'proofmarklaw08.VecShift': WHATEVER THE INPUT: true; the input reads as it did. -/
def vecShiftSpec : ChangeSpec := { name := "vecShift", fn := fun _ => fun
  | [d1, d2] => { results := [.lit (.bool true)], args := [d1, d2] }
  | _ => none }
def vecShiftRow : OpenClaim := { program := "ytcfipamdinfomaa", sum := "37c7a9657c1290a2d34eaf06acc99a4a7978d631f09a08012b09a31675ae1d7b", func := "proofmark/proofmarklaw08.VecShift", spec := "vecShift", unfollowed := true, recurses := true, apart := false }
def VecShiftSaid : Prop := vecShiftRow.holds Try.pinned (OpenSpec.ofChange vecShiftSpec)

/-- ITS FALSE NEIGHBOUR: 'it returns false'. Refute it at one input. -/
def vecShiftWrong : ChangeSpec := { name := "vecShift", fn := fun _ => fun
  | [d1, d2] => { results := [.lit (.bool false)], args := [d1, d2] }
  | _ => none }
def VecShiftWrongFalsely : Prop := vecShiftRow.holds Try.pinned (OpenSpec.ofChange vecShiftWrong)

/- THE SECOND FORM. 'bulk': how many values and letters a reading holds, each counted each time it is reached (what is shared counts as often as it is met; a slice's spare places count too). A statement '..UptoSaid' is the law's where the arguments, and the package variables that the reading takes, are together of bulk at most 1048576: NARROWER than '..Said'. Prove '..Said' where nothing that the law and all that it calls make is longer than what came in: it says more and counts as full. Else prove '..UptoSaid'. A law counts once. -/
mutual
def uptoBulk {H : Type} : DataW H → Nat
  | .lit (.string bytes) => bytes.length + 1
  | .lit _ => 1
  | .nil => 1
  | .ptr d => uptoBulk d + 1
  | .slice elems spare => uptoBulkAll elems + uptoBulkAll spare + 1
  | .agg parts => uptoBulkAll parts + 1
  | .iface _ d => uptoBulk d + 1
  | .map entries => uptoBulkEntries entries + 1
  | .held _ => 1
def uptoBulkAll {H : Type} : List (DataW H) → Nat
  | [] => 0
  | d :: r => uptoBulk d + uptoBulkAll r
def uptoBulkEntries {H : Type} : List (Lit × DataW H) → Nat
  | [] => 0
  | x :: r => uptoBulkEntry x + uptoBulkEntries r
def uptoBulkEntry {H : Type} : Lit × DataW H → Nat
  | (.string bytes, d) => bytes.length + uptoBulk d + 1
  | (_, d) => uptoBulk d + 1
 end
def uptoSmall : (H : Type) → List (DataW H) → Bool := fun _ ds => decide (uptoBulkAll ds ≤ 1048576)
def OpenSpec.upto (s : _root_.Go.ChangeSpec) : _root_.Go.OpenSpec := { _root_.Go.OpenSpec.ofChange s with cond := some uptoSmall }

/-- 'proofmarklaw08.VecTells', WHERE WHAT IT READS IS OF BULK AT MOST 1048576: true; the input reads as it did. -/
def vecTellsUptoRow : OpenClaim := { program := "ytcfipamdinfomaa", sum := "37c7a9657c1290a2d34eaf06acc99a4a7978d631f09a08012b09a31675ae1d7b", func := "proofmark/proofmarklaw08.VecTells", spec := "vecTells", unfollowed := true, recurses := true, apart := false, narrowed := true }
def VecTellsUptoSaid : Prop := vecTellsUptoRow.holds Try.pinned (OpenSpec.upto vecTellsSpec)

/-- 'proofmarklaw08.VecFits', WHERE WHAT IT READS IS OF BULK AT MOST 1048576: true; the input reads as it did. -/
def vecFitsUptoRow : OpenClaim := { program := "ytcfipamdinfomaa", sum := "37c7a9657c1290a2d34eaf06acc99a4a7978d631f09a08012b09a31675ae1d7b", func := "proofmark/proofmarklaw08.VecFits", spec := "vecFits", unfollowed := true, recurses := true, apart := false, narrowed := true }
def VecFitsUptoSaid : Prop := vecFitsUptoRow.holds Try.pinned (OpenSpec.upto vecFitsSpec)

/-- 'proofmarklaw08.VecSums', WHERE WHAT IT READS IS OF BULK AT MOST 1048576: true; the input reads as it did. -/
def vecSumsUptoRow : OpenClaim := { program := "ytcfipamdinfomaa", sum := "37c7a9657c1290a2d34eaf06acc99a4a7978d631f09a08012b09a31675ae1d7b", func := "proofmark/proofmarklaw08.VecSums", spec := "vecSums", unfollowed := true, recurses := true, apart := false, narrowed := true }
def VecSumsUptoSaid : Prop := vecSumsUptoRow.holds Try.pinned (OpenSpec.upto vecSumsSpec)

/-- 'proofmarklaw08.VecOrder', WHERE WHAT IT READS IS OF BULK AT MOST 1048576: true; the input reads as it did. -/
def vecOrderUptoRow : OpenClaim := { program := "ytcfipamdinfomaa", sum := "37c7a9657c1290a2d34eaf06acc99a4a7978d631f09a08012b09a31675ae1d7b", func := "proofmark/proofmarklaw08.VecOrder", spec := "vecOrder", unfollowed := true, recurses := true, apart := false, narrowed := true }
def VecOrderUptoSaid : Prop := vecOrderUptoRow.holds Try.pinned (OpenSpec.upto vecOrderSpec)

/-- 'proofmarklaw08.VecBits', WHERE WHAT IT READS IS OF BULK AT MOST 1048576: true; the input reads as it did. -/
def vecBitsUptoRow : OpenClaim := { program := "ytcfipamdinfomaa", sum := "37c7a9657c1290a2d34eaf06acc99a4a7978d631f09a08012b09a31675ae1d7b", func := "proofmark/proofmarklaw08.VecBits", spec := "vecBits", unfollowed := true, recurses := true, apart := false, narrowed := true }
def VecBitsUptoSaid : Prop := vecBitsUptoRow.holds Try.pinned (OpenSpec.upto vecBitsSpec)

/-- 'proofmarklaw08.VecParts', WHERE WHAT IT READS IS OF BULK AT MOST 1048576: true; the input reads as it did. -/
def vecPartsUptoRow : OpenClaim := { program := "ytcfipamdinfomaa", sum := "37c7a9657c1290a2d34eaf06acc99a4a7978d631f09a08012b09a31675ae1d7b", func := "proofmark/proofmarklaw08.VecParts", spec := "vecParts", unfollowed := true, recurses := true, apart := false, narrowed := true }
def VecPartsUptoSaid : Prop := vecPartsUptoRow.holds Try.pinned (OpenSpec.upto vecPartsSpec)

/-- 'proofmarklaw08.VecShift', WHERE WHAT IT READS IS OF BULK AT MOST 1048576: true; the input reads as it did. -/
def vecShiftUptoRow : OpenClaim := { program := "ytcfipamdinfomaa", sum := "37c7a9657c1290a2d34eaf06acc99a4a7978d631f09a08012b09a31675ae1d7b", func := "proofmark/proofmarklaw08.VecShift", spec := "vecShift", unfollowed := true, recurses := true, apart := false, narrowed := true }
def VecShiftUptoSaid : Prop := vecShiftUptoRow.holds Try.pinned (OpenSpec.upto vecShiftSpec)

end Rows
end Go.Proofs.Ytcfipamdinfomaa
