/-
  No cell of these rows narrows 'for every input' (looked for: loops, veiled, ifaces, maps, wideKeys, modest, calm, conditions, laid).
  DERIVED. THE GIVEN ROWS OF THIS SEAT. 6 by the template 'for every input the law returns true; each argument reads behind the call as it read before'; 0 by the template 'total and deterministic' (their statements: YtdnfbihppellkaaTotals.lean).
  GIVEN WITH THE SEED: the statements are not yours to turn. If you find one false, say at which input.
  Laid BY PROGRAM, IN A SANDBOX (cutbox-rows.mjs): the forced cells as the released guide's own fill.sh prints them over the translation c7ec44768bef54ec… (all of the seat's roots in one cut). By AI agents, Wed Nov 11 2026. No macro, syntax, notation, axiom, sorry.
-/
import Derived.Test.YtdnfbihppellkaaChecked
import GoSem.Claim
import GoSem.ClaimJoined
import GoSem.ClaimMapViews
import Derived.JoinedTies
import Derived.KernelRfl
namespace Go.Proofs.Ytdnfbihppellkaa
/- THE CELL 'sum', in the pinned program and in every row, IS THE sha256 OF THE DUMP (.gsa) THAT YtdnfbihppellkaaProg.lean LOADS. Nothing in Lean hashes anything: it is a label: what it is worth is what the hold of that sum in a sandbox is worth. -/
noncomputable def Try.pinned : Pinned := { name := "ytdnfbihppellkaa", sum := "c7ec44768bef54ec65f826aaf79b5bcfa90a02e87538a1298397c38d07b64990", checked := Try.checked }
namespace Rows
def none {H : Type} : Left H := { results := [], args := [] }

/-- 'proofmarklaw14.BlastStays': WHATEVER THE INPUT: true; the input reads as it did. -/
def blastStaysSpec : ChangeSpec := { name := "blastStays", fn := fun _ => fun
  | [d1, d2, d3, d4, d5, d6] => { results := [.lit (.bool true)], args := [d1, d2, d3, d4, d5, d6] }
  | _ => none }
def blastStaysRow : OpenClaim := { program := "ytdnfbihppellkaa", sum := "c7ec44768bef54ec65f826aaf79b5bcfa90a02e87538a1298397c38d07b64990", func := "proofmark/proofmarklaw14.BlastStays", spec := "blastStays", unfollowed := true, recurses := true, plainKeys := false, apart := false }
def BlastStaysSaid : Prop := blastStaysRow.holds Try.pinned (OpenSpec.ofChange blastStaysSpec)

/-- ITS FALSE NEIGHBOUR: 'it returns false'. Refute it at one input. -/
def blastStaysWrong : ChangeSpec := { name := "blastStays", fn := fun _ => fun
  | [d1, d2, d3, d4, d5, d6] => { results := [.lit (.bool false)], args := [d1, d2, d3, d4, d5, d6] }
  | _ => none }
def BlastStaysWrongFalsely : Prop := blastStaysRow.holds Try.pinned (OpenSpec.ofChange blastStaysWrong)

/-- 'proofmarklaw14.BlastConst': WHATEVER THE INPUT: true; the input reads as it did. -/
def blastConstSpec : ChangeSpec := { name := "blastConst", fn := fun _ => fun
  | [d1, d2] => { results := [.lit (.bool true)], args := [d1, d2] }
  | _ => none }
def blastConstRow : OpenClaim := { program := "ytdnfbihppellkaa", sum := "c7ec44768bef54ec65f826aaf79b5bcfa90a02e87538a1298397c38d07b64990", func := "proofmark/proofmarklaw14.BlastConst", spec := "blastConst", unfollowed := true, recurses := true, plainKeys := false, apart := false }
def BlastConstSaid : Prop := blastConstRow.holds Try.pinned (OpenSpec.ofChange blastConstSpec)

/-- ITS FALSE NEIGHBOUR: 'it returns false'. Refute it at one input. -/
def blastConstWrong : ChangeSpec := { name := "blastConst", fn := fun _ => fun
  | [d1, d2] => { results := [.lit (.bool false)], args := [d1, d2] }
  | _ => none }
def BlastConstWrongFalsely : Prop := blastConstRow.holds Try.pinned (OpenSpec.ofChange blastConstWrong)

/-- 'proofmarklaw14.BlastRow': WHATEVER THE INPUT: true; the input reads as it did. -/
def blastRowSpec : ChangeSpec := { name := "blastRow", fn := fun _ => fun
  | [d1, d2, d3, d4, d5] => { results := [.lit (.bool true)], args := [d1, d2, d3, d4, d5] }
  | _ => none }
def blastRowRow : OpenClaim := { program := "ytdnfbihppellkaa", sum := "c7ec44768bef54ec65f826aaf79b5bcfa90a02e87538a1298397c38d07b64990", func := "proofmark/proofmarklaw14.BlastRow", spec := "blastRow", unfollowed := true, recurses := true, plainKeys := false, apart := false }
def BlastRowSaid : Prop := blastRowRow.holds Try.pinned (OpenSpec.ofChange blastRowSpec)

/-- ITS FALSE NEIGHBOUR: 'it returns false'. Refute it at one input. -/
def blastRowWrong : ChangeSpec := { name := "blastRow", fn := fun _ => fun
  | [d1, d2, d3, d4, d5] => { results := [.lit (.bool false)], args := [d1, d2, d3, d4, d5] }
  | _ => none }
def BlastRowWrongFalsely : Prop := blastRowRow.holds Try.pinned (OpenSpec.ofChange blastRowWrong)

/-- 'proofmarklaw14.BlastParts': WHATEVER THE INPUT: true; the input reads as it did. -/
def blastPartsSpec : ChangeSpec := { name := "blastParts", fn := fun _ => fun
  | [d1, d2, d3, d4, d5, d6] => { results := [.lit (.bool true)], args := [d1, d2, d3, d4, d5, d6] }
  | _ => none }
def blastPartsRow : OpenClaim := { program := "ytdnfbihppellkaa", sum := "c7ec44768bef54ec65f826aaf79b5bcfa90a02e87538a1298397c38d07b64990", func := "proofmark/proofmarklaw14.BlastParts", spec := "blastParts", unfollowed := true, recurses := true, plainKeys := false, apart := false }
def BlastPartsSaid : Prop := blastPartsRow.holds Try.pinned (OpenSpec.ofChange blastPartsSpec)

/-- ITS FALSE NEIGHBOUR: 'it returns false'. Refute it at one input. -/
def blastPartsWrong : ChangeSpec := { name := "blastParts", fn := fun _ => fun
  | [d1, d2, d3, d4, d5, d6] => { results := [.lit (.bool false)], args := [d1, d2, d3, d4, d5, d6] }
  | _ => none }
def BlastPartsWrongFalsely : Prop := blastPartsRow.holds Try.pinned (OpenSpec.ofChange blastPartsWrong)

/-- 'proofmarklaw14.BlastOrder': WHATEVER THE INPUT: true; the input reads as it did. -/
def blastOrderSpec : ChangeSpec := { name := "blastOrder", fn := fun _ => fun
  | [d1, d2, d3, d4, d5, d6] => { results := [.lit (.bool true)], args := [d1, d2, d3, d4, d5, d6] }
  | _ => none }
def blastOrderRow : OpenClaim := { program := "ytdnfbihppellkaa", sum := "c7ec44768bef54ec65f826aaf79b5bcfa90a02e87538a1298397c38d07b64990", func := "proofmark/proofmarklaw14.BlastOrder", spec := "blastOrder", unfollowed := true, recurses := true, plainKeys := false, apart := false }
def BlastOrderSaid : Prop := blastOrderRow.holds Try.pinned (OpenSpec.ofChange blastOrderSpec)

/-- ITS FALSE NEIGHBOUR: 'it returns false'. Refute it at one input. -/
def blastOrderWrong : ChangeSpec := { name := "blastOrder", fn := fun _ => fun
  | [d1, d2, d3, d4, d5, d6] => { results := [.lit (.bool false)], args := [d1, d2, d3, d4, d5, d6] }
  | _ => none }
def BlastOrderWrongFalsely : Prop := blastOrderRow.holds Try.pinned (OpenSpec.ofChange blastOrderWrong)

/-- 'proofmarklaw14.BlastMeans': WHATEVER THE INPUT: true; the input reads as it did. -/
def blastMeansSpec : ChangeSpec := { name := "blastMeans", fn := fun _ => fun
  | [d1, d2, d3, d4, d5, d6, d7] => { results := [.lit (.bool true)], args := [d1, d2, d3, d4, d5, d6, d7] }
  | _ => none }
def blastMeansRow : OpenClaim := { program := "ytdnfbihppellkaa", sum := "c7ec44768bef54ec65f826aaf79b5bcfa90a02e87538a1298397c38d07b64990", func := "proofmark/proofmarklaw14.BlastMeans", spec := "blastMeans", unfollowed := true, recurses := true, plainKeys := false, apart := false }
def BlastMeansSaid : Prop := blastMeansRow.holds Try.pinned (OpenSpec.ofChange blastMeansSpec)

/-- ITS FALSE NEIGHBOUR: 'it returns false'. Refute it at one input. -/
def blastMeansWrong : ChangeSpec := { name := "blastMeans", fn := fun _ => fun
  | [d1, d2, d3, d4, d5, d6, d7] => { results := [.lit (.bool false)], args := [d1, d2, d3, d4, d5, d6, d7] }
  | _ => none }
def BlastMeansWrongFalsely : Prop := blastMeansRow.holds Try.pinned (OpenSpec.ofChange blastMeansWrong)

/- THE SECOND FORM. 'bulk': how many values and letters a reading holds, each counted each time it is reached (what is shared counts as often as it is met; a slice's spare places count too). A statement '..UptoSaid' is the law's where the arguments, and the package variables that the reading takes, are together of bulk at most 1048576: NARROWER than '..Said'. Prove '..Said' where nothing that the law and all that it calls make is longer than what came in: it says more and counts as full. Else prove '..UptoSaid'. A law counts once. -/
mutual
def uptoBulk {H : Type} : DataW H → Nat
  | .lit (.string bytes) => bytes.length + 1
  | .lit _ => 1
  | .nil => 1
  | .ptr d => uptoBulk d + 1
  | .slice elems spare => uptoBulkAll elems + uptoBulkAll spare + 1
  | .agg parts => uptoBulkAll parts + 1
  | .iface _ d => uptoBulk d + 1
  | .map entries => uptoBulkEntries entries + 1
  | .held _ => 1
def uptoBulkAll {H : Type} : List (DataW H) → Nat
  | [] => 0
  | d :: r => uptoBulk d + uptoBulkAll r
def uptoBulkEntries {H : Type} : List (Lit × DataW H) → Nat
  | [] => 0
  | x :: r => uptoBulkEntry x + uptoBulkEntries r
def uptoBulkEntry {H : Type} : Lit × DataW H → Nat
  | (.string bytes, d) => bytes.length + uptoBulk d + 1
  | (_, d) => uptoBulk d + 1
 end
def uptoSmall : (H : Type) → List (DataW H) → Bool := fun _ ds => decide (uptoBulkAll ds ≤ 1048576)
def OpenSpec.upto (s : _root_.Go.ChangeSpec) : _root_.Go.OpenSpec := { _root_.Go.OpenSpec.ofChange s with cond := some uptoSmall }

/-- 'proofmarklaw14.BlastStays', WHERE WHAT IT READS IS OF BULK AT MOST 1048576: true; the input reads as it did. -/
def blastStaysUptoRow : OpenClaim := { program := "ytdnfbihppellkaa", sum := "c7ec44768bef54ec65f826aaf79b5bcfa90a02e87538a1298397c38d07b64990", func := "proofmark/proofmarklaw14.BlastStays", spec := "blastStays", unfollowed := true, recurses := true, plainKeys := false, apart := false, narrowed := true }
def BlastStaysUptoSaid : Prop := blastStaysUptoRow.holds Try.pinned (OpenSpec.upto blastStaysSpec)

/-- 'proofmarklaw14.BlastConst', WHERE WHAT IT READS IS OF BULK AT MOST 1048576: true; the input reads as it did. -/
def blastConstUptoRow : OpenClaim := { program := "ytdnfbihppellkaa", sum := "c7ec44768bef54ec65f826aaf79b5bcfa90a02e87538a1298397c38d07b64990", func := "proofmark/proofmarklaw14.BlastConst", spec := "blastConst", unfollowed := true, recurses := true, plainKeys := false, apart := false, narrowed := true }
def BlastConstUptoSaid : Prop := blastConstUptoRow.holds Try.pinned (OpenSpec.upto blastConstSpec)

/-- 'proofmarklaw14.BlastRow', WHERE WHAT IT READS IS OF BULK AT MOST 1048576: true; the input reads as it did. -/
def blastRowUptoRow : OpenClaim := { program := "ytdnfbihppellkaa", sum := "c7ec44768bef54ec65f826aaf79b5bcfa90a02e87538a1298397c38d07b64990", func := "proofmark/proofmarklaw14.BlastRow", spec := "blastRow", unfollowed := true, recurses := true, plainKeys := false, apart := false, narrowed := true }
def BlastRowUptoSaid : Prop := blastRowUptoRow.holds Try.pinned (OpenSpec.upto blastRowSpec)

/-- 'proofmarklaw14.BlastParts', WHERE WHAT IT READS IS OF BULK AT MOST 1048576: true; the input reads as it did. -/
def blastPartsUptoRow : OpenClaim := { program := "ytdnfbihppellkaa", sum := "c7ec44768bef54ec65f826aaf79b5bcfa90a02e87538a1298397c38d07b64990", func := "proofmark/proofmarklaw14.BlastParts", spec := "blastParts", unfollowed := true, recurses := true, plainKeys := false, apart := false, narrowed := true }
def BlastPartsUptoSaid : Prop := blastPartsUptoRow.holds Try.pinned (OpenSpec.upto blastPartsSpec)

/-- 'proofmarklaw14.BlastOrder', WHERE WHAT IT READS IS OF BULK AT MOST 1048576: true; the input reads as it did. -/
def blastOrderUptoRow : OpenClaim := { program := "ytdnfbihppellkaa", sum := "c7ec44768bef54ec65f826aaf79b5bcfa90a02e87538a1298397c38d07b64990", func := "proofmark/proofmarklaw14.BlastOrder", spec := "blastOrder", unfollowed := true, recurses := true, plainKeys := false, apart := false, narrowed := true }
def BlastOrderUptoSaid : Prop := blastOrderUptoRow.holds Try.pinned (OpenSpec.upto blastOrderSpec)

/-- 'proofmarklaw14.BlastMeans', WHERE WHAT IT READS IS OF BULK AT MOST 1048576: true; the input reads as it did. -/
def blastMeansUptoRow : OpenClaim := { program := "ytdnfbihppellkaa", sum := "c7ec44768bef54ec65f826aaf79b5bcfa90a02e87538a1298397c38d07b64990", func := "proofmark/proofmarklaw14.BlastMeans", spec := "blastMeans", unfollowed := true, recurses := true, plainKeys := false, apart := false, narrowed := true }
def BlastMeansUptoSaid : Prop := blastMeansUptoRow.holds Try.pinned (OpenSpec.upto blastMeansSpec)

end Rows
end Go.Proofs.Ytdnfbihppellkaa
