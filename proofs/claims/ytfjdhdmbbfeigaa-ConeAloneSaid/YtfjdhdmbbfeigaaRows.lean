/-
  No cell of these rows narrows 'for every input' (looked for: loops, veiled, ifaces, maps, wideKeys, modest, calm, conditions, laid).
  DERIVED. THE GIVEN ROWS OF THIS SEAT. 5 by the template 'for every input the law returns true; each argument reads behind the call as it read before'; 0 by the template 'total and deterministic' (their statements: YtfjdhdmbbfeigaaTotals.lean).
  GIVEN WITH THE SEED: the statements are not yours to turn. If you find one false, say at which input.
  Laid BY PROGRAM, IN A SANDBOX (cutbox-rows.mjs): the forced cells as the released guide's own fill.sh prints them over the translation c01671927f54696f… (all of the seat's roots in one cut). By AI agents, Wed Nov 11 2026. No macro, syntax, notation, axiom, sorry.
-/
import Derived.Test.YtfjdhdmbbfeigaaChecked
import GoSem.Claim
import GoSem.ClaimJoined
import GoSem.ClaimMapViews
import Derived.JoinedTies
import Derived.KernelRfl
namespace Go.Proofs.Ytfjdhdmbbfeigaa
/- THE CELL 'sum', in the pinned program and in every row, IS THE sha256 OF THE DUMP (.gsa) THAT YtfjdhdmbbfeigaaProg.lean LOADS. Nothing in Lean hashes anything: it is a label: what it is worth is what the hold of that sum in a sandbox is worth. -/
noncomputable def Try.pinned : Pinned := { name := "ytfjdhdmbbfeigaa", sum := "c01671927f54696f92c2e3a42d7fdb6c4a45a3f75d82a4791c29c658e49db22e", checked := Try.checked }
namespace Rows
def none {H : Type} : Left H := { results := [], args := [] }

/-- 'proofmarklaw16.ConeTells': WHATEVER THE INPUT: true; the input reads as it did. -/
def coneTellsSpec : ChangeSpec := { name := "coneTells", fn := fun _ => fun
  | [d1, d2, d3] => { results := [.lit (.bool true)], args := [d1, d2, d3] }
  | _ => none }
def coneTellsRow : OpenClaim := { program := "ytfjdhdmbbfeigaa", sum := "c01671927f54696f92c2e3a42d7fdb6c4a45a3f75d82a4791c29c658e49db22e", func := "proofmark/proofmarklaw16.ConeTells", spec := "coneTells", unfollowed := true, recurses := true, plainKeys := false, apart := false }
def ConeTellsSaid : Prop := coneTellsRow.holds Try.pinned (OpenSpec.ofChange coneTellsSpec)

/-- ITS FALSE NEIGHBOUR: 'it returns false'. Refute it at one input. -/
def coneTellsWrong : ChangeSpec := { name := "coneTells", fn := fun _ => fun
  | [d1, d2, d3] => { results := [.lit (.bool false)], args := [d1, d2, d3] }
  | _ => none }
def ConeTellsWrongFalsely : Prop := coneTellsRow.holds Try.pinned (OpenSpec.ofChange coneTellsWrong)

/-- 'proofmarklaw16.ConeHits': WHATEVER THE INPUT: true; the input reads as it did. -/
def coneHitsSpec : ChangeSpec := { name := "coneHits", fn := fun _ => fun
  | [d1, d2] => { results := [.lit (.bool true)], args := [d1, d2] }
  | _ => none }
def coneHitsRow : OpenClaim := { program := "ytfjdhdmbbfeigaa", sum := "c01671927f54696f92c2e3a42d7fdb6c4a45a3f75d82a4791c29c658e49db22e", func := "proofmark/proofmarklaw16.ConeHits", spec := "coneHits", unfollowed := true, recurses := true, plainKeys := false, apart := false }
def ConeHitsSaid : Prop := coneHitsRow.holds Try.pinned (OpenSpec.ofChange coneHitsSpec)

/-- ITS FALSE NEIGHBOUR: 'it returns false'. Refute it at one input. -/
def coneHitsWrong : ChangeSpec := { name := "coneHits", fn := fun _ => fun
  | [d1, d2] => { results := [.lit (.bool false)], args := [d1, d2] }
  | _ => none }
def ConeHitsWrongFalsely : Prop := coneHitsRow.holds Try.pinned (OpenSpec.ofChange coneHitsWrong)

/-- 'proofmarklaw16.ConeOrder': WHATEVER THE INPUT: true; the input reads as it did. -/
def coneOrderSpec : ChangeSpec := { name := "coneOrder", fn := fun _ => fun
  | [d1, d2] => { results := [.lit (.bool true)], args := [d1, d2] }
  | _ => none }
def coneOrderRow : OpenClaim := { program := "ytfjdhdmbbfeigaa", sum := "c01671927f54696f92c2e3a42d7fdb6c4a45a3f75d82a4791c29c658e49db22e", func := "proofmark/proofmarklaw16.ConeOrder", spec := "coneOrder", unfollowed := true, recurses := true, plainKeys := false, apart := false }
def ConeOrderSaid : Prop := coneOrderRow.holds Try.pinned (OpenSpec.ofChange coneOrderSpec)

/-- ITS FALSE NEIGHBOUR: 'it returns false'. Refute it at one input. -/
def coneOrderWrong : ChangeSpec := { name := "coneOrder", fn := fun _ => fun
  | [d1, d2] => { results := [.lit (.bool false)], args := [d1, d2] }
  | _ => none }
def ConeOrderWrongFalsely : Prop := coneOrderRow.holds Try.pinned (OpenSpec.ofChange coneOrderWrong)

/-- 'proofmarklaw16.ConeStill': WHATEVER THE INPUT: true; the input reads as it did. -/
def coneStillSpec : ChangeSpec := { name := "coneStill", fn := fun _ => fun
  | [d1, d2] => { results := [.lit (.bool true)], args := [d1, d2] }
  | _ => none }
def coneStillRow : OpenClaim := { program := "ytfjdhdmbbfeigaa", sum := "c01671927f54696f92c2e3a42d7fdb6c4a45a3f75d82a4791c29c658e49db22e", func := "proofmark/proofmarklaw16.ConeStill", spec := "coneStill", unfollowed := true, recurses := true, plainKeys := false, apart := false }
def ConeStillSaid : Prop := coneStillRow.holds Try.pinned (OpenSpec.ofChange coneStillSpec)

/-- ITS FALSE NEIGHBOUR: 'it returns false'. Refute it at one input. -/
def coneStillWrong : ChangeSpec := { name := "coneStill", fn := fun _ => fun
  | [d1, d2] => { results := [.lit (.bool false)], args := [d1, d2] }
  | _ => none }
def ConeStillWrongFalsely : Prop := coneStillRow.holds Try.pinned (OpenSpec.ofChange coneStillWrong)

/-- 'proofmarklaw16.ConeAlone': WHATEVER THE INPUT: true; the input reads as it did. -/
def coneAloneSpec : ChangeSpec := { name := "coneAlone", fn := fun _ => fun
  | [d1, d2, d3, d4] => { results := [.lit (.bool true)], args := [d1, d2, d3, d4] }
  | _ => none }
def coneAloneRow : OpenClaim := { program := "ytfjdhdmbbfeigaa", sum := "c01671927f54696f92c2e3a42d7fdb6c4a45a3f75d82a4791c29c658e49db22e", func := "proofmark/proofmarklaw16.ConeAlone", spec := "coneAlone", unfollowed := true, recurses := true, plainKeys := false, apart := false }
def ConeAloneSaid : Prop := coneAloneRow.holds Try.pinned (OpenSpec.ofChange coneAloneSpec)

/-- ITS FALSE NEIGHBOUR: 'it returns false'. Refute it at one input. -/
def coneAloneWrong : ChangeSpec := { name := "coneAlone", fn := fun _ => fun
  | [d1, d2, d3, d4] => { results := [.lit (.bool false)], args := [d1, d2, d3, d4] }
  | _ => none }
def ConeAloneWrongFalsely : Prop := coneAloneRow.holds Try.pinned (OpenSpec.ofChange coneAloneWrong)

/- THE SECOND FORM. 'bulk': how many values and letters a reading holds, each counted each time it is reached (what is shared counts as often as it is met; a slice's spare places count too). A statement '..UptoSaid' is the law's where the arguments, and the package variables that the reading takes, are together of bulk at most 1048576: NARROWER than '..Said'. Prove '..Said' where nothing that the law and all that it calls make is longer than what came in: it says more and counts as full. Else prove '..UptoSaid'. A law counts once. -/
mutual
def uptoBulk {H : Type} : DataW H → Nat
  | .lit (.string bytes) => bytes.length + 1
  | .lit _ => 1
  | .nil => 1
  | .ptr d => uptoBulk d + 1
  | .slice elems spare => uptoBulkAll elems + uptoBulkAll spare + 1
  | .agg parts => uptoBulkAll parts + 1
  | .iface _ d => uptoBulk d + 1
  | .map entries => uptoBulkEntries entries + 1
  | .held _ => 1
def uptoBulkAll {H : Type} : List (DataW H) → Nat
  | [] => 0
  | d :: r => uptoBulk d + uptoBulkAll r
def uptoBulkEntries {H : Type} : List (Lit × DataW H) → Nat
  | [] => 0
  | x :: r => uptoBulkEntry x + uptoBulkEntries r
def uptoBulkEntry {H : Type} : Lit × DataW H → Nat
  | (.string bytes, d) => bytes.length + uptoBulk d + 1
  | (_, d) => uptoBulk d + 1
 end
def uptoSmall : (H : Type) → List (DataW H) → Bool := fun _ ds => decide (uptoBulkAll ds ≤ 1048576)
def OpenSpec.upto (s : _root_.Go.ChangeSpec) : _root_.Go.OpenSpec := { _root_.Go.OpenSpec.ofChange s with cond := some uptoSmall }

/-- 'proofmarklaw16.ConeTells', WHERE WHAT IT READS IS OF BULK AT MOST 1048576: true; the input reads as it did. -/
def coneTellsUptoRow : OpenClaim := { program := "ytfjdhdmbbfeigaa", sum := "c01671927f54696f92c2e3a42d7fdb6c4a45a3f75d82a4791c29c658e49db22e", func := "proofmark/proofmarklaw16.ConeTells", spec := "coneTells", unfollowed := true, recurses := true, plainKeys := false, apart := false, narrowed := true }
def ConeTellsUptoSaid : Prop := coneTellsUptoRow.holds Try.pinned (OpenSpec.upto coneTellsSpec)

/-- 'proofmarklaw16.ConeHits', WHERE WHAT IT READS IS OF BULK AT MOST 1048576: true; the input reads as it did. -/
def coneHitsUptoRow : OpenClaim := { program := "ytfjdhdmbbfeigaa", sum := "c01671927f54696f92c2e3a42d7fdb6c4a45a3f75d82a4791c29c658e49db22e", func := "proofmark/proofmarklaw16.ConeHits", spec := "coneHits", unfollowed := true, recurses := true, plainKeys := false, apart := false, narrowed := true }
def ConeHitsUptoSaid : Prop := coneHitsUptoRow.holds Try.pinned (OpenSpec.upto coneHitsSpec)

/-- 'proofmarklaw16.ConeOrder', WHERE WHAT IT READS IS OF BULK AT MOST 1048576: true; the input reads as it did. -/
def coneOrderUptoRow : OpenClaim := { program := "ytfjdhdmbbfeigaa", sum := "c01671927f54696f92c2e3a42d7fdb6c4a45a3f75d82a4791c29c658e49db22e", func := "proofmark/proofmarklaw16.ConeOrder", spec := "coneOrder", unfollowed := true, recurses := true, plainKeys := false, apart := false, narrowed := true }
def ConeOrderUptoSaid : Prop := coneOrderUptoRow.holds Try.pinned (OpenSpec.upto coneOrderSpec)

/-- 'proofmarklaw16.ConeStill', WHERE WHAT IT READS IS OF BULK AT MOST 1048576: true; the input reads as it did. -/
def coneStillUptoRow : OpenClaim := { program := "ytfjdhdmbbfeigaa", sum := "c01671927f54696f92c2e3a42d7fdb6c4a45a3f75d82a4791c29c658e49db22e", func := "proofmark/proofmarklaw16.ConeStill", spec := "coneStill", unfollowed := true, recurses := true, plainKeys := false, apart := false, narrowed := true }
def ConeStillUptoSaid : Prop := coneStillUptoRow.holds Try.pinned (OpenSpec.upto coneStillSpec)

/-- 'proofmarklaw16.ConeAlone', WHERE WHAT IT READS IS OF BULK AT MOST 1048576: true; the input reads as it did. -/
def coneAloneUptoRow : OpenClaim := { program := "ytfjdhdmbbfeigaa", sum := "c01671927f54696f92c2e3a42d7fdb6c4a45a3f75d82a4791c29c658e49db22e", func := "proofmark/proofmarklaw16.ConeAlone", spec := "coneAlone", unfollowed := true, recurses := true, plainKeys := false, apart := false, narrowed := true }
def ConeAloneUptoSaid : Prop := coneAloneUptoRow.holds Try.pinned (OpenSpec.upto coneAloneSpec)

end Rows
end Go.Proofs.Ytfjdhdmbbfeigaa
