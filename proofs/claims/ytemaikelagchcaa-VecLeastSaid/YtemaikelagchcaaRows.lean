/-
  No cell of these rows narrows 'for every input' (looked for: loops, veiled, ifaces, maps, wideKeys, modest, calm, conditions, laid).
  DERIVED. THE GIVEN ROWS OF THIS SEAT. 5 by the template 'for every input the law returns true; each argument reads behind the call as it read before'; 0 by the template 'total and deterministic' (their statements: YtemaikelagchcaaTotals.lean).
  GIVEN WITH THE SEED: the statements are not yours to turn. If you find one false, say at which input.
  Laid BY PROGRAM, IN A SANDBOX (cutbox-rows.mjs): the forced cells as the released guide's own fill.sh prints them over the translation fda67aca97a5d1b2… (all of the seat's roots in one cut). By AI agents, Wed Nov 11 2026. No macro, syntax, notation, axiom, sorry.
-/
import Derived.Test.YtemaikelagchcaaChecked
import GoSem.Claim
import GoSem.ClaimJoined
import GoSem.ClaimMapViews
import Derived.JoinedTies
import Derived.KernelRfl
namespace Go.Proofs.Ytemaikelagchcaa
/- THE CELL 'sum', in the pinned program and in every row, IS THE sha256 OF THE DUMP (.gsa) THAT YtemaikelagchcaaProg.lean LOADS. Nothing in Lean hashes anything: it is a label: what it is worth is what the hold of that sum in a sandbox is worth. -/
noncomputable def Try.pinned : Pinned := { name := "ytemaikelagchcaa", sum := "fda67aca97a5d1b29414168a43141ebc0ca87dfcf10c3908e606efd2e51e6499", checked := Try.checked }
namespace Rows
def none {H : Type} : Left H := { results := [], args := [] }

/-- 'precentorlaw07.VecTells': WHATEVER THE INPUT: true; the input reads as it did. -/
def vecTellsSpec : ChangeSpec := { name := "vecTells", fn := fun _ => fun
  | [d] => { results := [.lit (.bool true)], args := [d] }
  | _ => none }
def vecTellsRow : OpenClaim := { program := "ytemaikelagchcaa", sum := "fda67aca97a5d1b29414168a43141ebc0ca87dfcf10c3908e606efd2e51e6499", func := "precentor/precentorlaw07.VecTells", spec := "vecTells", unfollowed := true, recurses := true, apart := false }
def VecTellsSaid : Prop := vecTellsRow.holds Try.pinned (OpenSpec.ofChange vecTellsSpec)

/-- ITS FALSE NEIGHBOUR: 'it returns false'. Refute it at one input. -/
def vecTellsWrong : ChangeSpec := { name := "vecTells", fn := fun _ => fun
  | [d] => { results := [.lit (.bool false)], args := [d] }
  | _ => none }
def VecTellsWrongFalsely : Prop := vecTellsRow.holds Try.pinned (OpenSpec.ofChange vecTellsWrong)

/-- 'precentorlaw07.VecBounds': WHATEVER THE INPUT: true; the input reads as it did. -/
def vecBoundsSpec : ChangeSpec := { name := "vecBounds", fn := fun _ => fun
  | [d1, d2, d3] => { results := [.lit (.bool true)], args := [d1, d2, d3] }
  | _ => none }
def vecBoundsRow : OpenClaim := { program := "ytemaikelagchcaa", sum := "fda67aca97a5d1b29414168a43141ebc0ca87dfcf10c3908e606efd2e51e6499", func := "precentor/precentorlaw07.VecBounds", spec := "vecBounds", unfollowed := true, recurses := true, apart := false }
def VecBoundsSaid : Prop := vecBoundsRow.holds Try.pinned (OpenSpec.ofChange vecBoundsSpec)

/-- ITS FALSE NEIGHBOUR: 'it returns false'. Refute it at one input. -/
def vecBoundsWrong : ChangeSpec := { name := "vecBounds", fn := fun _ => fun
  | [d1, d2, d3] => { results := [.lit (.bool false)], args := [d1, d2, d3] }
  | _ => none }
def VecBoundsWrongFalsely : Prop := vecBoundsRow.holds Try.pinned (OpenSpec.ofChange vecBoundsWrong)

/-- 'precentorlaw07.VecOrder': WHATEVER THE INPUT: true; the input reads as it did. -/
def vecOrderSpec : ChangeSpec := { name := "vecOrder", fn := fun _ => fun
  | [d1, d2, d3] => { results := [.lit (.bool true)], args := [d1, d2, d3] }
  | _ => none }
def vecOrderRow : OpenClaim := { program := "ytemaikelagchcaa", sum := "fda67aca97a5d1b29414168a43141ebc0ca87dfcf10c3908e606efd2e51e6499", func := "precentor/precentorlaw07.VecOrder", spec := "vecOrder", unfollowed := true, recurses := true, apart := false }
def VecOrderSaid : Prop := vecOrderRow.holds Try.pinned (OpenSpec.ofChange vecOrderSpec)

/-- ITS FALSE NEIGHBOUR: 'it returns false'. Refute it at one input. -/
def vecOrderWrong : ChangeSpec := { name := "vecOrder", fn := fun _ => fun
  | [d1, d2, d3] => { results := [.lit (.bool false)], args := [d1, d2, d3] }
  | _ => none }
def VecOrderWrongFalsely : Prop := vecOrderRow.holds Try.pinned (OpenSpec.ofChange vecOrderWrong)

/-- 'precentorlaw07.VecLeast': WHATEVER THE INPUT: true; the input reads as it did. -/
def vecLeastSpec : ChangeSpec := { name := "vecLeast", fn := fun _ => fun
  | [d] => { results := [.lit (.bool true)], args := [d] }
  | _ => none }
def vecLeastRow : OpenClaim := { program := "ytemaikelagchcaa", sum := "fda67aca97a5d1b29414168a43141ebc0ca87dfcf10c3908e606efd2e51e6499", func := "precentor/precentorlaw07.VecLeast", spec := "vecLeast", unfollowed := true, recurses := true, apart := false }
def VecLeastSaid : Prop := vecLeastRow.holds Try.pinned (OpenSpec.ofChange vecLeastSpec)

/-- ITS FALSE NEIGHBOUR: 'it returns false'. Refute it at one input. -/
def vecLeastWrong : ChangeSpec := { name := "vecLeast", fn := fun _ => fun
  | [d] => { results := [.lit (.bool false)], args := [d] }
  | _ => none }
def VecLeastWrongFalsely : Prop := vecLeastRow.holds Try.pinned (OpenSpec.ofChange vecLeastWrong)

/-- 'precentorlaw07.VecSums': WHATEVER THE INPUT: true; the input reads as it did. -/
def vecSumsSpec : ChangeSpec := { name := "vecSums", fn := fun _ => fun
  | [d] => { results := [.lit (.bool true)], args := [d] }
  | _ => none }
def vecSumsRow : OpenClaim := { program := "ytemaikelagchcaa", sum := "fda67aca97a5d1b29414168a43141ebc0ca87dfcf10c3908e606efd2e51e6499", func := "precentor/precentorlaw07.VecSums", spec := "vecSums", unfollowed := true, recurses := true, apart := false }
def VecSumsSaid : Prop := vecSumsRow.holds Try.pinned (OpenSpec.ofChange vecSumsSpec)

/-- ITS FALSE NEIGHBOUR: 'it returns false'. Refute it at one input. -/
def vecSumsWrong : ChangeSpec := { name := "vecSums", fn := fun _ => fun
  | [d] => { results := [.lit (.bool false)], args := [d] }
  | _ => none }
def VecSumsWrongFalsely : Prop := vecSumsRow.holds Try.pinned (OpenSpec.ofChange vecSumsWrong)

/- THE SECOND FORM. 'bulk': how many values and letters a reading holds, each counted each time it is reached (what is shared counts as often as it is met; a slice's spare places count too). A statement '..UptoSaid' is the law's where the arguments, and the package variables that the reading takes, are together of bulk at most 1048576: NARROWER than '..Said'. Prove '..Said' where nothing that the law and all that it calls make is longer than what came in: it says more and counts as full. Else prove '..UptoSaid'. A law counts once. -/
mutual
def uptoBulk {H : Type} : DataW H → Nat
  | .lit (.string bytes) => bytes.length + 1
  | .lit _ => 1
  | .nil => 1
  | .ptr d => uptoBulk d + 1
  | .slice elems spare => uptoBulkAll elems + uptoBulkAll spare + 1
  | .agg parts => uptoBulkAll parts + 1
  | .iface _ d => uptoBulk d + 1
  | .map entries => uptoBulkEntries entries + 1
  | .held _ => 1
def uptoBulkAll {H : Type} : List (DataW H) → Nat
  | [] => 0
  | d :: r => uptoBulk d + uptoBulkAll r
def uptoBulkEntries {H : Type} : List (Lit × DataW H) → Nat
  | [] => 0
  | x :: r => uptoBulkEntry x + uptoBulkEntries r
def uptoBulkEntry {H : Type} : Lit × DataW H → Nat
  | (.string bytes, d) => bytes.length + uptoBulk d + 1
  | (_, d) => uptoBulk d + 1
 end
def uptoSmall : (H : Type) → List (DataW H) → Bool := fun _ ds => decide (uptoBulkAll ds ≤ 1048576)
def OpenSpec.upto (s : _root_.Go.ChangeSpec) : _root_.Go.OpenSpec := { _root_.Go.OpenSpec.ofChange s with cond := some uptoSmall }

/-- 'precentorlaw07.VecTells', WHERE WHAT IT READS IS OF BULK AT MOST 1048576: true; the input reads as it did. -/
def vecTellsUptoRow : OpenClaim := { program := "ytemaikelagchcaa", sum := "fda67aca97a5d1b29414168a43141ebc0ca87dfcf10c3908e606efd2e51e6499", func := "precentor/precentorlaw07.VecTells", spec := "vecTells", unfollowed := true, recurses := true, apart := false, narrowed := true }
def VecTellsUptoSaid : Prop := vecTellsUptoRow.holds Try.pinned (OpenSpec.upto vecTellsSpec)

/-- 'precentorlaw07.VecBounds', WHERE WHAT IT READS IS OF BULK AT MOST 1048576: true; the input reads as it did. -/
def vecBoundsUptoRow : OpenClaim := { program := "ytemaikelagchcaa", sum := "fda67aca97a5d1b29414168a43141ebc0ca87dfcf10c3908e606efd2e51e6499", func := "precentor/precentorlaw07.VecBounds", spec := "vecBounds", unfollowed := true, recurses := true, apart := false, narrowed := true }
def VecBoundsUptoSaid : Prop := vecBoundsUptoRow.holds Try.pinned (OpenSpec.upto vecBoundsSpec)

/-- 'precentorlaw07.VecOrder', WHERE WHAT IT READS IS OF BULK AT MOST 1048576: true; the input reads as it did. -/
def vecOrderUptoRow : OpenClaim := { program := "ytemaikelagchcaa", sum := "fda67aca97a5d1b29414168a43141ebc0ca87dfcf10c3908e606efd2e51e6499", func := "precentor/precentorlaw07.VecOrder", spec := "vecOrder", unfollowed := true, recurses := true, apart := false, narrowed := true }
def VecOrderUptoSaid : Prop := vecOrderUptoRow.holds Try.pinned (OpenSpec.upto vecOrderSpec)

/-- 'precentorlaw07.VecLeast', WHERE WHAT IT READS IS OF BULK AT MOST 1048576: true; the input reads as it did. -/
def vecLeastUptoRow : OpenClaim := { program := "ytemaikelagchcaa", sum := "fda67aca97a5d1b29414168a43141ebc0ca87dfcf10c3908e606efd2e51e6499", func := "precentor/precentorlaw07.VecLeast", spec := "vecLeast", unfollowed := true, recurses := true, apart := false, narrowed := true }
def VecLeastUptoSaid : Prop := vecLeastUptoRow.holds Try.pinned (OpenSpec.upto vecLeastSpec)

/-- 'precentorlaw07.VecSums', WHERE WHAT IT READS IS OF BULK AT MOST 1048576: true; the input reads as it did. -/
def vecSumsUptoRow : OpenClaim := { program := "ytemaikelagchcaa", sum := "fda67aca97a5d1b29414168a43141ebc0ca87dfcf10c3908e606efd2e51e6499", func := "precentor/precentorlaw07.VecSums", spec := "vecSums", unfollowed := true, recurses := true, apart := false, narrowed := true }
def VecSumsUptoSaid : Prop := vecSumsUptoRow.holds Try.pinned (OpenSpec.upto vecSumsSpec)

end Rows
end Go.Proofs.Ytemaikelagchcaa
