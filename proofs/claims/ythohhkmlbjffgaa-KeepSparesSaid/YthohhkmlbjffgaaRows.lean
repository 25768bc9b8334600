/-
  No cell of these rows narrows 'for every input' (looked for: loops, veiled, ifaces, maps, wideKeys, modest, calm, conditions, laid).
  DERIVED. THE GIVEN ROWS OF THIS SEAT. 6 by the template 'for every input the law returns true; each argument reads behind the call as it read before'; 0 by the template 'total and deterministic' (their statements: YthohhkmlbjffgaaTotals.lean).
  GIVEN WITH THE SEED: the statements are not yours to turn. If you find one false, say at which input.
  Laid BY PROGRAM, IN A SANDBOX (cutbox-rows.mjs): the forced cells as the released guide's own fill.sh prints them over the translation 11ffd46faab1c960… (all of the seat's roots in one cut). By AI agents, Wed Nov 11 2026. No macro, syntax, notation, axiom, sorry.
-/
import Derived.Test.YthohhkmlbjffgaaChecked
import GoSem.Claim
import GoSem.ClaimJoined
import GoSem.ClaimMapViews
import Derived.JoinedTies
import Derived.KernelRfl
namespace Go.Proofs.Ythohhkmlbjffgaa
/- THE CELL 'sum', in the pinned program and in every row, IS THE sha256 OF THE DUMP (.gsa) THAT YthohhkmlbjffgaaProg.lean LOADS. Nothing in Lean hashes anything: it is a label: what it is worth is what the hold of that sum in a sandbox is worth. -/
noncomputable def Try.pinned : Pinned := { name := "ythohhkmlbjffgaa", sum := "11ffd46faab1c9609ccfc91ca36e90bc9477d92e3cd0c9df96d4c29848870399", checked := Try.checked }
namespace Rows
def none {H : Type} : Left H := { results := [], args := [] }

/-- 'precentorlaw08.KeepTells': WHATEVER THE INPUT: true; the input reads as it did. -/
def keepTellsSpec : ChangeSpec := { name := "keepTells", fn := fun _ => fun
  | [d] => { results := [.lit (.bool true)], args := [d] }
  | _ => none }
def keepTellsRow : OpenClaim := { program := "ythohhkmlbjffgaa", sum := "11ffd46faab1c9609ccfc91ca36e90bc9477d92e3cd0c9df96d4c29848870399", func := "precentor/precentorlaw08.KeepTells", spec := "keepTells", unfollowed := true, recurses := true, apart := false }
def KeepTellsSaid : Prop := keepTellsRow.holds Try.pinned (OpenSpec.ofChange keepTellsSpec)

/-- ITS FALSE NEIGHBOUR: 'it returns false'. Refute it at one input. -/
def keepTellsWrong : ChangeSpec := { name := "keepTells", fn := fun _ => fun
  | [d] => { results := [.lit (.bool false)], args := [d] }
  | _ => none }
def KeepTellsWrongFalsely : Prop := keepTellsRow.holds Try.pinned (OpenSpec.ofChange keepTellsWrong)

/-- 'precentorlaw08.KeepStays': WHATEVER THE INPUT: true; the input reads as it did. -/
def keepStaysSpec : ChangeSpec := { name := "keepStays", fn := fun _ => fun
  | [d] => { results := [.lit (.bool true)], args := [d] }
  | _ => none }
def keepStaysRow : OpenClaim := { program := "ythohhkmlbjffgaa", sum := "11ffd46faab1c9609ccfc91ca36e90bc9477d92e3cd0c9df96d4c29848870399", func := "precentor/precentorlaw08.KeepStays", spec := "keepStays", unfollowed := true, recurses := true, apart := false }
def KeepStaysSaid : Prop := keepStaysRow.holds Try.pinned (OpenSpec.ofChange keepStaysSpec)

/-- ITS FALSE NEIGHBOUR: 'it returns false'. Refute it at one input. -/
def keepStaysWrong : ChangeSpec := { name := "keepStays", fn := fun _ => fun
  | [d] => { results := [.lit (.bool false)], args := [d] }
  | _ => none }
def KeepStaysWrongFalsely : Prop := keepStaysRow.holds Try.pinned (OpenSpec.ofChange keepStaysWrong)

/-- 'precentorlaw08.KeepMany': WHATEVER THE INPUT: true; the input reads as it did. -/
def keepManySpec : ChangeSpec := { name := "keepMany", fn := fun _ => fun
  | [d1, d2, d3] => { results := [.lit (.bool true)], args := [d1, d2, d3] }
  | _ => none }
def keepManyRow : OpenClaim := { program := "ythohhkmlbjffgaa", sum := "11ffd46faab1c9609ccfc91ca36e90bc9477d92e3cd0c9df96d4c29848870399", func := "precentor/precentorlaw08.KeepMany", spec := "keepMany", unfollowed := true, recurses := true, apart := false }
def KeepManySaid : Prop := keepManyRow.holds Try.pinned (OpenSpec.ofChange keepManySpec)

/-- ITS FALSE NEIGHBOUR: 'it returns false'. Refute it at one input. -/
def keepManyWrong : ChangeSpec := { name := "keepMany", fn := fun _ => fun
  | [d1, d2, d3] => { results := [.lit (.bool false)], args := [d1, d2, d3] }
  | _ => none }
def KeepManyWrongFalsely : Prop := keepManyRow.holds Try.pinned (OpenSpec.ofChange keepManyWrong)

/-- 'precentorlaw08.KeepFree': WHATEVER THE INPUT: true; the input reads as it did. -/
def keepFreeSpec : ChangeSpec := { name := "keepFree", fn := fun _ => fun
  | [d1, d2, d3] => { results := [.lit (.bool true)], args := [d1, d2, d3] }
  | _ => none }
def keepFreeRow : OpenClaim := { program := "ythohhkmlbjffgaa", sum := "11ffd46faab1c9609ccfc91ca36e90bc9477d92e3cd0c9df96d4c29848870399", func := "precentor/precentorlaw08.KeepFree", spec := "keepFree", unfollowed := true, recurses := true, apart := false }
def KeepFreeSaid : Prop := keepFreeRow.holds Try.pinned (OpenSpec.ofChange keepFreeSpec)

/-- ITS FALSE NEIGHBOUR: 'it returns false'. Refute it at one input. -/
def keepFreeWrong : ChangeSpec := { name := "keepFree", fn := fun _ => fun
  | [d1, d2, d3] => { results := [.lit (.bool false)], args := [d1, d2, d3] }
  | _ => none }
def KeepFreeWrongFalsely : Prop := keepFreeRow.holds Try.pinned (OpenSpec.ofChange keepFreeWrong)

/-- 'precentorlaw08.KeepGets': WHATEVER THE INPUT: true; the input reads as it did. -/
def keepGetsSpec : ChangeSpec := { name := "keepGets", fn := fun _ => fun
  | [d1, d2] => { results := [.lit (.bool true)], args := [d1, d2] }
  | _ => none }
def keepGetsRow : OpenClaim := { program := "ythohhkmlbjffgaa", sum := "11ffd46faab1c9609ccfc91ca36e90bc9477d92e3cd0c9df96d4c29848870399", func := "precentor/precentorlaw08.KeepGets", spec := "keepGets", unfollowed := true, recurses := true, apart := false }
def KeepGetsSaid : Prop := keepGetsRow.holds Try.pinned (OpenSpec.ofChange keepGetsSpec)

/-- ITS FALSE NEIGHBOUR: 'it returns false'. Refute it at one input. -/
def keepGetsWrong : ChangeSpec := { name := "keepGets", fn := fun _ => fun
  | [d1, d2] => { results := [.lit (.bool false)], args := [d1, d2] }
  | _ => none }
def KeepGetsWrongFalsely : Prop := keepGetsRow.holds Try.pinned (OpenSpec.ofChange keepGetsWrong)

/-- 'precentorlaw08.KeepSpares': WHATEVER THE INPUT: true; the input reads as it did. -/
def keepSparesSpec : ChangeSpec := { name := "keepSpares", fn := fun _ => fun
  | [d] => { results := [.lit (.bool true)], args := [d] }
  | _ => none }
def keepSparesRow : OpenClaim := { program := "ythohhkmlbjffgaa", sum := "11ffd46faab1c9609ccfc91ca36e90bc9477d92e3cd0c9df96d4c29848870399", func := "precentor/precentorlaw08.KeepSpares", spec := "keepSpares", unfollowed := true, recurses := true, apart := false }
def KeepSparesSaid : Prop := keepSparesRow.holds Try.pinned (OpenSpec.ofChange keepSparesSpec)

/-- ITS FALSE NEIGHBOUR: 'it returns false'. Refute it at one input. -/
def keepSparesWrong : ChangeSpec := { name := "keepSpares", fn := fun _ => fun
  | [d] => { results := [.lit (.bool false)], args := [d] }
  | _ => none }
def KeepSparesWrongFalsely : Prop := keepSparesRow.holds Try.pinned (OpenSpec.ofChange keepSparesWrong)

/- THE SECOND FORM. 'bulk': how many values and letters a reading holds, each counted each time it is reached (what is shared counts as often as it is met; a slice's spare places count too). A statement '..UptoSaid' is the law's where the arguments, and the package variables that the reading takes, are together of bulk at most 1048576: NARROWER than '..Said'. Prove '..Said' where nothing that the law and all that it calls make is longer than what came in: it says more and counts as full. Else prove '..UptoSaid'. A law counts once. -/
mutual
def uptoBulk {H : Type} : DataW H → Nat
  | .lit (.string bytes) => bytes.length + 1
  | .lit _ => 1
  | .nil => 1
  | .ptr d => uptoBulk d + 1
  | .slice elems spare => uptoBulkAll elems + uptoBulkAll spare + 1
  | .agg parts => uptoBulkAll parts + 1
  | .iface _ d => uptoBulk d + 1
  | .map entries => uptoBulkEntries entries + 1
  | .held _ => 1
def uptoBulkAll {H : Type} : List (DataW H) → Nat
  | [] => 0
  | d :: r => uptoBulk d + uptoBulkAll r
def uptoBulkEntries {H : Type} : List (Lit × DataW H) → Nat
  | [] => 0
  | x :: r => uptoBulkEntry x + uptoBulkEntries r
def uptoBulkEntry {H : Type} : Lit × DataW H → Nat
  | (.string bytes, d) => bytes.length + uptoBulk d + 1
  | (_, d) => uptoBulk d + 1
 end
def uptoSmall : (H : Type) → List (DataW H) → Bool := fun _ ds => decide (uptoBulkAll ds ≤ 1048576)
def OpenSpec.upto (s : _root_.Go.ChangeSpec) : _root_.Go.OpenSpec := { _root_.Go.OpenSpec.ofChange s with cond := some uptoSmall }

/-- 'precentorlaw08.KeepTells', WHERE WHAT IT READS IS OF BULK AT MOST 1048576: true; the input reads as it did. -/
def keepTellsUptoRow : OpenClaim := { program := "ythohhkmlbjffgaa", sum := "11ffd46faab1c9609ccfc91ca36e90bc9477d92e3cd0c9df96d4c29848870399", func := "precentor/precentorlaw08.KeepTells", spec := "keepTells", unfollowed := true, recurses := true, apart := false, narrowed := true }
def KeepTellsUptoSaid : Prop := keepTellsUptoRow.holds Try.pinned (OpenSpec.upto keepTellsSpec)

/-- 'precentorlaw08.KeepStays', WHERE WHAT IT READS IS OF BULK AT MOST 1048576: true; the input reads as it did. -/
def keepStaysUptoRow : OpenClaim := { program := "ythohhkmlbjffgaa", sum := "11ffd46faab1c9609ccfc91ca36e90bc9477d92e3cd0c9df96d4c29848870399", func := "precentor/precentorlaw08.KeepStays", spec := "keepStays", unfollowed := true, recurses := true, apart := false, narrowed := true }
def KeepStaysUptoSaid : Prop := keepStaysUptoRow.holds Try.pinned (OpenSpec.upto keepStaysSpec)

/-- 'precentorlaw08.KeepMany', WHERE WHAT IT READS IS OF BULK AT MOST 1048576: true; the input reads as it did. -/
def keepManyUptoRow : OpenClaim := { program := "ythohhkmlbjffgaa", sum := "11ffd46faab1c9609ccfc91ca36e90bc9477d92e3cd0c9df96d4c29848870399", func := "precentor/precentorlaw08.KeepMany", spec := "keepMany", unfollowed := true, recurses := true, apart := false, narrowed := true }
def KeepManyUptoSaid : Prop := keepManyUptoRow.holds Try.pinned (OpenSpec.upto keepManySpec)

/-- 'precentorlaw08.KeepFree', WHERE WHAT IT READS IS OF BULK AT MOST 1048576: true; the input reads as it did. -/
def keepFreeUptoRow : OpenClaim := { program := "ythohhkmlbjffgaa", sum := "11ffd46faab1c9609ccfc91ca36e90bc9477d92e3cd0c9df96d4c29848870399", func := "precentor/precentorlaw08.KeepFree", spec := "keepFree", unfollowed := true, recurses := true, apart := false, narrowed := true }
def KeepFreeUptoSaid : Prop := keepFreeUptoRow.holds Try.pinned (OpenSpec.upto keepFreeSpec)

/-- 'precentorlaw08.KeepGets', WHERE WHAT IT READS IS OF BULK AT MOST 1048576: true; the input reads as it did. -/
def keepGetsUptoRow : OpenClaim := { program := "ythohhkmlbjffgaa", sum := "11ffd46faab1c9609ccfc91ca36e90bc9477d92e3cd0c9df96d4c29848870399", func := "precentor/precentorlaw08.KeepGets", spec := "keepGets", unfollowed := true, recurses := true, apart := false, narrowed := true }
def KeepGetsUptoSaid : Prop := keepGetsUptoRow.holds Try.pinned (OpenSpec.upto keepGetsSpec)

/-- 'precentorlaw08.KeepSpares', WHERE WHAT IT READS IS OF BULK AT MOST 1048576: true; the input reads as it did. -/
def keepSparesUptoRow : OpenClaim := { program := "ythohhkmlbjffgaa", sum := "11ffd46faab1c9609ccfc91ca36e90bc9477d92e3cd0c9df96d4c29848870399", func := "precentor/precentorlaw08.KeepSpares", spec := "keepSpares", unfollowed := true, recurses := true, apart := false, narrowed := true }
def KeepSparesUptoSaid : Prop := keepSparesUptoRow.holds Try.pinned (OpenSpec.upto keepSparesSpec)

end Rows
end Go.Proofs.Ythohhkmlbjffgaa
