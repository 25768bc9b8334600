/-
  No cell of these rows narrows 'for every input' (looked for: loops, veiled, ifaces, maps, wideKeys, modest, calm, conditions, laid).
  DERIVED. THE GIVEN ROWS OF THIS SEAT. 5 by the template 'for every input the law returns true; each argument reads behind the call as it read before'; 0 by the template 'total and deterministic' (their statements: YtnekeanhkkfpnaaTotals.lean).
  GIVEN WITH THE SEED: the statements are not yours to turn. If you find one false, say at which input.
  Laid BY PROGRAM, IN A SANDBOX (cutbox-rows.mjs): the forced cells as the released guide's own fill.sh prints them over the translation dde2d636dc58b688… (all of the seat's roots in one cut). By AI agents, Wed Nov 11 2026. No macro, syntax, notation, axiom, sorry.
-/
import Derived.Test.YtnekeanhkkfpnaaChecked
import GoSem.Claim
import GoSem.ClaimJoined
import GoSem.ClaimMapViews
import Derived.JoinedTies
import Derived.KernelRfl
namespace Go.Proofs.Ytnekeanhkkfpnaa
/- THE CELL 'sum', in the pinned program and in every row, IS THE sha256 OF THE DUMP (.gsa) THAT YtnekeanhkkfpnaaProg.lean LOADS. Nothing in Lean hashes anything: it is a label: what it is worth is what the hold of that sum in a sandbox is worth. -/
noncomputable def Try.pinned : Pinned := { name := "ytnekeanhkkfpnaa", sum := "dde2d636dc58b68829303609bd3063d4b9f270614d88987f7df4fff0f2c00dd9", checked := Try.checked }
namespace Rows
def none {H : Type} : Left H := { results := [], args := [] }

/-- 'precentorlaw19.FlushTells': WHATEVER THE INPUT: true; the input reads as it did. -/
def flushTellsSpec : ChangeSpec := { name := "flushTells", fn := fun _ => fun
  | [d] => { results := [.lit (.bool true)], args := [d] }
  | _ => none }
def flushTellsRow : OpenClaim := { program := "ytnekeanhkkfpnaa", sum := "dde2d636dc58b68829303609bd3063d4b9f270614d88987f7df4fff0f2c00dd9", func := "precentor/precentorlaw19.FlushTells", spec := "flushTells", unfollowed := true, recurses := true, apart := false }
def FlushTellsSaid : Prop := flushTellsRow.holds Try.pinned (OpenSpec.ofChange flushTellsSpec)

/-- ITS FALSE NEIGHBOUR: 'it returns false'. Refute it at one input. -/
def flushTellsWrong : ChangeSpec := { name := "flushTells", fn := fun _ => fun
  | [d] => { results := [.lit (.bool false)], args := [d] }
  | _ => none }
def FlushTellsWrongFalsely : Prop := flushTellsRow.holds Try.pinned (OpenSpec.ofChange flushTellsWrong)

/-- 'precentorlaw19.FlushStays': WHATEVER THE INPUT: true; the input reads as it did. -/
def flushStaysSpec : ChangeSpec := { name := "flushStays", fn := fun _ => fun
  | [d] => { results := [.lit (.bool true)], args := [d] }
  | _ => none }
def flushStaysRow : OpenClaim := { program := "ytnekeanhkkfpnaa", sum := "dde2d636dc58b68829303609bd3063d4b9f270614d88987f7df4fff0f2c00dd9", func := "precentor/precentorlaw19.FlushStays", spec := "flushStays", unfollowed := true, recurses := true, apart := false }
def FlushStaysSaid : Prop := flushStaysRow.holds Try.pinned (OpenSpec.ofChange flushStaysSpec)

/-- ITS FALSE NEIGHBOUR: 'it returns false'. Refute it at one input. -/
def flushStaysWrong : ChangeSpec := { name := "flushStays", fn := fun _ => fun
  | [d] => { results := [.lit (.bool false)], args := [d] }
  | _ => none }
def FlushStaysWrongFalsely : Prop := flushStaysRow.holds Try.pinned (OpenSpec.ofChange flushStaysWrong)

/-- 'precentorlaw19.FlushOrder': WHATEVER THE INPUT: true; the input reads as it did. -/
def flushOrderSpec : ChangeSpec := { name := "flushOrder", fn := fun _ => fun
  | [d1, d2, d3] => { results := [.lit (.bool true)], args := [d1, d2, d3] }
  | _ => none }
def flushOrderRow : OpenClaim := { program := "ytnekeanhkkfpnaa", sum := "dde2d636dc58b68829303609bd3063d4b9f270614d88987f7df4fff0f2c00dd9", func := "precentor/precentorlaw19.FlushOrder", spec := "flushOrder", unfollowed := true, recurses := true, apart := false }
def FlushOrderSaid : Prop := flushOrderRow.holds Try.pinned (OpenSpec.ofChange flushOrderSpec)

/-- ITS FALSE NEIGHBOUR: 'it returns false'. Refute it at one input. -/
def flushOrderWrong : ChangeSpec := { name := "flushOrder", fn := fun _ => fun
  | [d1, d2, d3] => { results := [.lit (.bool false)], args := [d1, d2, d3] }
  | _ => none }
def FlushOrderWrongFalsely : Prop := flushOrderRow.holds Try.pinned (OpenSpec.ofChange flushOrderWrong)

/-- 'precentorlaw19.FlushSays': WHATEVER THE INPUT: true; the input reads as it did. -/
def flushSaysSpec : ChangeSpec := { name := "flushSays", fn := fun _ => fun
  | [d1, d2] => { results := [.lit (.bool true)], args := [d1, d2] }
  | _ => none }
def flushSaysRow : OpenClaim := { program := "ytnekeanhkkfpnaa", sum := "dde2d636dc58b68829303609bd3063d4b9f270614d88987f7df4fff0f2c00dd9", func := "precentor/precentorlaw19.FlushSays", spec := "flushSays", unfollowed := true, recurses := true, apart := false }
def FlushSaysSaid : Prop := flushSaysRow.holds Try.pinned (OpenSpec.ofChange flushSaysSpec)

/-- ITS FALSE NEIGHBOUR: 'it returns false'. Refute it at one input. -/
def flushSaysWrong : ChangeSpec := { name := "flushSays", fn := fun _ => fun
  | [d1, d2] => { results := [.lit (.bool false)], args := [d1, d2] }
  | _ => none }
def FlushSaysWrongFalsely : Prop := flushSaysRow.holds Try.pinned (OpenSpec.ofChange flushSaysWrong)

/-- 'precentorlaw19.FlushOther': WHATEVER THE INPUT: true; the input reads as it did. -/
def flushOtherSpec : ChangeSpec := { name := "flushOther", fn := fun _ => fun
  | [d1, d2, d3] => { results := [.lit (.bool true)], args := [d1, d2, d3] }
  | _ => none }
def flushOtherRow : OpenClaim := { program := "ytnekeanhkkfpnaa", sum := "dde2d636dc58b68829303609bd3063d4b9f270614d88987f7df4fff0f2c00dd9", func := "precentor/precentorlaw19.FlushOther", spec := "flushOther", unfollowed := true, recurses := true, apart := false }
def FlushOtherSaid : Prop := flushOtherRow.holds Try.pinned (OpenSpec.ofChange flushOtherSpec)

/-- ITS FALSE NEIGHBOUR: 'it returns false'. Refute it at one input. -/
def flushOtherWrong : ChangeSpec := { name := "flushOther", fn := fun _ => fun
  | [d1, d2, d3] => { results := [.lit (.bool false)], args := [d1, d2, d3] }
  | _ => none }
def FlushOtherWrongFalsely : Prop := flushOtherRow.holds Try.pinned (OpenSpec.ofChange flushOtherWrong)

/- THE SECOND FORM. 'bulk': how many values and letters a reading holds, each counted each time it is reached (what is shared counts as often as it is met; a slice's spare places count too). A statement '..UptoSaid' is the law's where the arguments, and the package variables that the reading takes, are together of bulk at most 1048576: NARROWER than '..Said'. Prove '..Said' where nothing that the law and all that it calls make is longer than what came in: it says more and counts as full. Else prove '..UptoSaid'. A law counts once. -/
mutual
def uptoBulk {H : Type} : DataW H → Nat
  | .lit (.string bytes) => bytes.length + 1
  | .lit _ => 1
  | .nil => 1
  | .ptr d => uptoBulk d + 1
  | .slice elems spare => uptoBulkAll elems + uptoBulkAll spare + 1
  | .agg parts => uptoBulkAll parts + 1
  | .iface _ d => uptoBulk d + 1
  | .map entries => uptoBulkEntries entries + 1
  | .held _ => 1
def uptoBulkAll {H : Type} : List (DataW H) → Nat
  | [] => 0
  | d :: r => uptoBulk d + uptoBulkAll r
def uptoBulkEntries {H : Type} : List (Lit × DataW H) → Nat
  | [] => 0
  | x :: r => uptoBulkEntry x + uptoBulkEntries r
def uptoBulkEntry {H : Type} : Lit × DataW H → Nat
  | (.string bytes, d) => bytes.length + uptoBulk d + 1
  | (_, d) => uptoBulk d + 1
 end
def uptoSmall : (H : Type) → List (DataW H) → Bool := fun _ ds => decide (uptoBulkAll ds ≤ 1048576)
def OpenSpec.upto (s : _root_.Go.ChangeSpec) : _root_.Go.OpenSpec := { _root_.Go.OpenSpec.ofChange s with cond := some uptoSmall }

/-- 'precentorlaw19.FlushTells', WHERE WHAT IT READS IS OF BULK AT MOST 1048576: true; the input reads as it did. -/
def flushTellsUptoRow : OpenClaim := { program := "ytnekeanhkkfpnaa", sum := "dde2d636dc58b68829303609bd3063d4b9f270614d88987f7df4fff0f2c00dd9", func := "precentor/precentorlaw19.FlushTells", spec := "flushTells", unfollowed := true, recurses := true, apart := false, narrowed := true }
def FlushTellsUptoSaid : Prop := flushTellsUptoRow.holds Try.pinned (OpenSpec.upto flushTellsSpec)

/-- 'precentorlaw19.FlushStays', WHERE WHAT IT READS IS OF BULK AT MOST 1048576: true; the input reads as it did. -/
def flushStaysUptoRow : OpenClaim := { program := "ytnekeanhkkfpnaa", sum := "dde2d636dc58b68829303609bd3063d4b9f270614d88987f7df4fff0f2c00dd9", func := "precentor/precentorlaw19.FlushStays", spec := "flushStays", unfollowed := true, recurses := true, apart := false, narrowed := true }
def FlushStaysUptoSaid : Prop := flushStaysUptoRow.holds Try.pinned (OpenSpec.upto flushStaysSpec)

/-- 'precentorlaw19.FlushOrder', WHERE WHAT IT READS IS OF BULK AT MOST 1048576: true; the input reads as it did. -/
def flushOrderUptoRow : OpenClaim := { program := "ytnekeanhkkfpnaa", sum := "dde2d636dc58b68829303609bd3063d4b9f270614d88987f7df4fff0f2c00dd9", func := "precentor/precentorlaw19.FlushOrder", spec := "flushOrder", unfollowed := true, recurses := true, apart := false, narrowed := true }
def FlushOrderUptoSaid : Prop := flushOrderUptoRow.holds Try.pinned (OpenSpec.upto flushOrderSpec)

/-- 'precentorlaw19.FlushSays', WHERE WHAT IT READS IS OF BULK AT MOST 1048576: true; the input reads as it did. -/
def flushSaysUptoRow : OpenClaim := { program := "ytnekeanhkkfpnaa", sum := "dde2d636dc58b68829303609bd3063d4b9f270614d88987f7df4fff0f2c00dd9", func := "precentor/precentorlaw19.FlushSays", spec := "flushSays", unfollowed := true, recurses := true, apart := false, narrowed := true }
def FlushSaysUptoSaid : Prop := flushSaysUptoRow.holds Try.pinned (OpenSpec.upto flushSaysSpec)

/-- 'precentorlaw19.FlushOther', WHERE WHAT IT READS IS OF BULK AT MOST 1048576: true; the input reads as it did. -/
def flushOtherUptoRow : OpenClaim := { program := "ytnekeanhkkfpnaa", sum := "dde2d636dc58b68829303609bd3063d4b9f270614d88987f7df4fff0f2c00dd9", func := "precentor/precentorlaw19.FlushOther", spec := "flushOther", unfollowed := true, recurses := true, apart := false, narrowed := true }
def FlushOtherUptoSaid : Prop := flushOtherUptoRow.holds Try.pinned (OpenSpec.upto flushOtherSpec)

end Rows
end Go.Proofs.Ytnekeanhkkfpnaa
