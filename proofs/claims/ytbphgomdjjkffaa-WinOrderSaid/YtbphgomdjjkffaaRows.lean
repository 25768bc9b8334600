/-
  No cell of these rows narrows 'for every input' (looked for: loops, veiled, ifaces, maps, wideKeys, modest, calm, conditions, laid).
  DERIVED. THE GIVEN ROWS OF THIS SEAT. 5 by the template 'for every input the law returns true; each argument reads behind the call as it read before'; 0 by the template 'total and deterministic' (their statements: YtbphgomdjjkffaaTotals.lean).
  GIVEN WITH THE SEED: the statements are not yours to turn. If you find one false, say at which input.
  Laid BY PROGRAM, IN A SANDBOX (cutbox-rows.mjs): the forced cells as the released guide's own fill.sh prints them over the translation 7fc8fc30aaa0ef2f… (all of the seat's roots in one cut). By AI agents, Wed Nov 11 2026. No macro, syntax, notation, axiom, sorry.
-/
import Derived.Test.YtbphgomdjjkffaaChecked
import GoSem.Claim
import GoSem.ClaimJoined
import GoSem.ClaimMapViews
import Derived.JoinedTies
import Derived.KernelRfl
namespace Go.Proofs.Ytbphgomdjjkffaa
/- THE CELL 'sum', in the pinned program and in every row, IS THE sha256 OF THE DUMP (.gsa) THAT YtbphgomdjjkffaaProg.lean LOADS. Nothing in Lean hashes anything: it is a label: what it is worth is what the hold of that sum in a sandbox is worth. -/
noncomputable def Try.pinned : Pinned := { name := "ytbphgomdjjkffaa", sum := "7fc8fc30aaa0ef2f2260ae0a24cd8e16987f2cce119b8afb805c3738d705791a", checked := Try.checked }
namespace Rows
def none {H : Type} : Left H := { results := [], args := [] }

/-- 'precentorlaw09.WinTells': WHATEVER THE INPUT: true; the input reads as it did. -/
def winTellsSpec : ChangeSpec := { name := "winTells", fn := fun _ => fun
  | [d] => { results := [.lit (.bool true)], args := [d] }
  | _ => none }
def winTellsRow : OpenClaim := { program := "ytbphgomdjjkffaa", sum := "7fc8fc30aaa0ef2f2260ae0a24cd8e16987f2cce119b8afb805c3738d705791a", func := "precentor/precentorlaw09.WinTells", spec := "winTells", unfollowed := true, recurses := true, apart := false }
def WinTellsSaid : Prop := winTellsRow.holds Try.pinned (OpenSpec.ofChange winTellsSpec)

/-- ITS FALSE NEIGHBOUR: 'it returns false'. Refute it at one input. -/
def winTellsWrong : ChangeSpec := { name := "winTells", fn := fun _ => fun
  | [d] => { results := [.lit (.bool false)], args := [d] }
  | _ => none }
def WinTellsWrongFalsely : Prop := winTellsRow.holds Try.pinned (OpenSpec.ofChange winTellsWrong)

/-- 'precentorlaw09.WinStays': WHATEVER THE INPUT: true; the input reads as it did. -/
def winStaysSpec : ChangeSpec := { name := "winStays", fn := fun _ => fun
  | [d1, d2, d3] => { results := [.lit (.bool true)], args := [d1, d2, d3] }
  | _ => none }
def winStaysRow : OpenClaim := { program := "ytbphgomdjjkffaa", sum := "7fc8fc30aaa0ef2f2260ae0a24cd8e16987f2cce119b8afb805c3738d705791a", func := "precentor/precentorlaw09.WinStays", spec := "winStays", unfollowed := true, recurses := true, apart := false }
def WinStaysSaid : Prop := winStaysRow.holds Try.pinned (OpenSpec.ofChange winStaysSpec)

/-- ITS FALSE NEIGHBOUR: 'it returns false'. Refute it at one input. -/
def winStaysWrong : ChangeSpec := { name := "winStays", fn := fun _ => fun
  | [d1, d2, d3] => { results := [.lit (.bool false)], args := [d1, d2, d3] }
  | _ => none }
def WinStaysWrongFalsely : Prop := winStaysRow.holds Try.pinned (OpenSpec.ofChange winStaysWrong)

/-- 'precentorlaw09.WinOrder': WHATEVER THE INPUT: true; the input reads as it did. -/
def winOrderSpec : ChangeSpec := { name := "winOrder", fn := fun _ => fun
  | [d1, d2] => { results := [.lit (.bool true)], args := [d1, d2] }
  | _ => none }
def winOrderRow : OpenClaim := { program := "ytbphgomdjjkffaa", sum := "7fc8fc30aaa0ef2f2260ae0a24cd8e16987f2cce119b8afb805c3738d705791a", func := "precentor/precentorlaw09.WinOrder", spec := "winOrder", unfollowed := true, recurses := true, apart := false }
def WinOrderSaid : Prop := winOrderRow.holds Try.pinned (OpenSpec.ofChange winOrderSpec)

/-- ITS FALSE NEIGHBOUR: 'it returns false'. Refute it at one input. -/
def winOrderWrong : ChangeSpec := { name := "winOrder", fn := fun _ => fun
  | [d1, d2] => { results := [.lit (.bool false)], args := [d1, d2] }
  | _ => none }
def WinOrderWrongFalsely : Prop := winOrderRow.holds Try.pinned (OpenSpec.ofChange winOrderWrong)

/-- 'precentorlaw09.WinFills': WHATEVER THE INPUT: true; the input reads as it did. -/
def winFillsSpec : ChangeSpec := { name := "winFills", fn := fun _ => fun
  | [d1, d2] => { results := [.lit (.bool true)], args := [d1, d2] }
  | _ => none }
def winFillsRow : OpenClaim := { program := "ytbphgomdjjkffaa", sum := "7fc8fc30aaa0ef2f2260ae0a24cd8e16987f2cce119b8afb805c3738d705791a", func := "precentor/precentorlaw09.WinFills", spec := "winFills", unfollowed := true, recurses := true, apart := false }
def WinFillsSaid : Prop := winFillsRow.holds Try.pinned (OpenSpec.ofChange winFillsSpec)

/-- ITS FALSE NEIGHBOUR: 'it returns false'. Refute it at one input. -/
def winFillsWrong : ChangeSpec := { name := "winFills", fn := fun _ => fun
  | [d1, d2] => { results := [.lit (.bool false)], args := [d1, d2] }
  | _ => none }
def WinFillsWrongFalsely : Prop := winFillsRow.holds Try.pinned (OpenSpec.ofChange winFillsWrong)

/-- 'precentorlaw09.WinBounds': WHATEVER THE INPUT: true; the input reads as it did. -/
def winBoundsSpec : ChangeSpec := { name := "winBounds", fn := fun _ => fun
  | [d1, d2, d3] => { results := [.lit (.bool true)], args := [d1, d2, d3] }
  | _ => none }
def winBoundsRow : OpenClaim := { program := "ytbphgomdjjkffaa", sum := "7fc8fc30aaa0ef2f2260ae0a24cd8e16987f2cce119b8afb805c3738d705791a", func := "precentor/precentorlaw09.WinBounds", spec := "winBounds", unfollowed := true, recurses := true, apart := false }
def WinBoundsSaid : Prop := winBoundsRow.holds Try.pinned (OpenSpec.ofChange winBoundsSpec)

/-- ITS FALSE NEIGHBOUR: 'it returns false'. Refute it at one input. -/
def winBoundsWrong : ChangeSpec := { name := "winBounds", fn := fun _ => fun
  | [d1, d2, d3] => { results := [.lit (.bool false)], args := [d1, d2, d3] }
  | _ => none }
def WinBoundsWrongFalsely : Prop := winBoundsRow.holds Try.pinned (OpenSpec.ofChange winBoundsWrong)

/- THE SECOND FORM. 'bulk': how many values and letters a reading holds, each counted each time it is reached (what is shared counts as often as it is met; a slice's spare places count too). A statement '..UptoSaid' is the law's where the arguments, and the package variables that the reading takes, are together of bulk at most 1048576: NARROWER than '..Said'. Prove '..Said' where nothing that the law and all that it calls make is longer than what came in: it says more and counts as full. Else prove '..UptoSaid'. A law counts once. -/
mutual
def uptoBulk {H : Type} : DataW H → Nat
  | .lit (.string bytes) => bytes.length + 1
  | .lit _ => 1
  | .nil => 1
  | .ptr d => uptoBulk d + 1
  | .slice elems spare => uptoBulkAll elems + uptoBulkAll spare + 1
  | .agg parts => uptoBulkAll parts + 1
  | .iface _ d => uptoBulk d + 1
  | .map entries => uptoBulkEntries entries + 1
  | .held _ => 1
def uptoBulkAll {H : Type} : List (DataW H) → Nat
  | [] => 0
  | d :: r => uptoBulk d + uptoBulkAll r
def uptoBulkEntries {H : Type} : List (Lit × DataW H) → Nat
  | [] => 0
  | x :: r => uptoBulkEntry x + uptoBulkEntries r
def uptoBulkEntry {H : Type} : Lit × DataW H → Nat
  | (.string bytes, d) => bytes.length + uptoBulk d + 1
  | (_, d) => uptoBulk d + 1
 end
def uptoSmall : (H : Type) → List (DataW H) → Bool := fun _ ds => decide (uptoBulkAll ds ≤ 1048576)
def OpenSpec.upto (s : _root_.Go.ChangeSpec) : _root_.Go.OpenSpec := { _root_.Go.OpenSpec.ofChange s with cond := some uptoSmall }

/-- 'precentorlaw09.WinTells', WHERE WHAT IT READS IS OF BULK AT MOST 1048576: true; the input reads as it did. -/
def winTellsUptoRow : OpenClaim := { program := "ytbphgomdjjkffaa", sum := "7fc8fc30aaa0ef2f2260ae0a24cd8e16987f2cce119b8afb805c3738d705791a", func := "precentor/precentorlaw09.WinTells", spec := "winTells", unfollowed := true, recurses := true, apart := false, narrowed := true }
def WinTellsUptoSaid : Prop := winTellsUptoRow.holds Try.pinned (OpenSpec.upto winTellsSpec)

/-- 'precentorlaw09.WinStays', WHERE WHAT IT READS IS OF BULK AT MOST 1048576: true; the input reads as it did. -/
def winStaysUptoRow : OpenClaim := { program := "ytbphgomdjjkffaa", sum := "7fc8fc30aaa0ef2f2260ae0a24cd8e16987f2cce119b8afb805c3738d705791a", func := "precentor/precentorlaw09.WinStays", spec := "winStays", unfollowed := true, recurses := true, apart := false, narrowed := true }
def WinStaysUptoSaid : Prop := winStaysUptoRow.holds Try.pinned (OpenSpec.upto winStaysSpec)

/-- 'precentorlaw09.WinOrder', WHERE WHAT IT READS IS OF BULK AT MOST 1048576: true; the input reads as it did. -/
def winOrderUptoRow : OpenClaim := { program := "ytbphgomdjjkffaa", sum := "7fc8fc30aaa0ef2f2260ae0a24cd8e16987f2cce119b8afb805c3738d705791a", func := "precentor/precentorlaw09.WinOrder", spec := "winOrder", unfollowed := true, recurses := true, apart := false, narrowed := true }
def WinOrderUptoSaid : Prop := winOrderUptoRow.holds Try.pinned (OpenSpec.upto winOrderSpec)

/-- 'precentorlaw09.WinFills', WHERE WHAT IT READS IS OF BULK AT MOST 1048576: true; the input reads as it did. -/
def winFillsUptoRow : OpenClaim := { program := "ytbphgomdjjkffaa", sum := "7fc8fc30aaa0ef2f2260ae0a24cd8e16987f2cce119b8afb805c3738d705791a", func := "precentor/precentorlaw09.WinFills", spec := "winFills", unfollowed := true, recurses := true, apart := false, narrowed := true }
def WinFillsUptoSaid : Prop := winFillsUptoRow.holds Try.pinned (OpenSpec.upto winFillsSpec)

/-- 'precentorlaw09.WinBounds', WHERE WHAT IT READS IS OF BULK AT MOST 1048576: true; the input reads as it did. -/
def winBoundsUptoRow : OpenClaim := { program := "ytbphgomdjjkffaa", sum := "7fc8fc30aaa0ef2f2260ae0a24cd8e16987f2cce119b8afb805c3738d705791a", func := "precentor/precentorlaw09.WinBounds", spec := "winBounds", unfollowed := true, recurses := true, apart := false, narrowed := true }
def WinBoundsUptoSaid : Prop := winBoundsUptoRow.holds Try.pinned (OpenSpec.upto winBoundsSpec)

end Rows
end Go.Proofs.Ytbphgomdjjkffaa
