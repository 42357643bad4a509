/-
  No cell of these rows narrows 'for every input' (looked for: loops, veiled, ifaces, maps, wideKeys, modest, calm, conditions, laid).
  DERIVED. THE GIVEN ROWS OF THIS SEAT. 5 by the template 'for every input the law returns true; each argument reads behind the call as it read before'; 0 by the template 'total and deterministic' (their statements: YthkjmhngmpdngaaGreatTotals.lean).
  GIVEN WITH THE SEED: the statements are not yours to turn. If you find one false, say at which input.
  Laid BY PROGRAM, IN A SANDBOX (cutbox-rows.mjs): the forced cells as the released guide's own fill.sh prints them over the translation 503afbe3c397ccbc… (all of the seat's roots in one cut). By AI agents, Wed Nov 11 2026. No macro, syntax, notation, axiom, sorry.
-/
import Derived.Test.YthkjmhngmpdngaaGreatChecked
import GoSem.Claim
import GoSem.ClaimJoined
import GoSem.ClaimMapViews
import Derived.JoinedTies
import Derived.KernelRfl
namespace Go.Proofs.YthkjmhngmpdngaaGreat
/- THE CELL 'sum', in the pinned program and in every row, IS THE sha256 OF THE DUMP (.gsa) THAT YthkjmhngmpdngaaGreatProg.lean LOADS. Nothing in Lean hashes anything: it is a label: what it is worth is what the hold of that sum in a sandbox is worth. -/
noncomputable def Tryz.pinned : Pinned := { name := "ythkjmhngmpdngaagreat", sum := "503afbe3c397ccbcff1aa5459debee4fb30c2f162b25e72922a9aca3a963ce7e", checked := Tryz.checked }
namespace Rows
def none {H : Type} : Left H := { results := [], args := [] }

/-- 'evenhandedlaw19.SlicePlays': WHATEVER THE INPUT: true; the input reads as it did. -/
def slicePlaysSpec : ChangeSpec := { name := "slicePlays", fn := fun _ => fun
  | [d1, d2, d3] => { results := [.lit (.bool true)], args := [d1, d2, d3] }
  | _ => none }
def slicePlaysRow : OpenClaim := { program := "ythkjmhngmpdngaagreat", sum := "503afbe3c397ccbcff1aa5459debee4fb30c2f162b25e72922a9aca3a963ce7e", func := "evenhanded/evenhandedlaw19.SlicePlays", spec := "slicePlays", inPlace := ["math/bits.Add64", "math/bits.Sub64"], unfollowed := true, recurses := true, named := ["math/bits.divideError", "math/bits.overflowError"], apart := false }
def SlicePlaysSaid : Prop := slicePlaysRow.holds Tryz.pinned (OpenSpec.ofChange slicePlaysSpec)

/-- ITS FALSE NEIGHBOUR: 'it returns false'. Refute it at one input. -/
def slicePlaysWrong : ChangeSpec := { name := "slicePlays", fn := fun _ => fun
  | [d1, d2, d3] => { results := [.lit (.bool false)], args := [d1, d2, d3] }
  | _ => none }
def SlicePlaysWrongFalsely : Prop := slicePlaysRow.holds Tryz.pinned (OpenSpec.ofChange slicePlaysWrong)

/-- 'evenhandedlaw19.SliceShares': WHATEVER THE INPUT: true; the input reads as it did. -/
def sliceSharesSpec : ChangeSpec := { name := "sliceShares", fn := fun _ => fun
  | [d1, d2, d3] => { results := [.lit (.bool true)], args := [d1, d2, d3] }
  | _ => none }
def sliceSharesRow : OpenClaim := { program := "ythkjmhngmpdngaagreat", sum := "503afbe3c397ccbcff1aa5459debee4fb30c2f162b25e72922a9aca3a963ce7e", func := "evenhanded/evenhandedlaw19.SliceShares", spec := "sliceShares", inPlace := ["math/bits.Add64", "math/bits.Sub64"], unfollowed := true, recurses := true, named := ["math/bits.divideError", "math/bits.overflowError"], apart := false }
def SliceSharesSaid : Prop := sliceSharesRow.holds Tryz.pinned (OpenSpec.ofChange sliceSharesSpec)

/-- ITS FALSE NEIGHBOUR: 'it returns false'. Refute it at one input. -/
def sliceSharesWrong : ChangeSpec := { name := "sliceShares", fn := fun _ => fun
  | [d1, d2, d3] => { results := [.lit (.bool false)], args := [d1, d2, d3] }
  | _ => none }
def SliceSharesWrongFalsely : Prop := sliceSharesRow.holds Tryz.pinned (OpenSpec.ofChange sliceSharesWrong)

/-- 'evenhandedlaw19.SliceKnown': WHATEVER THE INPUT: true; the input reads as it did. -/
def sliceKnownSpec : ChangeSpec := { name := "sliceKnown", fn := fun _ => fun
  | [] => { results := [.lit (.bool true)], args := [] }
  | _ => none }
def sliceKnownRow : OpenClaim := { program := "ythkjmhngmpdngaagreat", sum := "503afbe3c397ccbcff1aa5459debee4fb30c2f162b25e72922a9aca3a963ce7e", func := "evenhanded/evenhandedlaw19.SliceKnown", spec := "sliceKnown", inPlace := ["math/bits.Add64", "math/bits.Sub64"], unfollowed := true, recurses := true, named := ["math/bits.divideError", "math/bits.overflowError"], apart := false }
def SliceKnownSaid : Prop := sliceKnownRow.holds Tryz.pinned (OpenSpec.ofChange sliceKnownSpec)

/-- ITS FALSE NEIGHBOUR: 'it returns false'. Refute it at one input. -/
def sliceKnownWrong : ChangeSpec := { name := "sliceKnown", fn := fun _ => fun
  | [] => { results := [.lit (.bool false)], args := [] }
  | _ => none }
def SliceKnownWrongFalsely : Prop := sliceKnownRow.holds Tryz.pinned (OpenSpec.ofChange sliceKnownWrong)

/-- 'evenhandedlaw19.SliceTurns': WHATEVER THE INPUT: true; the input reads as it did. -/
def sliceTurnsSpec : ChangeSpec := { name := "sliceTurns", fn := fun _ => fun
  | [d1, d2] => { results := [.lit (.bool true)], args := [d1, d2] }
  | _ => none }
def sliceTurnsRow : OpenClaim := { program := "ythkjmhngmpdngaagreat", sum := "503afbe3c397ccbcff1aa5459debee4fb30c2f162b25e72922a9aca3a963ce7e", func := "evenhanded/evenhandedlaw19.SliceTurns", spec := "sliceTurns", inPlace := ["math/bits.Add64", "math/bits.Sub64"], unfollowed := true, recurses := true, named := ["math/bits.divideError", "math/bits.overflowError"], apart := false }
def SliceTurnsSaid : Prop := sliceTurnsRow.holds Tryz.pinned (OpenSpec.ofChange sliceTurnsSpec)

/-- ITS FALSE NEIGHBOUR: 'it returns false'. Refute it at one input. -/
def sliceTurnsWrong : ChangeSpec := { name := "sliceTurns", fn := fun _ => fun
  | [d1, d2] => { results := [.lit (.bool false)], args := [d1, d2] }
  | _ => none }
def SliceTurnsWrongFalsely : Prop := sliceTurnsRow.holds Tryz.pinned (OpenSpec.ofChange sliceTurnsWrong)

/-- 'evenhandedlaw19.SliceWhole': WHATEVER THE INPUT: true; the input reads as it did. -/
def sliceWholeSpec : ChangeSpec := { name := "sliceWhole", fn := fun _ => fun
  | [d1, d2, d3] => { results := [.lit (.bool true)], args := [d1, d2, d3] }
  | _ => none }
def sliceWholeRow : OpenClaim := { program := "ythkjmhngmpdngaagreat", sum := "503afbe3c397ccbcff1aa5459debee4fb30c2f162b25e72922a9aca3a963ce7e", func := "evenhanded/evenhandedlaw19.SliceWhole", spec := "sliceWhole", inPlace := ["math/bits.Add64", "math/bits.Sub64"], unfollowed := true, recurses := true, named := ["math/bits.divideError", "math/bits.overflowError"], apart := false }
def SliceWholeSaid : Prop := sliceWholeRow.holds Tryz.pinned (OpenSpec.ofChange sliceWholeSpec)

/-- ITS FALSE NEIGHBOUR: 'it returns false'. Refute it at one input. -/
def sliceWholeWrong : ChangeSpec := { name := "sliceWhole", fn := fun _ => fun
  | [d1, d2, d3] => { results := [.lit (.bool false)], args := [d1, d2, d3] }
  | _ => none }
def SliceWholeWrongFalsely : Prop := sliceWholeRow.holds Tryz.pinned (OpenSpec.ofChange sliceWholeWrong)

/- THE SECOND FORM. 'bulk': how many values and letters a reading holds, each counted each time it is reached (what is shared counts as often as it is met; a slice's spare places count too). A statement '..UptoSaid' is the law's where the arguments, and the package variables that the reading takes, are together of bulk at most 1048576: NARROWER than '..Said'. Prove '..Said' where nothing that the law and all that it calls make is longer than what came in: it says more and counts as full. Else prove '..UptoSaid'. A law counts once. -/
mutual
def uptoBulk {H : Type} : DataW H → Nat
  | .lit (.string bytes) => bytes.length + 1
  | .lit _ => 1
  | .nil => 1
  | .ptr d => uptoBulk d + 1
  | .slice elems spare => uptoBulkAll elems + uptoBulkAll spare + 1
  | .agg parts => uptoBulkAll parts + 1
  | .iface _ d => uptoBulk d + 1
  | .map entries => uptoBulkEntries entries + 1
  | .held _ => 1
def uptoBulkAll {H : Type} : List (DataW H) → Nat
  | [] => 0
  | d :: r => uptoBulk d + uptoBulkAll r
def uptoBulkEntries {H : Type} : List (Lit × DataW H) → Nat
  | [] => 0
  | x :: r => uptoBulkEntry x + uptoBulkEntries r
def uptoBulkEntry {H : Type} : Lit × DataW H → Nat
  | (.string bytes, d) => bytes.length + uptoBulk d + 1
  | (_, d) => uptoBulk d + 1
 end
def uptoSmall : (H : Type) → List (DataW H) → Bool := fun _ ds => decide (uptoBulkAll ds ≤ 1048576)
def OpenSpec.upto (s : _root_.Go.ChangeSpec) : _root_.Go.OpenSpec := { _root_.Go.OpenSpec.ofChange s with cond := some uptoSmall }

/-- 'evenhandedlaw19.SlicePlays', WHERE WHAT IT READS IS OF BULK AT MOST 1048576: true; the input reads as it did. -/
def slicePlaysUptoRow : OpenClaim := { program := "ythkjmhngmpdngaagreat", sum := "503afbe3c397ccbcff1aa5459debee4fb30c2f162b25e72922a9aca3a963ce7e", func := "evenhanded/evenhandedlaw19.SlicePlays", spec := "slicePlays", inPlace := ["math/bits.Add64", "math/bits.Sub64"], unfollowed := true, recurses := true, named := ["math/bits.divideError", "math/bits.overflowError"], apart := false, narrowed := true }
def SlicePlaysUptoSaid : Prop := slicePlaysUptoRow.holds Tryz.pinned (OpenSpec.upto slicePlaysSpec)

/-- 'evenhandedlaw19.SliceShares', WHERE WHAT IT READS IS OF BULK AT MOST 1048576: true; the input reads as it did. -/
def sliceSharesUptoRow : OpenClaim := { program := "ythkjmhngmpdngaagreat", sum := "503afbe3c397ccbcff1aa5459debee4fb30c2f162b25e72922a9aca3a963ce7e", func := "evenhanded/evenhandedlaw19.SliceShares", spec := "sliceShares", inPlace := ["math/bits.Add64", "math/bits.Sub64"], unfollowed := true, recurses := true, named := ["math/bits.divideError", "math/bits.overflowError"], apart := false, narrowed := true }
def SliceSharesUptoSaid : Prop := sliceSharesUptoRow.holds Tryz.pinned (OpenSpec.upto sliceSharesSpec)

/-- 'evenhandedlaw19.SliceKnown', WHERE WHAT IT READS IS OF BULK AT MOST 1048576: true; the input reads as it did. -/
def sliceKnownUptoRow : OpenClaim := { program := "ythkjmhngmpdngaagreat", sum := "503afbe3c397ccbcff1aa5459debee4fb30c2f162b25e72922a9aca3a963ce7e", func := "evenhanded/evenhandedlaw19.SliceKnown", spec := "sliceKnown", inPlace := ["math/bits.Add64", "math/bits.Sub64"], unfollowed := true, recurses := true, named := ["math/bits.divideError", "math/bits.overflowError"], apart := false, narrowed := true }
def SliceKnownUptoSaid : Prop := sliceKnownUptoRow.holds Tryz.pinned (OpenSpec.upto sliceKnownSpec)

/-- 'evenhandedlaw19.SliceTurns', WHERE WHAT IT READS IS OF BULK AT MOST 1048576: true; the input reads as it did. -/
def sliceTurnsUptoRow : OpenClaim := { program := "ythkjmhngmpdngaagreat", sum := "503afbe3c397ccbcff1aa5459debee4fb30c2f162b25e72922a9aca3a963ce7e", func := "evenhanded/evenhandedlaw19.SliceTurns", spec := "sliceTurns", inPlace := ["math/bits.Add64", "math/bits.Sub64"], unfollowed := true, recurses := true, named := ["math/bits.divideError", "math/bits.overflowError"], apart := false, narrowed := true }
def SliceTurnsUptoSaid : Prop := sliceTurnsUptoRow.holds Tryz.pinned (OpenSpec.upto sliceTurnsSpec)

/-- 'evenhandedlaw19.SliceWhole', WHERE WHAT IT READS IS OF BULK AT MOST 1048576: true; the input reads as it did. -/
def sliceWholeUptoRow : OpenClaim := { program := "ythkjmhngmpdngaagreat", sum := "503afbe3c397ccbcff1aa5459debee4fb30c2f162b25e72922a9aca3a963ce7e", func := "evenhanded/evenhandedlaw19.SliceWhole", spec := "sliceWhole", inPlace := ["math/bits.Add64", "math/bits.Sub64"], unfollowed := true, recurses := true, named := ["math/bits.divideError", "math/bits.overflowError"], apart := false, narrowed := true }
def SliceWholeUptoSaid : Prop := sliceWholeUptoRow.holds Tryz.pinned (OpenSpec.upto sliceWholeSpec)

end Rows
end Go.Proofs.YthkjmhngmpdngaaGreat
