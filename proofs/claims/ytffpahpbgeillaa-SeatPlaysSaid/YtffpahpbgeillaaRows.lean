/-
  No cell of these rows narrows 'for every input' (looked for: loops, veiled, ifaces, maps, wideKeys, modest, calm, conditions, laid).
  DERIVED. THE GIVEN ROWS OF THIS SEAT. 5 by the template 'for every input the law returns true; each argument reads behind the call as it read before'; 0 by the template 'total and deterministic' (their statements: YtffpahpbgeillaaTotals.lean).
  GIVEN WITH THE SEED: the statements are not yours to turn. If you find one false, say at which input.
  Laid BY PROGRAM, IN A SANDBOX (cutbox-rows.mjs): the forced cells as the released guide's own fill.sh prints them over the translation 186ac77d04f1b289… (all of the seat's roots in one cut). By AI agents, Wed Nov 11 2026. No macro, syntax, notation, axiom, sorry.
-/
import Derived.Test.YtffpahpbgeillaaChecked
import GoSem.Claim
import GoSem.ClaimJoined
import GoSem.ClaimMapViews
import Derived.JoinedTies
import Derived.KernelRfl
namespace Go.Proofs.Ytffpahpbgeillaa
/- THE CELL 'sum', in the pinned program and in every row, IS THE sha256 OF THE DUMP (.gsa) THAT YtffpahpbgeillaaProg.lean LOADS. Nothing in Lean hashes anything: it is a label: what it is worth is what the hold of that sum in a sandbox is worth. -/
noncomputable def Try.pinned : Pinned := { name := "ytffpahpbgeillaa", sum := "186ac77d04f1b289d6fdccb78aa288638531641243b0ad03318c8bffd852eb83", checked := Try.checked }
namespace Rows
def none {H : Type} : Left H := { results := [], args := [] }

/-- 'evenhandedlaw14.SeatStays': WHATEVER THE INPUT: true; the input reads as it did. -/
def seatStaysSpec : ChangeSpec := { name := "seatStays", fn := fun _ => fun
  | [d1, d2] => { results := [.lit (.bool true)], args := [d1, d2] }
  | _ => none }
def seatStaysRow : OpenClaim := { program := "ytffpahpbgeillaa", sum := "186ac77d04f1b289d6fdccb78aa288638531641243b0ad03318c8bffd852eb83", func := "evenhanded/evenhandedlaw14.SeatStays", spec := "seatStays", unfollowed := true, recurses := true, apart := false }
def SeatStaysSaid : Prop := seatStaysRow.holds Try.pinned (OpenSpec.ofChange seatStaysSpec)

/-- ITS FALSE NEIGHBOUR: 'it returns false'. Refute it at one input. -/
def seatStaysWrong : ChangeSpec := { name := "seatStays", fn := fun _ => fun
  | [d1, d2] => { results := [.lit (.bool false)], args := [d1, d2] }
  | _ => none }
def SeatStaysWrongFalsely : Prop := seatStaysRow.holds Try.pinned (OpenSpec.ofChange seatStaysWrong)

/-- 'evenhandedlaw14.SeatBack': WHATEVER THE INPUT: true; the input reads as it did. -/
def seatBackSpec : ChangeSpec := { name := "seatBack", fn := fun _ => fun
  | [d1, d2, d3] => { results := [.lit (.bool true)], args := [d1, d2, d3] }
  | _ => none }
def seatBackRow : OpenClaim := { program := "ytffpahpbgeillaa", sum := "186ac77d04f1b289d6fdccb78aa288638531641243b0ad03318c8bffd852eb83", func := "evenhanded/evenhandedlaw14.SeatBack", spec := "seatBack", unfollowed := true, recurses := true, apart := false }
def SeatBackSaid : Prop := seatBackRow.holds Try.pinned (OpenSpec.ofChange seatBackSpec)

/-- ITS FALSE NEIGHBOUR: 'it returns false'. Refute it at one input. -/
def seatBackWrong : ChangeSpec := { name := "seatBack", fn := fun _ => fun
  | [d1, d2, d3] => { results := [.lit (.bool false)], args := [d1, d2, d3] }
  | _ => none }
def SeatBackWrongFalsely : Prop := seatBackRow.holds Try.pinned (OpenSpec.ofChange seatBackWrong)

/-- 'evenhandedlaw14.SeatOrders': WHATEVER THE INPUT: true; the input reads as it did. -/
def seatOrdersSpec : ChangeSpec := { name := "seatOrders", fn := fun _ => fun
  | [d1, d2, d3] => { results := [.lit (.bool true)], args := [d1, d2, d3] }
  | _ => none }
def seatOrdersRow : OpenClaim := { program := "ytffpahpbgeillaa", sum := "186ac77d04f1b289d6fdccb78aa288638531641243b0ad03318c8bffd852eb83", func := "evenhanded/evenhandedlaw14.SeatOrders", spec := "seatOrders", unfollowed := true, recurses := true, apart := false }
def SeatOrdersSaid : Prop := seatOrdersRow.holds Try.pinned (OpenSpec.ofChange seatOrdersSpec)

/-- ITS FALSE NEIGHBOUR: 'it returns false'. Refute it at one input. -/
def seatOrdersWrong : ChangeSpec := { name := "seatOrders", fn := fun _ => fun
  | [d1, d2, d3] => { results := [.lit (.bool false)], args := [d1, d2, d3] }
  | _ => none }
def SeatOrdersWrongFalsely : Prop := seatOrdersRow.holds Try.pinned (OpenSpec.ofChange seatOrdersWrong)

/-- 'evenhandedlaw14.SeatPlays': WHATEVER THE INPUT: true; the input reads as it did. -/
def seatPlaysSpec : ChangeSpec := { name := "seatPlays", fn := fun _ => fun
  | [d1, d2] => { results := [.lit (.bool true)], args := [d1, d2] }
  | _ => none }
def seatPlaysRow : OpenClaim := { program := "ytffpahpbgeillaa", sum := "186ac77d04f1b289d6fdccb78aa288638531641243b0ad03318c8bffd852eb83", func := "evenhanded/evenhandedlaw14.SeatPlays", spec := "seatPlays", unfollowed := true, recurses := true, apart := false }
def SeatPlaysSaid : Prop := seatPlaysRow.holds Try.pinned (OpenSpec.ofChange seatPlaysSpec)

/-- ITS FALSE NEIGHBOUR: 'it returns false'. Refute it at one input. -/
def seatPlaysWrong : ChangeSpec := { name := "seatPlays", fn := fun _ => fun
  | [d1, d2] => { results := [.lit (.bool false)], args := [d1, d2] }
  | _ => none }
def SeatPlaysWrongFalsely : Prop := seatPlaysRow.holds Try.pinned (OpenSpec.ofChange seatPlaysWrong)

/-- 'evenhandedlaw14.SeatKnown': WHATEVER THE INPUT: true; the input reads as it did. -/
def seatKnownSpec : ChangeSpec := { name := "seatKnown", fn := fun _ => fun
  | [] => { results := [.lit (.bool true)], args := [] }
  | _ => none }
def seatKnownRow : OpenClaim := { program := "ytffpahpbgeillaa", sum := "186ac77d04f1b289d6fdccb78aa288638531641243b0ad03318c8bffd852eb83", func := "evenhanded/evenhandedlaw14.SeatKnown", spec := "seatKnown", unfollowed := true, recurses := true, apart := false }
def SeatKnownSaid : Prop := seatKnownRow.holds Try.pinned (OpenSpec.ofChange seatKnownSpec)

/-- ITS FALSE NEIGHBOUR: 'it returns false'. Refute it at one input. -/
def seatKnownWrong : ChangeSpec := { name := "seatKnown", fn := fun _ => fun
  | [] => { results := [.lit (.bool false)], args := [] }
  | _ => none }
def SeatKnownWrongFalsely : Prop := seatKnownRow.holds Try.pinned (OpenSpec.ofChange seatKnownWrong)

/- THE SECOND FORM. 'bulk': how many values and letters a reading holds, each counted each time it is reached (what is shared counts as often as it is met; a slice's spare places count too). A statement '..UptoSaid' is the law's where the arguments, and the package variables that the reading takes, are together of bulk at most 1048576: NARROWER than '..Said'. Prove '..Said' where nothing that the law and all that it calls make is longer than what came in: it says more and counts as full. Else prove '..UptoSaid'. A law counts once. -/
mutual
def uptoBulk {H : Type} : DataW H → Nat
  | .lit (.string bytes) => bytes.length + 1
  | .lit _ => 1
  | .nil => 1
  | .ptr d => uptoBulk d + 1
  | .slice elems spare => uptoBulkAll elems + uptoBulkAll spare + 1
  | .agg parts => uptoBulkAll parts + 1
  | .iface _ d => uptoBulk d + 1
  | .map entries => uptoBulkEntries entries + 1
  | .held _ => 1
def uptoBulkAll {H : Type} : List (DataW H) → Nat
  | [] => 0
  | d :: r => uptoBulk d + uptoBulkAll r
def uptoBulkEntries {H : Type} : List (Lit × DataW H) → Nat
  | [] => 0
  | x :: r => uptoBulkEntry x + uptoBulkEntries r
def uptoBulkEntry {H : Type} : Lit × DataW H → Nat
  | (.string bytes, d) => bytes.length + uptoBulk d + 1
  | (_, d) => uptoBulk d + 1
 end
def uptoSmall : (H : Type) → List (DataW H) → Bool := fun _ ds => decide (uptoBulkAll ds ≤ 1048576)
def OpenSpec.upto (s : _root_.Go.ChangeSpec) : _root_.Go.OpenSpec := { _root_.Go.OpenSpec.ofChange s with cond := some uptoSmall }

/-- 'evenhandedlaw14.SeatStays', WHERE WHAT IT READS IS OF BULK AT MOST 1048576: true; the input reads as it did. -/
def seatStaysUptoRow : OpenClaim := { program := "ytffpahpbgeillaa", sum := "186ac77d04f1b289d6fdccb78aa288638531641243b0ad03318c8bffd852eb83", func := "evenhanded/evenhandedlaw14.SeatStays", spec := "seatStays", unfollowed := true, recurses := true, apart := false, narrowed := true }
def SeatStaysUptoSaid : Prop := seatStaysUptoRow.holds Try.pinned (OpenSpec.upto seatStaysSpec)

/-- 'evenhandedlaw14.SeatBack', WHERE WHAT IT READS IS OF BULK AT MOST 1048576: true; the input reads as it did. -/
def seatBackUptoRow : OpenClaim := { program := "ytffpahpbgeillaa", sum := "186ac77d04f1b289d6fdccb78aa288638531641243b0ad03318c8bffd852eb83", func := "evenhanded/evenhandedlaw14.SeatBack", spec := "seatBack", unfollowed := true, recurses := true, apart := false, narrowed := true }
def SeatBackUptoSaid : Prop := seatBackUptoRow.holds Try.pinned (OpenSpec.upto seatBackSpec)

/-- 'evenhandedlaw14.SeatOrders', WHERE WHAT IT READS IS OF BULK AT MOST 1048576: true; the input reads as it did. -/
def seatOrdersUptoRow : OpenClaim := { program := "ytffpahpbgeillaa", sum := "186ac77d04f1b289d6fdccb78aa288638531641243b0ad03318c8bffd852eb83", func := "evenhanded/evenhandedlaw14.SeatOrders", spec := "seatOrders", unfollowed := true, recurses := true, apart := false, narrowed := true }
def SeatOrdersUptoSaid : Prop := seatOrdersUptoRow.holds Try.pinned (OpenSpec.upto seatOrdersSpec)

/-- 'evenhandedlaw14.SeatPlays', WHERE WHAT IT READS IS OF BULK AT MOST 1048576: true; the input reads as it did. -/
def seatPlaysUptoRow : OpenClaim := { program := "ytffpahpbgeillaa", sum := "186ac77d04f1b289d6fdccb78aa288638531641243b0ad03318c8bffd852eb83", func := "evenhanded/evenhandedlaw14.SeatPlays", spec := "seatPlays", unfollowed := true, recurses := true, apart := false, narrowed := true }
def SeatPlaysUptoSaid : Prop := seatPlaysUptoRow.holds Try.pinned (OpenSpec.upto seatPlaysSpec)

/-- 'evenhandedlaw14.SeatKnown', WHERE WHAT IT READS IS OF BULK AT MOST 1048576: true; the input reads as it did. -/
def seatKnownUptoRow : OpenClaim := { program := "ytffpahpbgeillaa", sum := "186ac77d04f1b289d6fdccb78aa288638531641243b0ad03318c8bffd852eb83", func := "evenhanded/evenhandedlaw14.SeatKnown", spec := "seatKnown", unfollowed := true, recurses := true, apart := false, narrowed := true }
def SeatKnownUptoSaid : Prop := seatKnownUptoRow.holds Try.pinned (OpenSpec.upto seatKnownSpec)

end Rows
end Go.Proofs.Ytffpahpbgeillaa
