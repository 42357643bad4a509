/-
  No cell of these rows narrows 'for every input' (looked for: loops, veiled, ifaces, maps, wideKeys, modest, calm, conditions, laid).
  DERIVED. THE GIVEN ROWS OF THIS SEAT. 5 by the template 'for every input the law returns true; each argument reads behind the call as it read before'; 0 by the template 'total and deterministic' (their statements: YtiljdmlganploaaTotals.lean).
  GIVEN WITH THE SEED: the statements are not yours to turn. If you find one false, say at which input.
  Laid BY PROGRAM, IN A SANDBOX (cutbox-rows.mjs): the forced cells as the released guide's own fill.sh prints them over the translation a2ca4da2e2afb74d… (all of the seat's roots in one cut). By AI agents, Wed Nov 11 2026. No macro, syntax, notation, axiom, sorry.
-/
import Derived.Test.YtiljdmlganploaaChecked
import GoSem.Claim
import GoSem.ClaimJoined
import GoSem.ClaimMapViews
import Derived.JoinedTies
import Derived.KernelRfl
namespace Go.Proofs.Ytiljdmlganploaa
/- THE CELL 'sum', in the pinned program and in every row, IS THE sha256 OF THE DUMP (.gsa) THAT YtiljdmlganploaaProg.lean LOADS. Nothing in Lean hashes anything: it is a label: what it is worth is what the hold of that sum in a sandbox is worth. -/
noncomputable def Try.pinned : Pinned := { name := "ytiljdmlganploaa", sum := "a2ca4da2e2afb74d5875857c24dc36acd6c97c62ef066251db77efd1fa42078e", checked := Try.checked }
namespace Rows
def none {H : Type} : Left H := { results := [], args := [] }

/-- 'evenhandedlaw16.BoundsNext': WHATEVER THE INPUT: true; the input reads as it did. -/
def boundsNextSpec : ChangeSpec := { name := "boundsNext", fn := fun _ => fun
  | [d1, d2] => { results := [.lit (.bool true)], args := [d1, d2] }
  | _ => none }
def boundsNextRow : OpenClaim := { program := "ytiljdmlganploaa", sum := "a2ca4da2e2afb74d5875857c24dc36acd6c97c62ef066251db77efd1fa42078e", func := "evenhanded/evenhandedlaw16.BoundsNext", spec := "boundsNext", recurses := true, apart := false }
def BoundsNextSaid : Prop := boundsNextRow.holds Try.pinned (OpenSpec.ofChange boundsNextSpec)

/-- ITS FALSE NEIGHBOUR: 'it returns false'. Refute it at one input. -/
def boundsNextWrong : ChangeSpec := { name := "boundsNext", fn := fun _ => fun
  | [d1, d2] => { results := [.lit (.bool false)], args := [d1, d2] }
  | _ => none }
def BoundsNextWrongFalsely : Prop := boundsNextRow.holds Try.pinned (OpenSpec.ofChange boundsNextWrong)

/-- 'evenhandedlaw16.BoundsKnown': WHATEVER THE INPUT: true; the input reads as it did. -/
def boundsKnownSpec : ChangeSpec := { name := "boundsKnown", fn := fun _ => fun
  | [] => { results := [.lit (.bool true)], args := [] }
  | _ => none }
def boundsKnownRow : OpenClaim := { program := "ytiljdmlganploaa", sum := "a2ca4da2e2afb74d5875857c24dc36acd6c97c62ef066251db77efd1fa42078e", func := "evenhanded/evenhandedlaw16.BoundsKnown", spec := "boundsKnown", recurses := true, apart := false }
def BoundsKnownSaid : Prop := boundsKnownRow.holds Try.pinned (OpenSpec.ofChange boundsKnownSpec)

/-- ITS FALSE NEIGHBOUR: 'it returns false'. Refute it at one input. -/
def boundsKnownWrong : ChangeSpec := { name := "boundsKnown", fn := fun _ => fun
  | [] => { results := [.lit (.bool false)], args := [] }
  | _ => none }
def BoundsKnownWrongFalsely : Prop := boundsKnownRow.holds Try.pinned (OpenSpec.ofChange boundsKnownWrong)

/-- 'evenhandedlaw16.BoundsTurns': WHATEVER THE INPUT: true; the input reads as it did. -/
def boundsTurnsSpec : ChangeSpec := { name := "boundsTurns", fn := fun _ => fun
  | [d1, d2] => { results := [.lit (.bool true)], args := [d1, d2] }
  | _ => none }
def boundsTurnsRow : OpenClaim := { program := "ytiljdmlganploaa", sum := "a2ca4da2e2afb74d5875857c24dc36acd6c97c62ef066251db77efd1fa42078e", func := "evenhanded/evenhandedlaw16.BoundsTurns", spec := "boundsTurns", recurses := true, apart := false }
def BoundsTurnsSaid : Prop := boundsTurnsRow.holds Try.pinned (OpenSpec.ofChange boundsTurnsSpec)

/-- ITS FALSE NEIGHBOUR: 'it returns false'. Refute it at one input. -/
def boundsTurnsWrong : ChangeSpec := { name := "boundsTurns", fn := fun _ => fun
  | [d1, d2] => { results := [.lit (.bool false)], args := [d1, d2] }
  | _ => none }
def BoundsTurnsWrongFalsely : Prop := boundsTurnsRow.holds Try.pinned (OpenSpec.ofChange boundsTurnsWrong)

/-- 'evenhandedlaw16.BoundsMore': WHATEVER THE INPUT: true; the input reads as it did. -/
def boundsMoreSpec : ChangeSpec := { name := "boundsMore", fn := fun _ => fun
  | [d1, d2, d3] => { results := [.lit (.bool true)], args := [d1, d2, d3] }
  | _ => none }
def boundsMoreRow : OpenClaim := { program := "ytiljdmlganploaa", sum := "a2ca4da2e2afb74d5875857c24dc36acd6c97c62ef066251db77efd1fa42078e", func := "evenhanded/evenhandedlaw16.BoundsMore", spec := "boundsMore", recurses := true, apart := false }
def BoundsMoreSaid : Prop := boundsMoreRow.holds Try.pinned (OpenSpec.ofChange boundsMoreSpec)

/-- ITS FALSE NEIGHBOUR: 'it returns false'. Refute it at one input. -/
def boundsMoreWrong : ChangeSpec := { name := "boundsMore", fn := fun _ => fun
  | [d1, d2, d3] => { results := [.lit (.bool false)], args := [d1, d2, d3] }
  | _ => none }
def BoundsMoreWrongFalsely : Prop := boundsMoreRow.holds Try.pinned (OpenSpec.ofChange boundsMoreWrong)

/-- 'evenhandedlaw16.BoundsOrders': WHATEVER THE INPUT: true; the input reads as it did. -/
def boundsOrdersSpec : ChangeSpec := { name := "boundsOrders", fn := fun _ => fun
  | [d1, d2, d3] => { results := [.lit (.bool true)], args := [d1, d2, d3] }
  | _ => none }
def boundsOrdersRow : OpenClaim := { program := "ytiljdmlganploaa", sum := "a2ca4da2e2afb74d5875857c24dc36acd6c97c62ef066251db77efd1fa42078e", func := "evenhanded/evenhandedlaw16.BoundsOrders", spec := "boundsOrders", recurses := true, apart := false }
def BoundsOrdersSaid : Prop := boundsOrdersRow.holds Try.pinned (OpenSpec.ofChange boundsOrdersSpec)

/-- ITS FALSE NEIGHBOUR: 'it returns false'. Refute it at one input. -/
def boundsOrdersWrong : ChangeSpec := { name := "boundsOrders", fn := fun _ => fun
  | [d1, d2, d3] => { results := [.lit (.bool false)], args := [d1, d2, d3] }
  | _ => none }
def BoundsOrdersWrongFalsely : Prop := boundsOrdersRow.holds Try.pinned (OpenSpec.ofChange boundsOrdersWrong)

/- THE SECOND FORM. 'bulk': how many values and letters a reading holds, each counted each time it is reached (what is shared counts as often as it is met; a slice's spare places count too). A statement '..UptoSaid' is the law's where the arguments, and the package variables that the reading takes, are together of bulk at most 1048576: NARROWER than '..Said'. Prove '..Said' where nothing that the law and all that it calls make is longer than what came in: it says more and counts as full. Else prove '..UptoSaid'. A law counts once. -/
mutual
def uptoBulk {H : Type} : DataW H → Nat
  | .lit (.string bytes) => bytes.length + 1
  | .lit _ => 1
  | .nil => 1
  | .ptr d => uptoBulk d + 1
  | .slice elems spare => uptoBulkAll elems + uptoBulkAll spare + 1
  | .agg parts => uptoBulkAll parts + 1
  | .iface _ d => uptoBulk d + 1
  | .map entries => uptoBulkEntries entries + 1
  | .held _ => 1
def uptoBulkAll {H : Type} : List (DataW H) → Nat
  | [] => 0
  | d :: r => uptoBulk d + uptoBulkAll r
def uptoBulkEntries {H : Type} : List (Lit × DataW H) → Nat
  | [] => 0
  | x :: r => uptoBulkEntry x + uptoBulkEntries r
def uptoBulkEntry {H : Type} : Lit × DataW H → Nat
  | (.string bytes, d) => bytes.length + uptoBulk d + 1
  | (_, d) => uptoBulk d + 1
 end
def uptoSmall : (H : Type) → List (DataW H) → Bool := fun _ ds => decide (uptoBulkAll ds ≤ 1048576)
def OpenSpec.upto (s : _root_.Go.ChangeSpec) : _root_.Go.OpenSpec := { _root_.Go.OpenSpec.ofChange s with cond := some uptoSmall }

/-- 'evenhandedlaw16.BoundsNext', WHERE WHAT IT READS IS OF BULK AT MOST 1048576: true; the input reads as it did. -/
def boundsNextUptoRow : OpenClaim := { program := "ytiljdmlganploaa", sum := "a2ca4da2e2afb74d5875857c24dc36acd6c97c62ef066251db77efd1fa42078e", func := "evenhanded/evenhandedlaw16.BoundsNext", spec := "boundsNext", recurses := true, apart := false, narrowed := true }
def BoundsNextUptoSaid : Prop := boundsNextUptoRow.holds Try.pinned (OpenSpec.upto boundsNextSpec)

/-- 'evenhandedlaw16.BoundsKnown', WHERE WHAT IT READS IS OF BULK AT MOST 1048576: true; the input reads as it did. -/
def boundsKnownUptoRow : OpenClaim := { program := "ytiljdmlganploaa", sum := "a2ca4da2e2afb74d5875857c24dc36acd6c97c62ef066251db77efd1fa42078e", func := "evenhanded/evenhandedlaw16.BoundsKnown", spec := "boundsKnown", recurses := true, apart := false, narrowed := true }
def BoundsKnownUptoSaid : Prop := boundsKnownUptoRow.holds Try.pinned (OpenSpec.upto boundsKnownSpec)

/-- 'evenhandedlaw16.BoundsTurns', WHERE WHAT IT READS IS OF BULK AT MOST 1048576: true; the input reads as it did. -/
def boundsTurnsUptoRow : OpenClaim := { program := "ytiljdmlganploaa", sum := "a2ca4da2e2afb74d5875857c24dc36acd6c97c62ef066251db77efd1fa42078e", func := "evenhanded/evenhandedlaw16.BoundsTurns", spec := "boundsTurns", recurses := true, apart := false, narrowed := true }
def BoundsTurnsUptoSaid : Prop := boundsTurnsUptoRow.holds Try.pinned (OpenSpec.upto boundsTurnsSpec)

/-- 'evenhandedlaw16.BoundsMore', WHERE WHAT IT READS IS OF BULK AT MOST 1048576: true; the input reads as it did. -/
def boundsMoreUptoRow : OpenClaim := { program := "ytiljdmlganploaa", sum := "a2ca4da2e2afb74d5875857c24dc36acd6c97c62ef066251db77efd1fa42078e", func := "evenhanded/evenhandedlaw16.BoundsMore", spec := "boundsMore", recurses := true, apart := false, narrowed := true }
def BoundsMoreUptoSaid : Prop := boundsMoreUptoRow.holds Try.pinned (OpenSpec.upto boundsMoreSpec)

/-- 'evenhandedlaw16.BoundsOrders', WHERE WHAT IT READS IS OF BULK AT MOST 1048576: true; the input reads as it did. -/
def boundsOrdersUptoRow : OpenClaim := { program := "ytiljdmlganploaa", sum := "a2ca4da2e2afb74d5875857c24dc36acd6c97c62ef066251db77efd1fa42078e", func := "evenhanded/evenhandedlaw16.BoundsOrders", spec := "boundsOrders", recurses := true, apart := false, narrowed := true }
def BoundsOrdersUptoSaid : Prop := boundsOrdersUptoRow.holds Try.pinned (OpenSpec.upto boundsOrdersSpec)

end Rows
end Go.Proofs.Ytiljdmlganploaa
