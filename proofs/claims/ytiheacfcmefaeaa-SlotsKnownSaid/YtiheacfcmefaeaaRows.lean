/-
  No cell of these rows narrows 'for every input' (looked for: loops, veiled, ifaces, maps, wideKeys, modest, calm, conditions, laid).
  DERIVED. THE GIVEN ROWS OF THIS SEAT. 4 by the template 'for every input the law returns true; each argument reads behind the call as it read before'; 0 by the template 'total and deterministic' (their statements: YtiheacfcmefaeaaTotals.lean).
  GIVEN WITH THE SEED: the statements are not yours to turn. If you find one false, say at which input.
  Laid BY PROGRAM, IN A SANDBOX (cutbox-rows.mjs): the forced cells as the released guide's own fill.sh prints them over the translation eb3fbf8aae36f18f… (all of the seat's roots in one cut). By AI agents, Wed Nov 11 2026. No macro, syntax, notation, axiom, sorry.
-/
import Derived.Test.YtiheacfcmefaeaaChecked
import GoSem.Claim
import GoSem.ClaimJoined
import GoSem.ClaimMapViews
import Derived.JoinedTies
import Derived.KernelRfl
namespace Go.Proofs.Ytiheacfcmefaeaa
/- THE CELL 'sum', in the pinned program and in every row, IS THE sha256 OF THE DUMP (.gsa) THAT YtiheacfcmefaeaaProg.lean LOADS. Nothing in Lean hashes anything: it is a label: what it is worth is what the hold of that sum in a sandbox is worth. -/
noncomputable def Try.pinned : Pinned := { name := "ytiheacfcmefaeaa", sum := "eb3fbf8aae36f18fa9cb1e8577fbd884d59651cbb8403b8b5ebd5c618c444cc5", checked := Try.checked }
namespace Rows
def none {H : Type} : Left H := { results := [], args := [] }

/-- 'evenhandedlaw5.SlotsPlay': WHATEVER THE INPUT: true; the input reads as it did. -/
def slotsPlaySpec : ChangeSpec := { name := "slotsPlay", fn := fun _ => fun
  | [d1, d2] => { results := [.lit (.bool true)], args := [d1, d2] }
  | _ => none }
def slotsPlayRow : OpenClaim := { program := "ytiheacfcmefaeaa", sum := "eb3fbf8aae36f18fa9cb1e8577fbd884d59651cbb8403b8b5ebd5c618c444cc5", func := "evenhanded/evenhandedlaw5.SlotsPlay", spec := "slotsPlay", unfollowed := true, recurses := true, apart := false }
def SlotsPlaySaid : Prop := slotsPlayRow.holds Try.pinned (OpenSpec.ofChange slotsPlaySpec)

/-- ITS FALSE NEIGHBOUR: 'it returns false'. Refute it at one input. -/
def slotsPlayWrong : ChangeSpec := { name := "slotsPlay", fn := fun _ => fun
  | [d1, d2] => { results := [.lit (.bool false)], args := [d1, d2] }
  | _ => none }
def SlotsPlayWrongFalsely : Prop := slotsPlayRow.holds Try.pinned (OpenSpec.ofChange slotsPlayWrong)

/-- 'evenhandedlaw5.SlotsFill': WHATEVER THE INPUT: true; the input reads as it did. -/
def slotsFillSpec : ChangeSpec := { name := "slotsFill", fn := fun _ => fun
  | [d1, d2] => { results := [.lit (.bool true)], args := [d1, d2] }
  | _ => none }
def slotsFillRow : OpenClaim := { program := "ytiheacfcmefaeaa", sum := "eb3fbf8aae36f18fa9cb1e8577fbd884d59651cbb8403b8b5ebd5c618c444cc5", func := "evenhanded/evenhandedlaw5.SlotsFill", spec := "slotsFill", unfollowed := true, recurses := true, apart := false }
def SlotsFillSaid : Prop := slotsFillRow.holds Try.pinned (OpenSpec.ofChange slotsFillSpec)

/-- ITS FALSE NEIGHBOUR: 'it returns false'. Refute it at one input. -/
def slotsFillWrong : ChangeSpec := { name := "slotsFill", fn := fun _ => fun
  | [d1, d2] => { results := [.lit (.bool false)], args := [d1, d2] }
  | _ => none }
def SlotsFillWrongFalsely : Prop := slotsFillRow.holds Try.pinned (OpenSpec.ofChange slotsFillWrong)

/-- 'evenhandedlaw5.SlotsKnown': WHATEVER THE INPUT: true; the input reads as it did. -/
def slotsKnownSpec : ChangeSpec := { name := "slotsKnown", fn := fun _ => fun
  | [] => { results := [.lit (.bool true)], args := [] }
  | _ => none }
def slotsKnownRow : OpenClaim := { program := "ytiheacfcmefaeaa", sum := "eb3fbf8aae36f18fa9cb1e8577fbd884d59651cbb8403b8b5ebd5c618c444cc5", func := "evenhanded/evenhandedlaw5.SlotsKnown", spec := "slotsKnown", unfollowed := true, recurses := true, apart := false }
def SlotsKnownSaid : Prop := slotsKnownRow.holds Try.pinned (OpenSpec.ofChange slotsKnownSpec)

/-- ITS FALSE NEIGHBOUR: 'it returns false'. Refute it at one input. -/
def slotsKnownWrong : ChangeSpec := { name := "slotsKnown", fn := fun _ => fun
  | [] => { results := [.lit (.bool false)], args := [] }
  | _ => none }
def SlotsKnownWrongFalsely : Prop := slotsKnownRow.holds Try.pinned (OpenSpec.ofChange slotsKnownWrong)

/-- 'evenhandedlaw5.SlotsBoth': WHATEVER THE INPUT: true; the input reads as it did. -/
def slotsBothSpec : ChangeSpec := { name := "slotsBoth", fn := fun _ => fun
  | [d] => { results := [.lit (.bool true)], args := [d] }
  | _ => none }
def slotsBothRow : OpenClaim := { program := "ytiheacfcmefaeaa", sum := "eb3fbf8aae36f18fa9cb1e8577fbd884d59651cbb8403b8b5ebd5c618c444cc5", func := "evenhanded/evenhandedlaw5.SlotsBoth", spec := "slotsBoth", unfollowed := true, recurses := true, apart := false }
def SlotsBothSaid : Prop := slotsBothRow.holds Try.pinned (OpenSpec.ofChange slotsBothSpec)

/-- ITS FALSE NEIGHBOUR: 'it returns false'. Refute it at one input. -/
def slotsBothWrong : ChangeSpec := { name := "slotsBoth", fn := fun _ => fun
  | [d] => { results := [.lit (.bool false)], args := [d] }
  | _ => none }
def SlotsBothWrongFalsely : Prop := slotsBothRow.holds Try.pinned (OpenSpec.ofChange slotsBothWrong)

/- THE SECOND FORM. 'bulk': how many values and letters a reading holds, each counted each time it is reached (what is shared counts as often as it is met; a slice's spare places count too). A statement '..UptoSaid' is the law's where the arguments, and the package variables that the reading takes, are together of bulk at most 1048576: NARROWER than '..Said'. Prove '..Said' where nothing that the law and all that it calls make is longer than what came in: it says more and counts as full. Else prove '..UptoSaid'. A law counts once. -/
mutual
def uptoBulk {H : Type} : DataW H → Nat
  | .lit (.string bytes) => bytes.length + 1
  | .lit _ => 1
  | .nil => 1
  | .ptr d => uptoBulk d + 1
  | .slice elems spare => uptoBulkAll elems + uptoBulkAll spare + 1
  | .agg parts => uptoBulkAll parts + 1
  | .iface _ d => uptoBulk d + 1
  | .map entries => uptoBulkEntries entries + 1
  | .held _ => 1
def uptoBulkAll {H : Type} : List (DataW H) → Nat
  | [] => 0
  | d :: r => uptoBulk d + uptoBulkAll r
def uptoBulkEntries {H : Type} : List (Lit × DataW H) → Nat
  | [] => 0
  | x :: r => uptoBulkEntry x + uptoBulkEntries r
def uptoBulkEntry {H : Type} : Lit × DataW H → Nat
  | (.string bytes, d) => bytes.length + uptoBulk d + 1
  | (_, d) => uptoBulk d + 1
 end
def uptoSmall : (H : Type) → List (DataW H) → Bool := fun _ ds => decide (uptoBulkAll ds ≤ 1048576)
def OpenSpec.upto (s : _root_.Go.ChangeSpec) : _root_.Go.OpenSpec := { _root_.Go.OpenSpec.ofChange s with cond := some uptoSmall }

/-- 'evenhandedlaw5.SlotsPlay', WHERE WHAT IT READS IS OF BULK AT MOST 1048576: true; the input reads as it did. -/
def slotsPlayUptoRow : OpenClaim := { program := "ytiheacfcmefaeaa", sum := "eb3fbf8aae36f18fa9cb1e8577fbd884d59651cbb8403b8b5ebd5c618c444cc5", func := "evenhanded/evenhandedlaw5.SlotsPlay", spec := "slotsPlay", unfollowed := true, recurses := true, apart := false, narrowed := true }
def SlotsPlayUptoSaid : Prop := slotsPlayUptoRow.holds Try.pinned (OpenSpec.upto slotsPlaySpec)

/-- 'evenhandedlaw5.SlotsFill', WHERE WHAT IT READS IS OF BULK AT MOST 1048576: true; the input reads as it did. -/
def slotsFillUptoRow : OpenClaim := { program := "ytiheacfcmefaeaa", sum := "eb3fbf8aae36f18fa9cb1e8577fbd884d59651cbb8403b8b5ebd5c618c444cc5", func := "evenhanded/evenhandedlaw5.SlotsFill", spec := "slotsFill", unfollowed := true, recurses := true, apart := false, narrowed := true }
def SlotsFillUptoSaid : Prop := slotsFillUptoRow.holds Try.pinned (OpenSpec.upto slotsFillSpec)

/-- 'evenhandedlaw5.SlotsKnown', WHERE WHAT IT READS IS OF BULK AT MOST 1048576: true; the input reads as it did. -/
def slotsKnownUptoRow : OpenClaim := { program := "ytiheacfcmefaeaa", sum := "eb3fbf8aae36f18fa9cb1e8577fbd884d59651cbb8403b8b5ebd5c618c444cc5", func := "evenhanded/evenhandedlaw5.SlotsKnown", spec := "slotsKnown", unfollowed := true, recurses := true, apart := false, narrowed := true }
def SlotsKnownUptoSaid : Prop := slotsKnownUptoRow.holds Try.pinned (OpenSpec.upto slotsKnownSpec)

/-- 'evenhandedlaw5.SlotsBoth', WHERE WHAT IT READS IS OF BULK AT MOST 1048576: true; the input reads as it did. -/
def slotsBothUptoRow : OpenClaim := { program := "ytiheacfcmefaeaa", sum := "eb3fbf8aae36f18fa9cb1e8577fbd884d59651cbb8403b8b5ebd5c618c444cc5", func := "evenhanded/evenhandedlaw5.SlotsBoth", spec := "slotsBoth", unfollowed := true, recurses := true, apart := false, narrowed := true }
def SlotsBothUptoSaid : Prop := slotsBothUptoRow.holds Try.pinned (OpenSpec.upto slotsBothSpec)

end Rows
end Go.Proofs.Ytiheacfcmefaeaa
