/-
  No cell of these rows narrows 'for every input' (looked for: loops, veiled, ifaces, maps, wideKeys, modest, calm, conditions, laid).
  DERIVED. THE GIVEN ROWS OF THIS SEAT. 5 by the template 'for every input the law returns true; each argument reads behind the call as it read before'; 0 by the template 'total and deterministic' (their statements: YtecfofmndpgnjaaTotals.lean).
  GIVEN WITH THE SEED: the statements are not yours to turn. If you find one false, say at which input.
  Laid BY PROGRAM, IN A SANDBOX (cutbox-rows.mjs): the forced cells as the released guide's own fill.sh prints them over the translation 6136085be0ff2eef… (all of the seat's roots in one cut). By AI agents, Wed Nov 11 2026. No macro, syntax, notation, axiom, sorry.
-/
import Derived.Test.YtecfofmndpgnjaaChecked
import GoSem.Claim
import GoSem.ClaimJoined
import GoSem.ClaimMapViews
import Derived.JoinedTies
import Derived.KernelRfl
namespace Go.Proofs.Ytecfofmndpgnjaa
/- THE CELL 'sum', in the pinned program and in every row, IS THE sha256 OF THE DUMP (.gsa) THAT YtecfofmndpgnjaaProg.lean LOADS. Nothing in Lean hashes anything: it is a label: what it is worth is what the hold of that sum in a sandbox is worth. -/
noncomputable def Try.pinned : Pinned := { name := "ytecfofmndpgnjaa", sum := "6136085be0ff2eefaded6143161854d1b076956fc5fb04c1b5ff6e64a884ac57", checked := Try.checked }
namespace Rows
def none {H : Type} : Left H := { results := [], args := [] }

/-- 'evenhandedlaw12.JobsLeave': WHATEVER THE INPUT: true; the input reads as it did. -/
def jobsLeaveSpec : ChangeSpec := { name := "jobsLeave", fn := fun _ => fun
  | [d1, d2, d3] => { results := [.lit (.bool true)], args := [d1, d2, d3] }
  | _ => none }
def jobsLeaveRow : OpenClaim := { program := "ytecfofmndpgnjaa", sum := "6136085be0ff2eefaded6143161854d1b076956fc5fb04c1b5ff6e64a884ac57", func := "evenhanded/evenhandedlaw12.JobsLeave", spec := "jobsLeave", unfollowed := true, recurses := true, apart := false }
def JobsLeaveSaid : Prop := jobsLeaveRow.holds Try.pinned (OpenSpec.ofChange jobsLeaveSpec)

/-- ITS FALSE NEIGHBOUR: 'it returns false'. Refute it at one input. -/
def jobsLeaveWrong : ChangeSpec := { name := "jobsLeave", fn := fun _ => fun
  | [d1, d2, d3] => { results := [.lit (.bool false)], args := [d1, d2, d3] }
  | _ => none }
def JobsLeaveWrongFalsely : Prop := jobsLeaveRow.holds Try.pinned (OpenSpec.ofChange jobsLeaveWrong)

/-- 'evenhandedlaw12.JobsCount': WHATEVER THE INPUT: true; the input reads as it did. -/
def jobsCountSpec : ChangeSpec := { name := "jobsCount", fn := fun _ => fun
  | [d1, d2, d3] => { results := [.lit (.bool true)], args := [d1, d2, d3] }
  | _ => none }
def jobsCountRow : OpenClaim := { program := "ytecfofmndpgnjaa", sum := "6136085be0ff2eefaded6143161854d1b076956fc5fb04c1b5ff6e64a884ac57", func := "evenhanded/evenhandedlaw12.JobsCount", spec := "jobsCount", unfollowed := true, recurses := true, apart := false }
def JobsCountSaid : Prop := jobsCountRow.holds Try.pinned (OpenSpec.ofChange jobsCountSpec)

/-- ITS FALSE NEIGHBOUR: 'it returns false'. Refute it at one input. -/
def jobsCountWrong : ChangeSpec := { name := "jobsCount", fn := fun _ => fun
  | [d1, d2, d3] => { results := [.lit (.bool false)], args := [d1, d2, d3] }
  | _ => none }
def JobsCountWrongFalsely : Prop := jobsCountRow.holds Try.pinned (OpenSpec.ofChange jobsCountWrong)

/-- 'evenhandedlaw12.JobsPlay': WHATEVER THE INPUT: true; the input reads as it did. -/
def jobsPlaySpec : ChangeSpec := { name := "jobsPlay", fn := fun _ => fun
  | [d1, d2] => { results := [.lit (.bool true)], args := [d1, d2] }
  | _ => none }
def jobsPlayRow : OpenClaim := { program := "ytecfofmndpgnjaa", sum := "6136085be0ff2eefaded6143161854d1b076956fc5fb04c1b5ff6e64a884ac57", func := "evenhanded/evenhandedlaw12.JobsPlay", spec := "jobsPlay", unfollowed := true, recurses := true, apart := false }
def JobsPlaySaid : Prop := jobsPlayRow.holds Try.pinned (OpenSpec.ofChange jobsPlaySpec)

/-- ITS FALSE NEIGHBOUR: 'it returns false'. Refute it at one input. -/
def jobsPlayWrong : ChangeSpec := { name := "jobsPlay", fn := fun _ => fun
  | [d1, d2] => { results := [.lit (.bool false)], args := [d1, d2] }
  | _ => none }
def JobsPlayWrongFalsely : Prop := jobsPlayRow.holds Try.pinned (OpenSpec.ofChange jobsPlayWrong)

/-- 'evenhandedlaw12.JobsKnown': WHATEVER THE INPUT: true; the input reads as it did. -/
def jobsKnownSpec : ChangeSpec := { name := "jobsKnown", fn := fun _ => fun
  | [] => { results := [.lit (.bool true)], args := [] }
  | _ => none }
def jobsKnownRow : OpenClaim := { program := "ytecfofmndpgnjaa", sum := "6136085be0ff2eefaded6143161854d1b076956fc5fb04c1b5ff6e64a884ac57", func := "evenhanded/evenhandedlaw12.JobsKnown", spec := "jobsKnown", unfollowed := true, recurses := true, apart := false }
def JobsKnownSaid : Prop := jobsKnownRow.holds Try.pinned (OpenSpec.ofChange jobsKnownSpec)

/-- ITS FALSE NEIGHBOUR: 'it returns false'. Refute it at one input. -/
def jobsKnownWrong : ChangeSpec := { name := "jobsKnown", fn := fun _ => fun
  | [] => { results := [.lit (.bool false)], args := [] }
  | _ => none }
def JobsKnownWrongFalsely : Prop := jobsKnownRow.holds Try.pinned (OpenSpec.ofChange jobsKnownWrong)

/-- 'evenhandedlaw12.JobsHands': WHATEVER THE INPUT: true; the input reads as it did. -/
def jobsHandsSpec : ChangeSpec := { name := "jobsHands", fn := fun _ => fun
  | [d1, d2] => { results := [.lit (.bool true)], args := [d1, d2] }
  | _ => none }
def jobsHandsRow : OpenClaim := { program := "ytecfofmndpgnjaa", sum := "6136085be0ff2eefaded6143161854d1b076956fc5fb04c1b5ff6e64a884ac57", func := "evenhanded/evenhandedlaw12.JobsHands", spec := "jobsHands", unfollowed := true, recurses := true, apart := false }
def JobsHandsSaid : Prop := jobsHandsRow.holds Try.pinned (OpenSpec.ofChange jobsHandsSpec)

/-- ITS FALSE NEIGHBOUR: 'it returns false'. Refute it at one input. -/
def jobsHandsWrong : ChangeSpec := { name := "jobsHands", fn := fun _ => fun
  | [d1, d2] => { results := [.lit (.bool false)], args := [d1, d2] }
  | _ => none }
def JobsHandsWrongFalsely : Prop := jobsHandsRow.holds Try.pinned (OpenSpec.ofChange jobsHandsWrong)

/- THE SECOND FORM. 'bulk': how many values and letters a reading holds, each counted each time it is reached (what is shared counts as often as it is met; a slice's spare places count too). A statement '..UptoSaid' is the law's where the arguments, and the package variables that the reading takes, are together of bulk at most 1048576: NARROWER than '..Said'. Prove '..Said' where nothing that the law and all that it calls make is longer than what came in: it says more and counts as full. Else prove '..UptoSaid'. A law counts once. -/
mutual
def uptoBulk {H : Type} : DataW H → Nat
  | .lit (.string bytes) => bytes.length + 1
  | .lit _ => 1
  | .nil => 1
  | .ptr d => uptoBulk d + 1
  | .slice elems spare => uptoBulkAll elems + uptoBulkAll spare + 1
  | .agg parts => uptoBulkAll parts + 1
  | .iface _ d => uptoBulk d + 1
  | .map entries => uptoBulkEntries entries + 1
  | .held _ => 1
def uptoBulkAll {H : Type} : List (DataW H) → Nat
  | [] => 0
  | d :: r => uptoBulk d + uptoBulkAll r
def uptoBulkEntries {H : Type} : List (Lit × DataW H) → Nat
  | [] => 0
  | x :: r => uptoBulkEntry x + uptoBulkEntries r
def uptoBulkEntry {H : Type} : Lit × DataW H → Nat
  | (.string bytes, d) => bytes.length + uptoBulk d + 1
  | (_, d) => uptoBulk d + 1
 end
def uptoSmall : (H : Type) → List (DataW H) → Bool := fun _ ds => decide (uptoBulkAll ds ≤ 1048576)
def OpenSpec.upto (s : _root_.Go.ChangeSpec) : _root_.Go.OpenSpec := { _root_.Go.OpenSpec.ofChange s with cond := some uptoSmall }

/-- 'evenhandedlaw12.JobsLeave', WHERE WHAT IT READS IS OF BULK AT MOST 1048576: true; the input reads as it did. -/
def jobsLeaveUptoRow : OpenClaim := { program := "ytecfofmndpgnjaa", sum := "6136085be0ff2eefaded6143161854d1b076956fc5fb04c1b5ff6e64a884ac57", func := "evenhanded/evenhandedlaw12.JobsLeave", spec := "jobsLeave", unfollowed := true, recurses := true, apart := false, narrowed := true }
def JobsLeaveUptoSaid : Prop := jobsLeaveUptoRow.holds Try.pinned (OpenSpec.upto jobsLeaveSpec)

/-- 'evenhandedlaw12.JobsCount', WHERE WHAT IT READS IS OF BULK AT MOST 1048576: true; the input reads as it did. -/
def jobsCountUptoRow : OpenClaim := { program := "ytecfofmndpgnjaa", sum := "6136085be0ff2eefaded6143161854d1b076956fc5fb04c1b5ff6e64a884ac57", func := "evenhanded/evenhandedlaw12.JobsCount", spec := "jobsCount", unfollowed := true, recurses := true, apart := false, narrowed := true }
def JobsCountUptoSaid : Prop := jobsCountUptoRow.holds Try.pinned (OpenSpec.upto jobsCountSpec)

/-- 'evenhandedlaw12.JobsPlay', WHERE WHAT IT READS IS OF BULK AT MOST 1048576: true; the input reads as it did. -/
def jobsPlayUptoRow : OpenClaim := { program := "ytecfofmndpgnjaa", sum := "6136085be0ff2eefaded6143161854d1b076956fc5fb04c1b5ff6e64a884ac57", func := "evenhanded/evenhandedlaw12.JobsPlay", spec := "jobsPlay", unfollowed := true, recurses := true, apart := false, narrowed := true }
def JobsPlayUptoSaid : Prop := jobsPlayUptoRow.holds Try.pinned (OpenSpec.upto jobsPlaySpec)

/-- 'evenhandedlaw12.JobsKnown', WHERE WHAT IT READS IS OF BULK AT MOST 1048576: true; the input reads as it did. -/
def jobsKnownUptoRow : OpenClaim := { program := "ytecfofmndpgnjaa", sum := "6136085be0ff2eefaded6143161854d1b076956fc5fb04c1b5ff6e64a884ac57", func := "evenhanded/evenhandedlaw12.JobsKnown", spec := "jobsKnown", unfollowed := true, recurses := true, apart := false, narrowed := true }
def JobsKnownUptoSaid : Prop := jobsKnownUptoRow.holds Try.pinned (OpenSpec.upto jobsKnownSpec)

/-- 'evenhandedlaw12.JobsHands', WHERE WHAT IT READS IS OF BULK AT MOST 1048576: true; the input reads as it did. -/
def jobsHandsUptoRow : OpenClaim := { program := "ytecfofmndpgnjaa", sum := "6136085be0ff2eefaded6143161854d1b076956fc5fb04c1b5ff6e64a884ac57", func := "evenhanded/evenhandedlaw12.JobsHands", spec := "jobsHands", unfollowed := true, recurses := true, apart := false, narrowed := true }
def JobsHandsUptoSaid : Prop := jobsHandsUptoRow.holds Try.pinned (OpenSpec.upto jobsHandsSpec)

end Rows
end Go.Proofs.Ytecfofmndpgnjaa
