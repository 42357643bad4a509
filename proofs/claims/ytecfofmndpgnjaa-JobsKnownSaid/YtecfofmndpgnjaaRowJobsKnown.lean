/-
  THE LAW JobsKnown: the call returns true (it has no arguments); no condition. The abstract machine of the texts YtecfofmndpgnjaaAm.. runs it, the kernel checks the run.
-/
import Derived.Test.YtecfofmndpgnjaaRows
import Derived.Test.YtecfofmndpgnjaaAmSKeys
import Derived.WalkKit
import Derived.ProofKit
import Derived.OpenShut
import Derived.ChangeOld
import Derived.SizedLaws
import Derived.KernelRfl
namespace Go.Proofs.Ytecfofmndpgnjaa.jobsKnown
open Go.ChangeShapes Go.WideShapes Go.ChangeAt Go.RowKit

theorem own : ownKnob Try.prog.godebug = none := by kernel_rfl
theorem mixed : Try.prog.follows .mixedOrders = true := by kernel_rfl
theorem runs : Go.AM.isTrue (Go.AM.acall (Go.AM.noArgs Try.prog) Go.AM.drawRunM Go.AM.gcCall (skeys.prims (Go.AM.noArgs Try.prog)) 400 6 [] []) = true := by kernel_rfl
theorem walk (w : World) : Calls Try.prog 6 #[] w fun e w' => e = .returned (.bool true) ∧ Below w.heap.size w w' := Go.AM.knownP (fun b w0 => skeys.prims_ok rfl b w0) mixed runs w

set_option maxRecDepth 100000 in
theorem lifted (os : Os) (started : os.Started) (H : Type) (enc : TypeId × Value → H) :
    ReturnsInHanded {} Try.checked os 6 .any (Rows.jobsKnownSpec.pre6 enc Try.prog Try.f6 Rows.jobsKnownRow.domain false) (Rows.jobsKnownSpec.post enc Try.prog Try.f6 false true false false) := by
  refine returnsInHanded_of_change (C := Try.checked) own started (by kernel_rfl) Try.func6
    (ChangeSpec.witness6 (enc := enc) (C := Try.checked) false ⟨#[], #[], []⟩ 8 (by kernel_rfl) (by kernel_rfl) (by kernel_rfl) (by kernel_rfl)) ?_
  intro W base args ds gs before _ hW _ _
  have hW' := hW
  obtain ⟨p, q, hA0, hV, rfl, _, _⟩ := hW
  have hA : DataW.TrodAll enc Try.prog W 0 (fun _ => true) true Try.f6.params.toList args.toList ds p := hA0
  rw [Try.params6] at hA
  obtain ⟨rfl, rfl, rfl⟩ := trodAll_none hA
  obtain ⟨rfl, rfl⟩ := trodVars_none hV
  clear hA0
  simp only [List.append_nil] at hW'
  refine (walk W).mono fun e W' ⟨he, bel⟩ => ?_
  subst he
  exact ⟨_, rfl, _, _, _, [], _, [], hW', trodAll_mk1 (shut_bool Try.underlying4 _), trodAll_mk0, rfl, bel.frame _, fun h => by cases h⟩

theorem over : Rows.jobsKnownRow.holds Try.pinned (OpenSpec.ofChange Rows.jobsKnownSpec) :=
  OpenClaim.holds_of_wide 6 Try.f6 rfl rfl rfl rfl rfl rfl rfl ⟨rfl, rfl, rfl, rfl, rfl⟩ rfl rfl rfl rfl rfl (by kernel_rfl) Try.func6 (by kernel_rfl)
    (of_decide_eq_true (by kernel_rfl)) (by unfold Func.isWrapper; first | (rw [if_pos (by decide +kernel)]; kernel_rfl) | (rw [if_neg (by decide +kernel)]; exact ⟨rfl, rfl⟩))
    (fun os started H enc _ => lifted os started H enc)

theorem proved : Rows.JobsKnownSaid := over
end Go.Proofs.Ytecfofmndpgnjaa.jobsKnown
namespace Go.Proofs.Ytecfofmndpgnjaa
/-- The row, under a short name. -/
theorem jobsKnown_holds : Rows.JobsKnownSaid := jobsKnown.proved
end Go.Proofs.Ytecfofmndpgnjaa
