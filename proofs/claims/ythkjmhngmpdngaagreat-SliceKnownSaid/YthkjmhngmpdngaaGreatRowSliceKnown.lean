/-
  THE LAW SliceKnown: the call returns true (it has no arguments); no condition. The abstract machine of the texts YthkjmhngmpdngaaGreatAm.. runs it, the kernel checks the run.
-/
import Derived.Test.YthkjmhngmpdngaaGreatRows
import Derived.Test.YthkjmhngmpdngaaGreatAmRat
import Derived.WalkKit
import Derived.ProofKit
import Derived.OpenShut
import Derived.ChangeOld
import Derived.SizedLaws
import Derived.KernelRfl
namespace Go.Proofs.YthkjmhngmpdngaaGreat.sliceKnown
open Go.ChangeShapes Go.WideShapes Go.ChangeAt Go.RowKit

theorem own : ownKnob Tryz.prog.godebug = none := by kernel_rfl
theorem mixed : Tryz.prog.follows .mixedOrders = true := by kernel_rfl
theorem runs : Go.AM.isTrue (Go.AM.acall (Go.AM.noArgs Tryz.prog) Go.AM.drawRunA Go.AM.gcCall (rat.prims (Go.AM.noArgs Tryz.prog)) 400 5 [] []) = true := by kernel_rfl
theorem walk (w : World) : Calls Tryz.prog 5 #[] w fun e w' => e = .returned (.bool true) ∧ Below w.heap.size w w' := Go.AM.knownP (fun b w0 => rat.prims_ok rfl b w0) mixed runs w

set_option maxRecDepth 100000 in
theorem lifted (os : Os) (started : os.Started) (H : Type) (enc : TypeId × Value → H) :
    ReturnsInHanded {} Tryz.checked os 5 .any (Rows.sliceKnownSpec.pre6 enc Tryz.prog Tryz.f5 Rows.sliceKnownRow.domain false) (Rows.sliceKnownSpec.post enc Tryz.prog Tryz.f5 false true false false) := by
  refine returnsInHanded_of_change (C := Tryz.checked) own started (by kernel_rfl) Tryz.func5
    (ChangeSpec.witness6 (enc := enc) (C := Tryz.checked) false ⟨#[], #[], []⟩ 8 (by kernel_rfl) (by kernel_rfl) (by kernel_rfl) (by kernel_rfl)) ?_
  intro W base args ds gs before _ hW _ _
  have hW' := hW
  obtain ⟨p, q, hA0, hV, rfl, _, _⟩ := hW
  have hA : DataW.TrodAll enc Tryz.prog W 0 (fun _ => true) true Tryz.f5.params.toList args.toList ds p := hA0
  rw [Tryz.params5] at hA
  obtain ⟨rfl, rfl, rfl⟩ := trodAll_none hA
  obtain ⟨rfl, rfl⟩ := trodVars_none hV
  clear hA0
  simp only [List.append_nil] at hW'
  refine (walk W).mono fun e W' ⟨he, bel⟩ => ?_
  subst he
  exact ⟨_, rfl, _, _, _, [], _, [], hW', trodAll_mk1 (shut_bool Tryz.underlying4 _), trodAll_mk0, rfl, bel.frame _, fun h => by cases h⟩

theorem over : Rows.sliceKnownRow.holds Tryz.pinned (OpenSpec.ofChange Rows.sliceKnownSpec) :=
  OpenClaim.holds_of_wide 5 Tryz.f5 rfl rfl rfl rfl rfl rfl rfl ⟨rfl, rfl, rfl, rfl, rfl⟩ rfl rfl rfl rfl rfl (by kernel_rfl) Tryz.func5 (by kernel_rfl)
    (of_decide_eq_true (by kernel_rfl)) (by unfold Func.isWrapper; first | (rw [if_pos (by decide +kernel)]; kernel_rfl) | (rw [if_neg (by decide +kernel)]; exact ⟨rfl, rfl⟩))
    (fun os started H enc _ => lifted os started H enc)

theorem proved : Rows.SliceKnownSaid := over
end Go.Proofs.YthkjmhngmpdngaaGreat.sliceKnown
namespace Go.Proofs.YthkjmhngmpdngaaGreat
/-- The row, under a short name. -/
theorem sliceKnown_holds : Rows.SliceKnownSaid := sliceKnown.proved
end Go.Proofs.YthkjmhngmpdngaaGreat
