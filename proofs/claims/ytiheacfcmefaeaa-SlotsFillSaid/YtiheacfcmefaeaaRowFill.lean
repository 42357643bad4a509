/- The row of the law SlotsFill, out of its walk in the words of the abstract machine (texts YtiheacfcmefaeaaAm..): for every input the law returns true, and the arguments read behind the call as before; no condition. -/
import Derived.Test.YtiheacfcmefaeaaRows
import Derived.Test.YtiheacfcmefaeaaFill
import Derived.WalkKit
import Derived.ProofKit
import Derived.OpenShut
import Derived.ChangeOld
import Derived.SizedLaws
import Derived.KernelRfl
namespace Go.Proofs.Ytiheacfcmefaeaa.slotsFill
open Go.ChangeShapes Go.WideShapes Go.ChangeAt Go.RowKit
set_option linter.unusedVariables false
set_option linter.unusedSimpArgs false
theorem own : ownKnob Try.prog.godebug = none := by kernel_rfl
theorem walk (W : World) (n0 : Nat) (n1 : Nat) (u0 : n0 < 65536) (u1 : n1 < 65536) : Calls Try.prog 4 #[.int .u16 n0, .int .u16 n1] W fun e W' => e = .returned (.bool true) ∧ Below W.heap.size W W' := by
  obtain ⟨r, H', h, rfl⟩ := sy.slotsFill_law (G := fun _ => none) (base := W.heap.size) (w0 := W) n0 n1 u0 u1
  refine (h Go.AM.pl0 W [.int .u16 n0, .int .u16 n1] (Go.AM.rel0 Try.prog W) Go.AM.fresh0 ⟨_, _, rfl, rfl, ⟨_, _, rfl, rfl, rfl⟩⟩).mono ?_
  rintro e w' ⟨ρ', x, rfl, hv, hp⟩
  simp only [Go.AM.VR] at hv
  subst hv
  exact ⟨rfl, hp.rel.below⟩
set_option maxRecDepth 100000 in
theorem lifted (os : Os) (started : os.Started) (H : Type) (enc : TypeId × Value → H) :
    ReturnsInHanded {} Try.checked os 4 .any (Rows.slotsFillSpec.pre6 enc Try.prog Try.f4 Rows.slotsFillRow.domain false) (Rows.slotsFillSpec.post enc Try.prog Try.f4 false true false false) := by
  refine returnsInHanded_of_change (C := Try.checked) own started (by kernel_rfl) Try.func4
    (ChangeSpec.witness6 (enc := enc) (C := Try.checked) false ⟨#[], #[.int .u16 0, .int .u16 0], []⟩ 8 (by kernel_rfl) (by kernel_rfl) (by kernel_rfl) (by kernel_rfl)) ?_
  intro W base args ds gs before hval0 hW _ _
  have hval : ∀ (j : Nat) t v, Try.f4.params[j]? = some t → args[j]? = some v → Value.okWide Try.prog W .any base t v := hval0
  have hW' := hW
  obtain ⟨p, q, hA0, hV, rfl, hfz, hnd⟩ := hW
  have hA : DataW.TrodAll enc Try.prog W 0 (fun _ => true) true Try.f4.params.toList args.toList ds p := hA0
  rw [Try.params4] at hA hval
  obtain ⟨v0, vs0, d0, ds0, p0, q0, hargs, rfl, rfl, h0, r0⟩ := trodAll_cons hA
  obtain ⟨v1, vs1, d1, ds1, p1, q1, rfl, rfl, rfl, h1, r1⟩ := trodAll_cons r0
  obtain ⟨rfl, rfl, rfl⟩ := trodAll_nil r1
  obtain rfl : args = #[v0, v1] := by cases args; simp_all
  obtain ⟨rfl, rfl⟩ := trodVars_none hV
  obtain ⟨a0, rfl, rfl, rfl, w0⟩ := open_int Try.underlying39 (hval 0 39 v0 rfl rfl) h0
  obtain ⟨a1, rfl, rfl, rfl, w1⟩ := open_int Try.underlying39 (hval 1 39 v1 rfl rfl) h1
  obtain ⟨n0, rfl, u0⟩ : ∃ n : Nat, a0 = (n : Int) ∧ n < 65536 := by
    simp only [Lit.wf, IntKind.min, IntKind.max, IntKind.signed, IntKind.bits, Bool.and_eq_true, decide_eq_true_eq] at w0
    exact ⟨a0.toNat, by simp at w0; omega, by simp at w0; omega⟩
  obtain ⟨n1, rfl, u1⟩ : ∃ n : Nat, a1 = (n : Int) ∧ n < 65536 := by
    simp only [Lit.wf, IntKind.min, IntKind.max, IntKind.signed, IntKind.bits, Bool.and_eq_true, decide_eq_true_eq] at w1
    exact ⟨a1.toNat, by simp at w1; omega, by simp at w1; omega⟩
  refine (walk W n0 n1 u0 u1).mono fun e W' ⟨he, bel⟩ => ?_
  subst he
  exact ⟨_, rfl, _, _, _, [], _, [], hW', trodAll_mk1 (shut_bool Try.underlying4 _), (trodAll_cons_mk (shut_int Try.underlying39 w0) (trodAll_cons_mk (shut_int Try.underlying39 w1) trodAll_mk0)), rfl, bel.frame _, fun h => by cases h⟩
theorem over : Rows.slotsFillRow.holds Try.pinned (OpenSpec.ofChange Rows.slotsFillSpec) :=
  OpenClaim.holds_of_wide 4 Try.f4 rfl rfl rfl rfl rfl rfl rfl ⟨rfl, rfl, rfl, rfl, rfl⟩ rfl rfl rfl rfl rfl (by kernel_rfl) Try.func4 (by kernel_rfl)
    (of_decide_eq_true (by kernel_rfl)) (by unfold Func.isWrapper; first | (rw [if_pos (by decide +kernel)]; kernel_rfl) | (rw [if_neg (by decide +kernel)]; exact ⟨rfl, rfl⟩))
    (fun os started H enc _ => lifted os started H enc)
theorem proved : Rows.SlotsFillSaid := over
#print axioms proved
end Go.Proofs.Ytiheacfcmefaeaa.slotsFill
namespace Go.Proofs.Ytiheacfcmefaeaa
/-- The row, under a short name, for the claim. -/
theorem slotsFill_holds : Rows.SlotsFillSaid := slotsFill.proved
end Go.Proofs.Ytiheacfcmefaeaa
