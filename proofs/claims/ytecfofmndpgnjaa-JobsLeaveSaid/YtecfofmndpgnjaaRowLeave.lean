/- The row of the law JobsLeave, out of its walk in the words of the abstract machine (texts YtecfofmndpgnjaaAm..): for every input the law returns true, and the arguments read behind the call as before; no condition. -/
import Derived.Test.YtecfofmndpgnjaaRows
import Derived.Test.YtecfofmndpgnjaaLeave
import Derived.Test.YtecfofmndpgnjaaAmArgs3
import Derived.Test.YtecfofmndpgnjaaAmRow
import Derived.WalkKit
import Derived.ProofKit
import Derived.OpenShut
import Derived.ChangeOld
import Derived.SizedLaws
import Derived.KernelRfl
namespace Go.Proofs.Ytecfofmndpgnjaa.jobsLeave
open Go.ChangeShapes Go.WideShapes Go.ChangeAt Go.RowKit
set_option linter.unusedVariables false
set_option linter.unusedSimpArgs false
theorem own : ownKnob Try.prog.godebug = none := by kernel_rfl
theorem walk (W : World) (n0 : Nat) (n1 : Nat) (an2 bn2 : Nat) (u0 : n0 < 256) (u1 : n1 < 256) (au2 : an2 < 256) (bu2 : bn2 < 256) : Calls Try.prog 3 #[.int .u8 n0, .int .u8 n1, .agg #[.int .u8 an2, .int .u8 bn2]] W fun e W' => e = .returned (.bool true) ∧ Below W.heap.size W W' := by
  obtain ⟨r, H', h, rfl⟩ := sy.jobsLeave_law (G := fun _ => none) (base := W.heap.size) (w0 := W) n0 n1 an2 bn2 u0 u1 au2 bu2
  refine (h Go.AM.pl0 W [.int .u8 n0, .int .u8 n1, .agg #[.int .u8 an2, .int .u8 bn2]] (Go.AM.rel0 Try.prog W) Go.AM.fresh0 ⟨_, _, rfl, rfl, ⟨_, _, rfl, rfl, ⟨_, _, rfl, ⟨_, ⟨_, _, rfl, rfl, _, _, rfl, rfl, rfl⟩, rfl⟩, rfl⟩⟩⟩).mono ?_
  rintro e w' ⟨ρ', x, rfl, hv, hp⟩
  simp only [Go.AM.VR] at hv
  subst hv
  exact ⟨rfl, hp.rel.below⟩
set_option maxRecDepth 100000 in
theorem lifted (os : Os) (started : os.Started) (H : Type) (enc : TypeId × Value → H) :
    ReturnsInHanded {} Try.checked os 3 .any (Rows.jobsLeaveSpec.pre6 enc Try.prog Try.f3 Rows.jobsLeaveRow.domain false) (Rows.jobsLeaveSpec.post enc Try.prog Try.f3 false true false false) := by
  refine returnsInHanded_of_change (C := Try.checked) own started (by kernel_rfl) Try.func3
    (ChangeSpec.witness6 (enc := enc) (C := Try.checked) false ⟨#[], #[.int .u8 0, .int .u8 0, .agg #[.int .u8 0, .int .u8 0]], []⟩ 8 (by kernel_rfl) (by kernel_rfl) (by kernel_rfl) (by kernel_rfl)) ?_
  intro W base args ds gs before hval0 hW _ _
  have hval : ∀ (j : Nat) t v, Try.f3.params[j]? = some t → args[j]? = some v → Value.okWide Try.prog W .any base t v := hval0
  have hW' := hW
  obtain ⟨p, q, hA0, hV, rfl, hfz, hnd⟩ := hW
  have hA : DataW.TrodAll enc Try.prog W 0 (fun _ => true) true Try.f3.params.toList args.toList ds p := hA0
  rw [Try.params3] at hA hval
  obtain ⟨v0, vs0, d0, ds0, p0, q0, hargs, rfl, rfl, h0, r0⟩ := trodAll_cons hA
  obtain ⟨v1, vs1, d1, ds1, p1, q1, rfl, rfl, rfl, h1, r1⟩ := trodAll_cons r0
  obtain ⟨v2, vs2, d2, ds2, p2, q2, rfl, rfl, rfl, h2, r2⟩ := trodAll_cons r1
  obtain ⟨rfl, rfl, rfl⟩ := trodAll_nil r2
  obtain rfl : args = #[v0, v1, v2] := by cases args; simp_all
  obtain ⟨rfl, rfl⟩ := trodVars_none hV
  obtain ⟨a0, rfl, rfl, rfl, w0⟩ := open_int Try.underlying5 (hval 0 5 v0 rfl rfl) h0
  obtain ⟨a1, rfl, rfl, rfl, w1⟩ := open_int Try.underlying5 (hval 1 5 v1 rfl rfl) h1
  obtain ⟨a2, b2, rfl, rfl, rfl, w2, x2⟩ := Go.AM.open_arr2 Try.underlying22 Try.underlying5 (by kernel_rfl) (by kernel_rfl) (hval 2 22 v2 rfl rfl) h2
  obtain ⟨n0, rfl, u0⟩ : ∃ n : Nat, a0 = (n : Int) ∧ n < 256 := by
    simp only [Lit.wf, IntKind.min, IntKind.max, IntKind.signed, IntKind.bits, Bool.and_eq_true, decide_eq_true_eq] at w0
    exact ⟨a0.toNat, by simp at w0; omega, by simp at w0; omega⟩
  obtain ⟨n1, rfl, u1⟩ : ∃ n : Nat, a1 = (n : Int) ∧ n < 256 := by
    simp only [Lit.wf, IntKind.min, IntKind.max, IntKind.signed, IntKind.bits, Bool.and_eq_true, decide_eq_true_eq] at w1
    exact ⟨a1.toNat, by simp at w1; omega, by simp at w1; omega⟩
  obtain ⟨an2, rfl, au2⟩ : ∃ n : Nat, a2 = (n : Int) ∧ n < 256 := by
    simp only [Lit.wf, IntKind.min, IntKind.max, IntKind.signed, IntKind.bits, Bool.and_eq_true, decide_eq_true_eq] at w2
    exact ⟨a2.toNat, by simp at w2; omega, by simp at w2; omega⟩
  obtain ⟨bn2, rfl, bu2⟩ : ∃ n : Nat, b2 = (n : Int) ∧ n < 256 := by
    simp only [Lit.wf, IntKind.min, IntKind.max, IntKind.signed, IntKind.bits, Bool.and_eq_true, decide_eq_true_eq] at x2
    exact ⟨b2.toNat, by simp at x2; omega, by simp at x2; omega⟩
  refine (walk W n0 n1 an2 bn2 u0 u1 au2 bu2).mono fun e W' ⟨he, bel⟩ => ?_
  subst he
  exact ⟨_, rfl, _, _, _, [], _, [], hW', trodAll_mk1 (shut_bool Try.underlying4 _), (trodAll_cons_mk (shut_int Try.underlying5 w0) (trodAll_cons_mk (shut_int Try.underlying5 w1) (trodAll_cons_mk (Go.AM.shut_arr2 Try.underlying22 Try.underlying5 (by kernel_rfl) (by kernel_rfl) w2 x2) trodAll_mk0))), rfl, bel.frame _, fun h => by cases h⟩
theorem over : Rows.jobsLeaveRow.holds Try.pinned (OpenSpec.ofChange Rows.jobsLeaveSpec) :=
  OpenClaim.holds_of_wide 3 Try.f3 rfl rfl rfl rfl rfl rfl rfl ⟨rfl, rfl, rfl, rfl, rfl⟩ rfl rfl rfl rfl rfl (by kernel_rfl) Try.func3 (by kernel_rfl)
    (of_decide_eq_true (by kernel_rfl)) (by unfold Func.isWrapper; first | (rw [if_pos (by decide +kernel)]; kernel_rfl) | (rw [if_neg (by decide +kernel)]; exact ⟨rfl, rfl⟩))
    (fun os started H enc _ => lifted os started H enc)
theorem proved : Rows.JobsLeaveSaid := over
#print axioms proved
end Go.Proofs.Ytecfofmndpgnjaa.jobsLeave
namespace Go.Proofs.Ytecfofmndpgnjaa
/-- The row, under a short name, for the claim. -/
theorem jobsLeave_holds : Rows.JobsLeaveSaid := jobsLeave.proved
end Go.Proofs.Ytecfofmndpgnjaa
