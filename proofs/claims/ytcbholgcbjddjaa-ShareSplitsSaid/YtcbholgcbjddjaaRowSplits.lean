/- The row of the law ShareSplits, out of its walk in the words of the abstract machine (texts YtcbholgcbjddjaaAm..): for every input the law returns true, and the arguments read behind the call as before; no condition. -/
import Derived.Test.YtcbholgcbjddjaaRows
import Derived.Test.YtcbholgcbjddjaaM9
import Derived.WalkKit
import Derived.ProofKit
import Derived.OpenShut
import Derived.ChangeOld
import Derived.SizedLaws
import Derived.KernelRfl
import Derived.Below
namespace Go.Proofs.Ytcbholgcbjddjaa.shareSplits
open Go.ChangeShapes Go.WideShapes Go.ChangeAt Go.RowKit
set_option linter.unusedVariables false
set_option linter.unusedSimpArgs false
theorem own : ownKnob Try.prog.godebug = none := by kernel_rfl
theorem walk (W : World) {u0 : Go.AM.AV} {y0 : Value} (V0 : Go.AM.VR Go.AM.plA u0 y0) {xs0 : List sy.Tk1} (R0 : sy.Tks (Go.AM.decG Try.prog W) W.heap.size W u0 xs0) (an1 bn1 cn1 : Nat) (au1 : an1 < 256) (bu1 : bn1 < 256) (cu1 : cn1 < 256) : Calls Try.prog 5 #[y0, .agg #[.int .u8 an1, .int .u8 bn1, .int .u8 cn1]] W fun e W' => e = .returned (.bool true) ∧ Below W.heap.size W W' := by
  obtain ⟨r, H', h, rfl⟩ := sy.shareSplits_law (G := Go.AM.decG Try.prog W) (base := W.heap.size) (w0 := W) R0 an1 bn1 cn1 au1 bu1 cu1
  refine (h Go.AM.plA W [y0, .agg #[.int .u8 an1, .int .u8 bn1, .int .u8 cn1]] (Go.AM.relA Try.prog W) Go.AM.freshA ⟨_, _, rfl, V0, ⟨_, _, rfl, ⟨_, ⟨_, _, rfl, rfl, _, _, rfl, rfl, _, _, rfl, rfl, rfl⟩, rfl⟩, rfl⟩⟩).mono ?_
  rintro e w' ⟨ρ', x, rfl, hv, hp⟩
  simp only [Go.AM.VR] at hv
  subst hv
  exact ⟨rfl, hp.rel.below⟩
theorem laidOut : laidOutB Try.prog = true := by kernel_rfl
set_option maxRecDepth 100000 in
theorem lifted (os : Os) (started : os.Started) (H : Type) (enc : TypeId × Value → H) :
    ReturnsInHanded {} Try.checked os 5 .any (Rows.shareSplitsSpec.pre6 enc Try.prog Try.f5 Rows.shareSplitsRow.domain false) (Rows.shareSplitsSpec.post enc Try.prog Try.f5 false true false false) := by
  refine returnsInHanded_of_change (C := Try.checked) own started (by kernel_rfl) Try.func5
    (ChangeSpec.witness6 (enc := enc) (C := Try.checked) false ⟨#[], #[.slice none 0 0, .agg #[.int .u8 0, .int .u8 0, .int .u8 0]], []⟩ 8 (by kernel_rfl) (by kernel_rfl) (by kernel_rfl) (by kernel_rfl)) ?_
  intro W base args ds gs before hval0 hW _ _
  have hval : ∀ (j : Nat) t v, Try.f5.params[j]? = some t → args[j]? = some v → Value.okWide Try.prog W .any base t v := hval0
  have hW' := hW
  obtain ⟨p, q, hA0, hV, rfl, hfz, hnd⟩ := hW
  have hA : DataW.TrodAll enc Try.prog W 0 (fun _ => true) true Try.f5.params.toList args.toList ds p := hA0
  rw [Try.params5] at hA hval
  obtain ⟨v0, vs0, d0, ds0, p0, q0, hargs, rfl, rfl, h0, r0⟩ := trodAll_cons hA
  obtain ⟨v1, vs1, d1, ds1, p1, q1, rfl, rfl, rfl, h1, r1⟩ := trodAll_cons r0
  obtain ⟨rfl, rfl, rfl⟩ := trodAll_nil r1
  obtain rfl : args = #[v0, v1] := by cases args; simp_all
  obtain ⟨rfl, rfl⟩ := trodVars_none hV
  have lt0 : ∀ x ∈ p0, x.block < W.heap.size := by obtain ⟨m, hm⟩ := h0; exact DataW.trod_lt m _ _ _ hm
  have k0 := h0
  obtain ⟨A0, l0, c0, rfl⟩ := okWide_slice Try.underlying22 (hval 0 22 v0 rfl rfl)
  obtain ⟨u0, V0, g0⟩ := Go.AM.argA (sy.opT (fun _ => rfl)) (Go.AM.ctys_one Try.underlying22 (by simp)) h0 rfl
  obtain ⟨a1, b1, c1, rfl, rfl, rfl, w1, x1, z1⟩ := Go.AM.open_arr3 Try.underlying44 Try.underlying5 (by kernel_rfl) (by kernel_rfl) (hval 1 44 v1 rfl rfl) h1
  obtain ⟨xs0, R0⟩ := sy.tks_of (base := W.heap.size) (w0 := W) g0
  obtain ⟨an1, rfl, au1⟩ : ∃ n : Nat, a1 = (n : Int) ∧ n < 256 := by
    simp only [Lit.wf, IntKind.min, IntKind.max, IntKind.signed, IntKind.bits, Bool.and_eq_true, decide_eq_true_eq] at w1
    exact ⟨a1.toNat, by simp at w1; omega, by simp at w1; omega⟩
  obtain ⟨bn1, rfl, bu1⟩ : ∃ n : Nat, b1 = (n : Int) ∧ n < 256 := by
    simp only [Lit.wf, IntKind.min, IntKind.max, IntKind.signed, IntKind.bits, Bool.and_eq_true, decide_eq_true_eq] at x1
    exact ⟨b1.toNat, by simp at x1; omega, by simp at x1; omega⟩
  obtain ⟨cn1, rfl, cu1⟩ : ∃ n : Nat, c1 = (n : Int) ∧ n < 256 := by
    simp only [Lit.wf, IntKind.min, IntKind.max, IntKind.signed, IntKind.bits, Bool.and_eq_true, decide_eq_true_eq] at z1
    exact ⟨c1.toNat, by simp at z1; omega, by simp at z1; omega⟩
  refine (walk W V0 R0 an1 bn1 cn1 au1 bu1 cu1).mono fun e W' ⟨he, bel⟩ => ?_
  subst he
  exact ⟨_, rfl, _, _, _, [], _, [], hW', trodAll_mk1 (shut_bool Try.underlying4 _), (trodAll_cons_mk (Below.trod laidOut (by kernel_rfl) (of_decide_eq_true (by kernel_rfl)) k0 bel lt0) (trodAll_cons_mk (Go.AM.shut_arr3 Try.underlying44 Try.underlying5 (by kernel_rfl) (by kernel_rfl) w1 x1 z1) trodAll_mk0)), rfl, bel.frame _, fun h => by cases h⟩
theorem over : Rows.shareSplitsRow.holds Try.pinned (OpenSpec.ofChange Rows.shareSplitsSpec) :=
  OpenClaim.holds_of_wide 5 Try.f5 rfl rfl rfl rfl rfl rfl rfl ⟨rfl, rfl, rfl, rfl, rfl⟩ rfl rfl rfl rfl rfl (by kernel_rfl) Try.func5 (by kernel_rfl)
    (of_decide_eq_true (by kernel_rfl)) (by unfold Func.isWrapper; first | (rw [if_pos (by decide +kernel)]; kernel_rfl) | (rw [if_neg (by decide +kernel)]; exact ⟨rfl, rfl⟩))
    (fun os started H enc _ => lifted os started H enc)
theorem proved : Rows.ShareSplitsSaid := over
#print axioms proved
end Go.Proofs.Ytcbholgcbjddjaa.shareSplits
namespace Go.Proofs.Ytcbholgcbjddjaa
/-- The row, under a short name, for the claim. -/
theorem shareSplits_holds : Rows.ShareSplitsSaid := shareSplits.proved
end Go.Proofs.Ytcbholgcbjddjaa
