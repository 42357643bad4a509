/- The row of the law JobsHands, out of its walk in the words of the abstract machine (texts YtecfofmndpgnjaaAm..): for every input the law returns true, and the arguments read behind the call as before; no condition. -/
import Derived.Test.YtecfofmndpgnjaaRows
import Derived.Test.YtecfofmndpgnjaaHands
import Derived.Test.YtecfofmndpgnjaaAmArgs3
import Derived.Test.YtecfofmndpgnjaaAmRow
import Derived.WalkKit
import Derived.ProofKit
import Derived.OpenShut
import Derived.ChangeOld
import Derived.SizedLaws
import Derived.KernelRfl
import Derived.Below
namespace Go.Proofs.Ytecfofmndpgnjaa.jobsHands
open Go.ChangeShapes Go.WideShapes Go.ChangeAt Go.RowKit
set_option linter.unusedVariables false
set_option linter.unusedSimpArgs false
theorem own : ownKnob Try.prog.godebug = none := by kernel_rfl
theorem walk (W : World) {u0 : Go.AM.AV} {y0 : Value} (V0 : Go.AM.VR Go.AM.plA u0 y0) {xs0 : List sy.Dd} (R0 : sy.Deeds5 (Go.AM.decG Try.prog W) W.heap.size W u0 xs0) (a1 : Int) : Calls Try.prog 7 #[y0, .int .i64 a1] W fun e W' => e = .returned (.bool true) ∧ Below W.heap.size W W' := by
  obtain ⟨r, H', h, rfl⟩ := sy.jobsHands_law (G := Go.AM.decG Try.prog W) (base := W.heap.size) (w0 := W) R0 a1
  refine (h Go.AM.plA W [y0, .int .i64 a1] (Go.AM.relA Try.prog W) Go.AM.freshA ⟨_, _, rfl, V0, ⟨_, _, rfl, rfl, rfl⟩⟩).mono ?_
  rintro e w' ⟨ρ', x, rfl, hv, hp⟩
  simp only [Go.AM.VR] at hv
  subst hv
  exact ⟨rfl, hp.rel.below⟩
theorem laidOut : laidOutB Try.prog = true := by kernel_rfl
set_option maxRecDepth 100000 in
theorem lifted (os : Os) (started : os.Started) (H : Type) (enc : TypeId × Value → H) :
    ReturnsInHanded {} Try.checked os 7 .any (Rows.jobsHandsSpec.pre6 enc Try.prog Try.f7 Rows.jobsHandsRow.domain false) (Rows.jobsHandsSpec.post enc Try.prog Try.f7 false true false false) := by
  refine returnsInHanded_of_change (C := Try.checked) own started (by kernel_rfl) Try.func7
    (ChangeSpec.witness6 (enc := enc) (C := Try.checked) false ⟨#[], #[.slice none 0 0, .int .i64 0], []⟩ 8 (by kernel_rfl) (by kernel_rfl) (by kernel_rfl) (by kernel_rfl)) ?_
  intro W base args ds gs before hval0 hW _ _
  have hval : ∀ (j : Nat) t v, Try.f7.params[j]? = some t → args[j]? = some v → Value.okWide Try.prog W .any base t v := hval0
  have hW' := hW
  obtain ⟨p, q, hA0, hV, rfl, hfz, hnd⟩ := hW
  have hA : DataW.TrodAll enc Try.prog W 0 (fun _ => true) true Try.f7.params.toList args.toList ds p := hA0
  rw [Try.params7] at hA hval
  obtain ⟨v0, vs0, d0, ds0, p0, q0, hargs, rfl, rfl, h0, r0⟩ := trodAll_cons hA
  obtain ⟨v1, vs1, d1, ds1, p1, q1, rfl, rfl, rfl, h1, r1⟩ := trodAll_cons r0
  obtain ⟨rfl, rfl, rfl⟩ := trodAll_nil r1
  obtain rfl : args = #[v0, v1] := by cases args; simp_all
  obtain ⟨rfl, rfl⟩ := trodVars_none hV
  have hct0 : Go.AM.ctys Try.prog 8 49 = [3, 3, 3, 3, 4] := by kernel_rfl
  have lt0 : ∀ x ∈ p0, x.block < W.heap.size := by obtain ⟨m, hm⟩ := h0; exact DataW.trod_lt m _ _ _ hm
  have k0 := h0
  obtain ⟨A0, l0, c0, rfl⟩ := okWide_slice Try.underlying43 (hval 0 43 v0 rfl rfl)
  obtain ⟨u0, V0, g0⟩ := Go.AM.argA (Go.AM.opA_slice Try.underlying43 (by kernel_rfl) (by rw [hct0]; decide) (fun _ => rfl) (Go.AM.opA_deed Try.underlying49 Try.underlying3 Try.underlying3 Try.underlying3 Try.underlying3 Try.underlying4 (by kernel_rfl) (by kernel_rfl) (by kernel_rfl) (by kernel_rfl) (by kernel_rfl) (by kernel_rfl) rfl rfl rfl rfl rfl hct0)) (Go.AM.ctys_one Try.underlying43 (by simp)) h0 rfl
  obtain ⟨a1, rfl, rfl, rfl, w1⟩ := open_int Try.underlying3 (hval 1 3 v1 rfl rfl) h1
  simp only [hct0, List.length_cons, List.length_nil, Nat.zero_add, Nat.reduceAdd] at g0
  obtain ⟨xs0, R0⟩ := sy.deeds5_of (base := W.heap.size) (w0 := W) g0
  refine (walk W V0 R0 a1).mono fun e W' ⟨he, bel⟩ => ?_
  subst he
  exact ⟨_, rfl, _, _, _, [], _, [], hW', trodAll_mk1 (shut_bool Try.underlying4 _), (trodAll_cons_mk (Below.trod laidOut (by kernel_rfl) (of_decide_eq_true (by kernel_rfl)) k0 bel lt0) (trodAll_cons_mk (shut_int Try.underlying3 w1) trodAll_mk0)), rfl, bel.frame _, fun h => by cases h⟩
theorem over : Rows.jobsHandsRow.holds Try.pinned (OpenSpec.ofChange Rows.jobsHandsSpec) :=
  OpenClaim.holds_of_wide 7 Try.f7 rfl rfl rfl rfl rfl rfl rfl ⟨rfl, rfl, rfl, rfl, rfl⟩ rfl rfl rfl rfl rfl (by kernel_rfl) Try.func7 (by kernel_rfl)
    (of_decide_eq_true (by kernel_rfl)) (by unfold Func.isWrapper; first | (rw [if_pos (by decide +kernel)]; kernel_rfl) | (rw [if_neg (by decide +kernel)]; exact ⟨rfl, rfl⟩))
    (fun os started H enc _ => lifted os started H enc)
theorem proved : Rows.JobsHandsSaid := over
#print axioms proved
end Go.Proofs.Ytecfofmndpgnjaa.jobsHands
namespace Go.Proofs.Ytecfofmndpgnjaa
/-- The row, under a short name, for the claim. -/
theorem jobsHands_holds : Rows.JobsHandsSaid := jobsHands.proved
end Go.Proofs.Ytecfofmndpgnjaa
