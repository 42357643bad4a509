/- The row of the law JobsPlay, out of its walk in the words of the abstract machine (texts YtecfofmndpgnjaaAm..): for every input the law returns true, and the arguments read behind the call as before; no condition. -/
import Derived.Test.YtecfofmndpgnjaaRows
import Derived.Test.YtecfofmndpgnjaaPlay
import Derived.WalkKit
import Derived.ProofKit
import Derived.OpenShut
import Derived.ChangeOld
import Derived.SizedLaws
import Derived.KernelRfl
import Derived.Below
namespace Go.Proofs.Ytecfofmndpgnjaa.jobsPlay
open Go.ChangeShapes Go.WideShapes Go.ChangeAt Go.RowKit
set_option linter.unusedVariables false
set_option linter.unusedSimpArgs false
theorem own : ownKnob Try.prog.godebug = none := by kernel_rfl
theorem walk (W : World) (n0 : Nat) {u1 : Go.AM.AV} {y1 : Value} (V1 : Go.AM.VR Go.AM.plA u1 y1) {xs1 : List sy.Dd} (R1 : sy.Deeds5 (Go.AM.decG Try.prog W) W.heap.size W u1 xs1) (u0 : n0 < 256) : Calls Try.prog 5 #[.int .u8 n0, y1] W fun e W' => e = .returned (.bool true) ∧ Below W.heap.size W W' := by
  obtain ⟨r, H', h, rfl⟩ := sy.jobsPlay_law (G := Go.AM.decG Try.prog W) (base := W.heap.size) (w0 := W) n0 u0 R1
  refine (h Go.AM.plA W [.int .u8 n0, y1] (Go.AM.relA Try.prog W) Go.AM.freshA ⟨_, _, rfl, rfl, ⟨_, _, rfl, V1, rfl⟩⟩).mono ?_
  rintro e w' ⟨ρ', x, rfl, hv, hp⟩
  simp only [Go.AM.VR] at hv
  subst hv
  exact ⟨rfl, hp.rel.below⟩
theorem laidOut : laidOutB Try.prog = true := by kernel_rfl
set_option maxRecDepth 100000 in
theorem lifted (os : Os) (started : os.Started) (H : Type) (enc : TypeId × Value → H) :
    ReturnsInHanded {} Try.checked os 5 .any (Rows.jobsPlaySpec.pre6 enc Try.prog Try.f5 Rows.jobsPlayRow.domain false) (Rows.jobsPlaySpec.post enc Try.prog Try.f5 false true false false) := by
  refine returnsInHanded_of_change (C := Try.checked) own started (by kernel_rfl) Try.func5
    (ChangeSpec.witness6 (enc := enc) (C := Try.checked) false ⟨#[], #[.int .u8 0, .slice none 0 0], []⟩ 8 (by kernel_rfl) (by kernel_rfl) (by kernel_rfl) (by kernel_rfl)) ?_
  intro W base args ds gs before hval0 hW _ _
  have hval : ∀ (j : Nat) t v, Try.f5.params[j]? = some t → args[j]? = some v → Value.okWide Try.prog W .any base t v := hval0
  have hW' := hW
  obtain ⟨p, q, hA0, hV, rfl, hfz, hnd⟩ := hW
  have hA : DataW.TrodAll enc Try.prog W 0 (fun _ => true) true Try.f5.params.toList args.toList ds p := hA0
  rw [Try.params5] at hA hval
  obtain ⟨v0, vs0, d0, ds0, p0, q0, hargs, rfl, rfl, h0, r0⟩ := trodAll_cons hA
  obtain ⟨v1, vs1, d1, ds1, p1, q1, rfl, rfl, rfl, h1, r1⟩ := trodAll_cons r0
  obtain ⟨rfl, rfl, rfl⟩ := trodAll_nil r1
  obtain rfl : args = #[v0, v1] := by cases args; simp_all
  obtain ⟨rfl, rfl⟩ := trodVars_none hV
  obtain ⟨a0, rfl, rfl, rfl, w0⟩ := open_int Try.underlying5 (hval 0 5 v0 rfl rfl) h0
  have hct1 : Go.AM.ctys Try.prog 8 49 = [3, 3, 3, 3, 4] := by kernel_rfl
  have lt1 : ∀ x ∈ p1, x.block < W.heap.size := by obtain ⟨m, hm⟩ := h1; exact DataW.trod_lt m _ _ _ hm
  have k1 := h1
  obtain ⟨A1, l1, c1, rfl⟩ := okWide_slice Try.underlying43 (hval 1 43 v1 rfl rfl)
  obtain ⟨u1, V1, g1⟩ := Go.AM.argA (Go.AM.opA_slice Try.underlying43 (by kernel_rfl) (by rw [hct1]; decide) (fun _ => rfl) (Go.AM.opA_deed Try.underlying49 Try.underlying3 Try.underlying3 Try.underlying3 Try.underlying3 Try.underlying4 (by kernel_rfl) (by kernel_rfl) (by kernel_rfl) (by kernel_rfl) (by kernel_rfl) (by kernel_rfl) rfl rfl rfl rfl rfl hct1)) (Go.AM.ctys_one Try.underlying43 (by simp)) h1 rfl
  obtain ⟨n0, rfl, u0⟩ : ∃ n : Nat, a0 = (n : Int) ∧ n < 256 := by
    simp only [Lit.wf, IntKind.min, IntKind.max, IntKind.signed, IntKind.bits, Bool.and_eq_true, decide_eq_true_eq] at w0
    exact ⟨a0.toNat, by simp at w0; omega, by simp at w0; omega⟩
  simp only [hct1, List.length_cons, List.length_nil, Nat.zero_add, Nat.reduceAdd] at g1
  obtain ⟨xs1, R1⟩ := sy.deeds5_of (base := W.heap.size) (w0 := W) g1
  refine (walk W n0 V1 R1 u0).mono fun e W' ⟨he, bel⟩ => ?_
  subst he
  exact ⟨_, rfl, _, _, _, [], _, [], hW', trodAll_mk1 (shut_bool Try.underlying4 _), (trodAll_cons_mk (shut_int Try.underlying5 w0) (trodAll_cons_mk (Below.trod laidOut (by kernel_rfl) (of_decide_eq_true (by kernel_rfl)) k1 bel lt1) trodAll_mk0)), rfl, bel.frame _, fun h => by cases h⟩
theorem over : Rows.jobsPlayRow.holds Try.pinned (OpenSpec.ofChange Rows.jobsPlaySpec) :=
  OpenClaim.holds_of_wide 5 Try.f5 rfl rfl rfl rfl rfl rfl rfl ⟨rfl, rfl, rfl, rfl, rfl⟩ rfl rfl rfl rfl rfl (by kernel_rfl) Try.func5 (by kernel_rfl)
    (of_decide_eq_true (by kernel_rfl)) (by unfold Func.isWrapper; first | (rw [if_pos (by decide +kernel)]; kernel_rfl) | (rw [if_neg (by decide +kernel)]; exact ⟨rfl, rfl⟩))
    (fun os started H enc _ => lifted os started H enc)
theorem proved : Rows.JobsPlaySaid := over
#print axioms proved
end Go.Proofs.Ytecfofmndpgnjaa.jobsPlay
namespace Go.Proofs.Ytecfofmndpgnjaa
/-- The row, under a short name, for the claim. -/
theorem jobsPlay_holds : Rows.JobsPlaySaid := jobsPlay.proved
end Go.Proofs.Ytecfofmndpgnjaa
