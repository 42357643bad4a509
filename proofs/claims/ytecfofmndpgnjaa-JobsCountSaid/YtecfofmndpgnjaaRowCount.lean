/- The row of the law JobsCount, out of its walk in the words of the abstract machine (texts YtecfofmndpgnjaaAm..): for every input the law returns true, and the arguments read behind the call as before; no condition. -/
import Derived.Test.YtecfofmndpgnjaaRows
import Derived.Test.YtecfofmndpgnjaaCount
import Derived.Test.YtecfofmndpgnjaaAmArgs3
import Derived.Test.YtecfofmndpgnjaaAmRow
import Derived.WalkKit
import Derived.ProofKit
import Derived.OpenShut
import Derived.ChangeOld
import Derived.SizedLaws
import Derived.KernelRfl
import Derived.Below
namespace Go.Proofs.Ytecfofmndpgnjaa.jobsCount
open Go.ChangeShapes Go.WideShapes Go.ChangeAt Go.RowKit
set_option linter.unusedVariables false
set_option linter.unusedSimpArgs false
theorem own : ownKnob Try.prog.godebug = none := by kernel_rfl
theorem walk (W : World) (n0 : Nat) (n1 : Nat) {u2 : Go.AM.AV} {y2 : Value} (V2 : Go.AM.VR Go.AM.plA u2 y2) {xs2 : List Bool} (R2 : sy.Bools (Go.AM.decG Try.prog W) W.heap.size W u2 xs2) (u0 : n0 < 256) (u1 : n1 < 256) : Calls Try.prog 4 #[.int .u8 n0, .int .u8 n1, y2] W fun e W' => e = .returned (.bool true) ∧ Below W.heap.size W W' := by
  obtain ⟨r, H', h, rfl⟩ := sy.jobsCount_law (G := Go.AM.decG Try.prog W) (base := W.heap.size) (w0 := W) n0 n1 R2 u0 u1
  refine (h Go.AM.plA W [.int .u8 n0, .int .u8 n1, y2] (Go.AM.relA Try.prog W) Go.AM.freshA ⟨_, _, rfl, rfl, ⟨_, _, rfl, rfl, ⟨_, _, rfl, V2, rfl⟩⟩⟩).mono ?_
  rintro e w' ⟨ρ', x, rfl, hv, hp⟩
  simp only [Go.AM.VR] at hv
  subst hv
  exact ⟨rfl, hp.rel.below⟩
theorem laidOut : laidOutB Try.prog = true := by kernel_rfl
set_option maxRecDepth 100000 in
theorem lifted (os : Os) (started : os.Started) (H : Type) (enc : TypeId × Value → H) :
    ReturnsInHanded {} Try.checked os 4 .any (Rows.jobsCountSpec.pre6 enc Try.prog Try.f4 Rows.jobsCountRow.domain false) (Rows.jobsCountSpec.post enc Try.prog Try.f4 false true false false) := by
  refine returnsInHanded_of_change (C := Try.checked) own started (by kernel_rfl) Try.func4
    (ChangeSpec.witness6 (enc := enc) (C := Try.checked) false ⟨#[], #[.int .u8 0, .int .u8 0, .slice none 0 0], []⟩ 8 (by kernel_rfl) (by kernel_rfl) (by kernel_rfl) (by kernel_rfl)) ?_
  intro W base args ds gs before hval0 hW _ _
  have hval : ∀ (j : Nat) t v, Try.f4.params[j]? = some t → args[j]? = some v → Value.okWide Try.prog W .any base t v := hval0
  have hW' := hW
  obtain ⟨p, q, hA0, hV, rfl, hfz, hnd⟩ := hW
  have hA : DataW.TrodAll enc Try.prog W 0 (fun _ => true) true Try.f4.params.toList args.toList ds p := hA0
  rw [Try.params4] at hA hval
  obtain ⟨v0, vs0, d0, ds0, p0, q0, hargs, rfl, rfl, h0, r0⟩ := trodAll_cons hA
  obtain ⟨v1, vs1, d1, ds1, p1, q1, rfl, rfl, rfl, h1, r1⟩ := trodAll_cons r0
  obtain ⟨v2, vs2, d2, ds2, p2, q2, rfl, rfl, rfl, h2, r2⟩ := trodAll_cons r1
  obtain ⟨rfl, rfl, rfl⟩ := trodAll_nil r2
  obtain rfl : args = #[v0, v1, v2] := by cases args; simp_all
  obtain ⟨rfl, rfl⟩ := trodVars_none hV
  obtain ⟨a0, rfl, rfl, rfl, w0⟩ := open_int Try.underlying5 (hval 0 5 v0 rfl rfl) h0
  obtain ⟨a1, rfl, rfl, rfl, w1⟩ := open_int Try.underlying5 (hval 1 5 v1 rfl rfl) h1
  have lt2 : ∀ x ∈ p2, x.block < W.heap.size := by obtain ⟨m, hm⟩ := h2; exact DataW.trod_lt m _ _ _ hm
  have k2 := h2
  obtain ⟨A2, l2, c2, rfl⟩ := okWide_slice Try.underlying40 (hval 2 40 v2 rfl rfl)
  obtain ⟨u2, V2, g2⟩ := Go.AM.argA (Go.AM.opA_slice Try.underlying40 (by kernel_rfl) (by rw [Go.AM.ctys_one Try.underlying4 (by simp)]; decide) (fun _ => rfl) (Go.AM.opA_bool Try.underlying4)) (Go.AM.ctys_one Try.underlying40 (by simp)) h2 rfl
  obtain ⟨n0, rfl, u0⟩ : ∃ n : Nat, a0 = (n : Int) ∧ n < 256 := by
    simp only [Lit.wf, IntKind.min, IntKind.max, IntKind.signed, IntKind.bits, Bool.and_eq_true, decide_eq_true_eq] at w0
    exact ⟨a0.toNat, by simp at w0; omega, by simp at w0; omega⟩
  obtain ⟨n1, rfl, u1⟩ : ∃ n : Nat, a1 = (n : Int) ∧ n < 256 := by
    simp only [Lit.wf, IntKind.min, IntKind.max, IntKind.signed, IntKind.bits, Bool.and_eq_true, decide_eq_true_eq] at w1
    exact ⟨a1.toNat, by simp at w1; omega, by simp at w1; omega⟩
  simp only [Go.AM.ctys_one Try.underlying4 (by simp), List.length_cons, List.length_nil, Nat.zero_add] at g2
  obtain ⟨xs2, R2⟩ := sy.bools_of (base := W.heap.size) (w0 := W) g2
  refine (walk W n0 n1 V2 R2 u0 u1).mono fun e W' ⟨he, bel⟩ => ?_
  subst he
  exact ⟨_, rfl, _, _, _, [], _, [], hW', trodAll_mk1 (shut_bool Try.underlying4 _), (trodAll_cons_mk (shut_int Try.underlying5 w0) (trodAll_cons_mk (shut_int Try.underlying5 w1) (trodAll_cons_mk (Below.trod laidOut (by kernel_rfl) (of_decide_eq_true (by kernel_rfl)) k2 bel lt2) trodAll_mk0))), rfl, bel.frame _, fun h => by cases h⟩
theorem over : Rows.jobsCountRow.holds Try.pinned (OpenSpec.ofChange Rows.jobsCountSpec) :=
  OpenClaim.holds_of_wide 4 Try.f4 rfl rfl rfl rfl rfl rfl rfl ⟨rfl, rfl, rfl, rfl, rfl⟩ rfl rfl rfl rfl rfl (by kernel_rfl) Try.func4 (by kernel_rfl)
    (of_decide_eq_true (by kernel_rfl)) (by unfold Func.isWrapper; first | (rw [if_pos (by decide +kernel)]; kernel_rfl) | (rw [if_neg (by decide +kernel)]; exact ⟨rfl, rfl⟩))
    (fun os started H enc _ => lifted os started H enc)
theorem proved : Rows.JobsCountSaid := over
#print axioms proved
end Go.Proofs.Ytecfofmndpgnjaa.jobsCount
namespace Go.Proofs.Ytecfofmndpgnjaa
/-- The row, under a short name, for the claim. -/
theorem jobsCount_holds : Rows.JobsCountSaid := jobsCount.proved
end Go.Proofs.Ytecfofmndpgnjaa
