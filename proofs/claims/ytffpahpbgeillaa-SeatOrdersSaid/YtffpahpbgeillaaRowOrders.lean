/- The row of the law SeatOrders, out of its walk in the words of the abstract machine (texts YtffpahpbgeillaaAm..): for every input the law returns true, and the arguments read behind the call as before; no condition. -/
import Derived.Test.YtffpahpbgeillaaRows
import Derived.Test.YtffpahpbgeillaaOrders
import Derived.WalkKit
import Derived.ProofKit
import Derived.OpenShut
import Derived.ChangeOld
import Derived.SizedLaws
import Derived.KernelRfl
import Derived.Below
namespace Go.Proofs.Ytffpahpbgeillaa.seatOrders
open Go.ChangeShapes Go.WideShapes Go.ChangeAt Go.RowKit
set_option linter.unusedVariables false
set_option linter.unusedSimpArgs false
theorem own : ownKnob Try.prog.godebug = none := by kernel_rfl
theorem walk (W : World) (n0 : Nat) {u1 : Go.AM.AV} {y1 : Value} (V1 : Go.AM.VR Go.AM.plA u1 y1) {xs1 : List Go.AM.AV} {zss1 : List (List Int)} (R1 : sy.Rows2 (Go.AM.decG Try.prog W) W.heap.size W u1 xs1 zss1) (n2 : Nat) (u0 : n0 < 256) (u2 : n2 < 256) : Calls Try.prog 5 #[.int .u8 n0, y1, .int .u8 n2] W fun e W' => e = .returned (.bool true) ∧ Below W.heap.size W W' := by
  obtain ⟨r, H', h, rfl⟩ := sy.seatOrders_law (G := Go.AM.decG Try.prog W) (base := W.heap.size) (w0 := W) n0 R1 n2 u0 u2
  refine (h Go.AM.plA W [.int .u8 n0, y1, .int .u8 n2] (Go.AM.relA Try.prog W) Go.AM.freshA ⟨_, _, rfl, rfl, ⟨_, _, rfl, V1, ⟨_, _, rfl, rfl, rfl⟩⟩⟩).mono ?_
  rintro e w' ⟨ρ', x, rfl, hv, hp⟩
  simp only [Go.AM.VR] at hv
  subst hv
  exact ⟨rfl, hp.rel.below⟩
theorem laidOut : laidOutB Try.prog = true := by kernel_rfl
set_option maxRecDepth 100000 in
theorem lifted (os : Os) (started : os.Started) (H : Type) (enc : TypeId × Value → H) :
    ReturnsInHanded {} Try.checked os 5 .any (Rows.seatOrdersSpec.pre6 enc Try.prog Try.f5 Rows.seatOrdersRow.domain false) (Rows.seatOrdersSpec.post enc Try.prog Try.f5 false true false false) := by
  refine returnsInHanded_of_change (C := Try.checked) own started (by kernel_rfl) Try.func5
    (ChangeSpec.witness6 (enc := enc) (C := Try.checked) false ⟨#[], #[.int .u8 0, .slice none 0 0, .int .u8 0], []⟩ 8 (by kernel_rfl) (by kernel_rfl) (by kernel_rfl) (by kernel_rfl)) ?_
  intro W base args ds gs before hval0 hW _ _
  have hval : ∀ (j : Nat) t v, Try.f5.params[j]? = some t → args[j]? = some v → Value.okWide Try.prog W .any base t v := hval0
  have hW' := hW
  obtain ⟨p, q, hA0, hV, rfl, hfz, hnd⟩ := hW
  have hA : DataW.TrodAll enc Try.prog W 0 (fun _ => true) true Try.f5.params.toList args.toList ds p := hA0
  rw [Try.params5] at hA hval
  obtain ⟨v0, vs0, d0, ds0, p0, q0, hargs, rfl, rfl, h0, r0⟩ := trodAll_cons hA
  obtain ⟨v1, vs1, d1, ds1, p1, q1, rfl, rfl, rfl, h1, r1⟩ := trodAll_cons r0
  obtain ⟨v2, vs2, d2, ds2, p2, q2, rfl, rfl, rfl, h2, r2⟩ := trodAll_cons r1
  obtain ⟨rfl, rfl, rfl⟩ := trodAll_nil r2
  obtain rfl : args = #[v0, v1, v2] := by cases args; simp_all
  obtain ⟨rfl, rfl⟩ := trodVars_none hV
  obtain ⟨a0, rfl, rfl, rfl, w0⟩ := open_int Try.underlying5 (hval 0 5 v0 rfl rfl) h0
  have lt1 : ∀ x ∈ p1, x.block < W.heap.size := by obtain ⟨m, hm⟩ := h1; exact DataW.trod_lt m _ _ _ hm
  have k1 := h1
  obtain ⟨A1, l1, c1, rfl⟩ := okWide_slice Try.underlying22 (hval 1 22 v1 rfl rfl)
  obtain ⟨u1, V1, g1⟩ := Go.AM.argA (Go.AM.opA_slice Try.underlying22 (by kernel_rfl) (by rw [Go.AM.ctys_one Try.underlying26 (by simp)]; decide) (fun _ => rfl) (Go.AM.opA_slice Try.underlying26 (by kernel_rfl) (by rw [Go.AM.ctys_one Try.underlying3 (by simp)]; decide) (fun _ => rfl) (Go.AM.opA_int Try.underlying3))) (Go.AM.ctys_one Try.underlying22 (by simp)) h1 rfl
  obtain ⟨a2, rfl, rfl, rfl, w2⟩ := open_int Try.underlying5 (hval 2 5 v2 rfl rfl) h2
  obtain ⟨n0, rfl, u0⟩ : ∃ n : Nat, a0 = (n : Int) ∧ n < 256 := by
    simp only [Lit.wf, IntKind.min, IntKind.max, IntKind.signed, IntKind.bits, Bool.and_eq_true, decide_eq_true_eq] at w0
    exact ⟨a0.toNat, by simp at w0; omega, by simp at w0; omega⟩
  rw [Go.AM.ctys_one Try.underlying26 (by simp)] at g1
  simp only [Go.AM.ctys_one Try.underlying3 (by simp), List.length_cons, List.length_nil, Nat.zero_add] at g1
  obtain ⟨xs1, zss1, R1⟩ := sy.rows2_of (base := W.heap.size) (w0 := W) g1
  obtain ⟨n2, rfl, u2⟩ : ∃ n : Nat, a2 = (n : Int) ∧ n < 256 := by
    simp only [Lit.wf, IntKind.min, IntKind.max, IntKind.signed, IntKind.bits, Bool.and_eq_true, decide_eq_true_eq] at w2
    exact ⟨a2.toNat, by simp at w2; omega, by simp at w2; omega⟩
  refine (walk W n0 V1 R1 n2 u0 u2).mono fun e W' ⟨he, bel⟩ => ?_
  subst he
  exact ⟨_, rfl, _, _, _, [], _, [], hW', trodAll_mk1 (shut_bool Try.underlying4 _), (trodAll_cons_mk (shut_int Try.underlying5 w0) (trodAll_cons_mk (Below.trod laidOut (by kernel_rfl) (of_decide_eq_true (by kernel_rfl)) k1 bel lt1) (trodAll_cons_mk (shut_int Try.underlying5 w2) trodAll_mk0))), rfl, bel.frame _, fun h => by cases h⟩
theorem over : Rows.seatOrdersRow.holds Try.pinned (OpenSpec.ofChange Rows.seatOrdersSpec) :=
  OpenClaim.holds_of_wide 5 Try.f5 rfl rfl rfl rfl rfl rfl rfl ⟨rfl, rfl, rfl, rfl, rfl⟩ rfl rfl rfl rfl rfl (by kernel_rfl) Try.func5 (by kernel_rfl)
    (of_decide_eq_true (by kernel_rfl)) (by unfold Func.isWrapper; first | (rw [if_pos (by decide +kernel)]; kernel_rfl) | (rw [if_neg (by decide +kernel)]; exact ⟨rfl, rfl⟩))
    (fun os started H enc _ => lifted os started H enc)
theorem proved : Rows.SeatOrdersSaid := over
#print axioms proved
end Go.Proofs.Ytffpahpbgeillaa.seatOrders
namespace Go.Proofs.Ytffpahpbgeillaa
/-- The row, under a short name, for the claim. -/
theorem seatOrders_holds : Rows.SeatOrdersSaid := seatOrders.proved
end Go.Proofs.Ytffpahpbgeillaa
