/- Texts of the proof in one file (own work): PlayR, RowPlays. -/
import Derived.Test.YtffpahpbgeillaaPlayL
import Derived.Test.YtffpahpbgeillaaRows
import Derived.WalkKit
import Derived.ProofKit
import Derived.OpenShut
import Derived.ChangeOld
import Derived.SizedLaws
import Derived.KernelRfl
import Derived.Below
/- SeatPlays (own work): how its deeds come in. -/
namespace Go.Proofs.Ytffpahpbgeillaa.sy
open Go.AM Go.AM.Seat Go.RowKit
set_option linter.unusedSimpArgs false
set_option linter.unusedVariables false
theorem opQ {H : Type} {enc : TypeId × Value → H} {w : World} {base : Nat} {spare : Nat → Bool} {held : Bool} (hsp : ∀ k, spare k = true) :
    OpA enc Try.prog w base spare held 33 (fun vs => ∃ v n, vs = [v] ∧ SlG Try.prog w v 3 n (GoodL [fun vs => ∃ n, vs = [AV.int .i64 n] ∧ (Lit.int .i64 n).wf = true, fun vs => ∃ n, vs = [AV.int .i64 n] ∧ (Lit.int .i64 n).wf = true, fun vs => ∃ v n, vs = [v] ∧ SlG Try.prog w v 1 n (fun vs => ∃ n, vs = [AV.int .i64 n] ∧ (Lit.int .i64 n).wf = true)])) := by
  have c39 : ctys Try.prog 8 39 = [3, 3, 26] := by kernel_rfl
  have c3 : ctys Try.prog 8 3 = [3] := ctys_one Try.underlying3 (by simp)
  have h3 : OpA enc Try.prog w base spare held 3 (fun vs => ∃ n, vs = [AV.int .i64 n] ∧ (Lit.int .i64 n).wf = true) := opA_int Try.underlying3
  have h26 : OpA enc Try.prog w base spare held 26 (fun vs => ∃ v n, vs = [v] ∧ SlG Try.prog w v 1 n (fun vs => ∃ n, vs = [AV.int .i64 n] ∧ (Lit.int .i64 n).wf = true)) := by
    have := opA_slice (enc := enc) (w := w) (base := base) (held := held) Try.underlying26 (by kernel_rfl) (by rw [c3]; decide) hsp h3
    rw [c3] at this
    exact this
  have h39 := opA_fields (enc := enc) (w := w) (base := base) (spare := spare) (held := held) Try.underlying39 c39 (by kernel_rfl) (by kernel_rfl) (.cons (by kernel_rfl) (by kernel_rfl) h3 (.cons (by kernel_rfl) (by kernel_rfl) h3 (.cons (by kernel_rfl) (by kernel_rfl) h26 .nil)))
  have := opA_slice (enc := enc) (w := w) (base := base) (held := held) Try.underlying33 (by kernel_rfl) (by rw [c39]; decide) hsp h39
  rw [c39] at this
  exact this
end Go.Proofs.Ytffpahpbgeillaa.sy

/- The row of the law SeatPlays, out of its walk in the words of the abstract machine (texts YtffpahpbgeillaaAm..): for every input the law returns true, and the arguments read behind the call as before; no condition. -/
namespace Go.Proofs.Ytffpahpbgeillaa.seatPlays
open Go.ChangeShapes Go.WideShapes Go.ChangeAt Go.RowKit
set_option linter.unusedVariables false
set_option linter.unusedSimpArgs false
theorem own : ownKnob Try.prog.godebug = none := by kernel_rfl
theorem walk (W : World) (a0 : Int) {u1 : Go.AM.AV} {y1 : Value} (V1 : Go.AM.VR Go.AM.plA u1 y1) {xs1 : List sy.Dq} (R1 : sy.DeedsQ (Go.AM.decG Try.prog W) W.heap.size W u1 xs1) : Calls Try.prog 6 #[.int .i64 a0, y1] W fun e W' => e = .returned (.bool true) ∧ Below W.heap.size W W' := by
  obtain ⟨r, H', h, rfl⟩ := sy.seatPlays_law (G := Go.AM.decG Try.prog W) (base := W.heap.size) (w0 := W) a0 R1
  refine (h Go.AM.plA W [.int .i64 a0, y1] (Go.AM.relA Try.prog W) Go.AM.freshA ⟨_, _, rfl, rfl, ⟨_, _, rfl, V1, rfl⟩⟩).mono ?_
  rintro e w' ⟨ρ', x, rfl, hv, hp⟩
  simp only [Go.AM.VR] at hv
  subst hv
  exact ⟨rfl, hp.rel.below⟩
theorem laidOut : laidOutB Try.prog = true := by kernel_rfl
set_option maxRecDepth 100000 in
theorem lifted (os : Os) (started : os.Started) (H : Type) (enc : TypeId × Value → H) :
    ReturnsInHanded {} Try.checked os 6 .any (Rows.seatPlaysSpec.pre6 enc Try.prog Try.f6 Rows.seatPlaysRow.domain false) (Rows.seatPlaysSpec.post enc Try.prog Try.f6 false true false false) := by
  refine returnsInHanded_of_change (C := Try.checked) own started (by kernel_rfl) Try.func6
    (ChangeSpec.witness6 (enc := enc) (C := Try.checked) false ⟨#[], #[.int .i64 0, .slice none 0 0], []⟩ 8 (by kernel_rfl) (by kernel_rfl) (by kernel_rfl) (by kernel_rfl)) ?_
  intro W base args ds gs before hval0 hW _ _
  have hval : ∀ (j : Nat) t v, Try.f6.params[j]? = some t → args[j]? = some v → Value.okWide Try.prog W .any base t v := hval0
  have hW' := hW
  obtain ⟨p, q, hA0, hV, rfl, hfz, hnd⟩ := hW
  have hA : DataW.TrodAll enc Try.prog W 0 (fun _ => true) true Try.f6.params.toList args.toList ds p := hA0
  rw [Try.params6] at hA hval
  obtain ⟨v0, vs0, d0, ds0, p0, q0, hargs, rfl, rfl, h0, r0⟩ := trodAll_cons hA
  obtain ⟨v1, vs1, d1, ds1, p1, q1, rfl, rfl, rfl, h1, r1⟩ := trodAll_cons r0
  obtain ⟨rfl, rfl, rfl⟩ := trodAll_nil r1
  obtain rfl : args = #[v0, v1] := by cases args; simp_all
  obtain ⟨rfl, rfl⟩ := trodVars_none hV
  obtain ⟨a0, rfl, rfl, rfl, w0⟩ := open_int Try.underlying3 (hval 0 3 v0 rfl rfl) h0
  have lt1 : ∀ x ∈ p1, x.block < W.heap.size := by obtain ⟨m, hm⟩ := h1; exact DataW.trod_lt m _ _ _ hm
  have k1 := h1
  obtain ⟨A1, l1, c1, rfl⟩ := okWide_slice Try.underlying33 (hval 1 33 v1 rfl rfl)
  obtain ⟨u1, V1, g1⟩ := Go.AM.argA (sy.opQ (fun _ => rfl)) (Go.AM.ctys_one Try.underlying33 (by simp)) h1 rfl
  obtain ⟨xs1, R1⟩ := sy.deedsQ_of (base := W.heap.size) (w0 := W) g1
  refine (walk W a0 V1 R1).mono fun e W' ⟨he, bel⟩ => ?_
  subst he
  exact ⟨_, rfl, _, _, _, [], _, [], hW', trodAll_mk1 (shut_bool Try.underlying4 _), (trodAll_cons_mk (shut_int Try.underlying3 w0) (trodAll_cons_mk (Below.trod laidOut (by kernel_rfl) (of_decide_eq_true (by kernel_rfl)) k1 bel lt1) trodAll_mk0)), rfl, bel.frame _, fun h => by cases h⟩
theorem over : Rows.seatPlaysRow.holds Try.pinned (OpenSpec.ofChange Rows.seatPlaysSpec) :=
  OpenClaim.holds_of_wide 6 Try.f6 rfl rfl rfl rfl rfl rfl rfl ⟨rfl, rfl, rfl, rfl, rfl⟩ rfl rfl rfl rfl rfl (by kernel_rfl) Try.func6 (by kernel_rfl)
    (of_decide_eq_true (by kernel_rfl)) (by unfold Func.isWrapper; first | (rw [if_pos (by decide +kernel)]; kernel_rfl) | (rw [if_neg (by decide +kernel)]; exact ⟨rfl, rfl⟩))
    (fun os started H enc _ => lifted os started H enc)
theorem proved : Rows.SeatPlaysSaid := over
#print axioms proved
end Go.Proofs.Ytffpahpbgeillaa.seatPlays
namespace Go.Proofs.Ytffpahpbgeillaa
/-- The row, under a short name, for the claim. -/
theorem seatPlays_holds : Rows.SeatPlaysSaid := seatPlays.proved
end Go.Proofs.Ytffpahpbgeillaa
