/- The row and the card of the law NamesOnce, out of its walk in the words of the abstract machine: for every input the law returns true, and the arguments read behind the call as before; the two listed variables start as the program's text lays them. -/
import Derived.Test.YtldiaopobcebpaaDoorCards
import Derived.Test.YtldiaopobcebpaaDoorTie
import Derived.Test.YtldiaopobcebpaaDoorM10
import Derived.Test.YtldiaopobcebpaaDoorOv
import Derived.SevenTiedAt
import Derived.ChangeMaps5
import Derived.WalkKit
import Derived.ProofKit
import Derived.OpenShut
import Derived.ChangeOld
import Derived.SizedLaws
import Derived.KernelRfl
import Derived.Below
namespace Go.Proofs.YtldiaopobcebpaaDoor.namesOnce
open Go.ChangeShapes Go.WideShapes Go.ChangeAt Go.RowKit
set_option linter.unusedVariables false
set_option linter.unusedSimpArgs false
theorem walk (W : World) (hL : laidMet Tryd.prog door.laidL W) (n0 : Nat) (u0 : n0 < 256) (n1 : Nat) (u1 : n1 < 256) : Calls Tryd.prog 4 #[.int .u8 n0, .int .u8 n1] W fun e W' => e = .returned (.bool true) ∧ Below W.heap.size W W' := by
  obtain ⟨r, H', h, rfl⟩ := sy.namesOnce_law (base := W.heap.size) (w0 := W) n0 u0 n1 u1
  refine (h Go.AM.pl0 W [.int .u8 n0, .int .u8 n1] (door.relT hL) Go.AM.fresh0 ⟨_, _, rfl, rfl, ⟨_, _, rfl, rfl, rfl⟩⟩).mono ?_
  rintro e w' ⟨ρ', x, rfl, hv, hp⟩
  simp only [Go.AM.VR] at hv
  subst hv
  exact ⟨rfl, hp.rel.below⟩
set_option maxRecDepth 100000 in
theorem lifted (os : Os) (started : os.Started) (H : Type) (enc : TypeId × Value → H) :
    ReturnsInHanded {} Tryd.checked os 4 .any (fun w args => (Rows.namesOnceSpec.pre enc Tryd.prog Tryd.f4 Rows.namesOnceRow.domain false w args ∧ laidMet Tryd.prog Rows.namesOnceRow.laid w) ∧ sizedMet enc Tryd.prog Tryd.f4 (OpenSpec.ofChange Rows.namesOnceSpec) false w args) (Rows.namesOnceSpec.post enc Tryd.prog Tryd.f4 false true false false) := by
  refine returnsInHanded_of_change_and (C := Tryd.checked) (X := fun w _ => laidMet Tryd.prog Rows.namesOnceRow.laid w) (fun _ _ _ hh h => h.of_heap hh) door.own started (by kernel_rfl) Tryd.func4
    (door.witRef (enc := enc) (C := Tryd.checked) (os := os) (X := fun w _ => laidMet Tryd.prog Rows.namesOnceRow.laid w) false (door.laidWorld os) #[.int .u8 0, .int .u8 0] 8 rfl (by kernel_rfl) (by kernel_rfl) (by kernel_rfl) (by kernel_rfl) (by kernel_rfl) (door.laid_met os _)) ?_
  intro W base args ds gs before hval0 hW _ _ hL _
  have hval : ∀ (j : Nat) t v, Tryd.f4.params[j]? = some t → args[j]? = some v → Value.okWide Tryd.prog W .any base t v := hval0
  have hW' := hW
  obtain ⟨p, q, hA0, hV, rfl, hfz, hnd⟩ := hW
  have hA : DataW.TrodAll enc Tryd.prog W 0 (fun _ => true) true Tryd.f4.params.toList args.toList ds p := hA0
  rw [Tryd.params4] at hA hval
  obtain ⟨v0, vs0, d0, ds0, p0, q0, hargs, rfl, rfl, h0, r0⟩ := trodAll_cons hA
  obtain ⟨v1, vs1, d1, ds1, p1, q1, rfl, rfl, rfl, h1, r1⟩ := trodAll_cons r0
  obtain ⟨rfl, rfl, rfl⟩ := trodAll_nil r1
  obtain rfl : args = #[v0, v1] := by cases args; simp_all
  obtain ⟨rfl, rfl⟩ := trodVars_none hV
  obtain ⟨a0, rfl, rfl, rfl, w0⟩ := open_int Tryd.underlying5 (hval 0 5 v0 rfl rfl) h0
  obtain ⟨a1, rfl, rfl, rfl, w1⟩ := open_int Tryd.underlying5 (hval 1 5 v1 rfl rfl) h1
  obtain ⟨n0, rfl, u0⟩ : ∃ n : Nat, a0 = (n : Int) ∧ n < 256 := by
    simp only [Lit.wf, IntKind.min, IntKind.max, IntKind.signed, IntKind.bits, Bool.and_eq_true, decide_eq_true_eq] at w0
    exact ⟨a0.toNat, by simp at w0; omega, by simp at w0; omega⟩
  obtain ⟨n1, rfl, u1⟩ : ∃ n : Nat, a1 = (n : Int) ∧ n < 256 := by
    simp only [Lit.wf, IntKind.min, IntKind.max, IntKind.signed, IntKind.bits, Bool.and_eq_true, decide_eq_true_eq] at w1
    exact ⟨a1.toNat, by simp at w1; omega, by simp at w1; omega⟩
  refine (walk W hL n0 u0 n1 u1).mono fun e W' ⟨he, bel⟩ => ?_
  subst he
  exact ⟨_, rfl, _, _, _, [], _, [], hW', trodAll_mk1 (shut_bool Tryd.underlying4 _), (trodAll_cons_mk (shut_int Tryd.underlying5 w0) (trodAll_cons_mk (shut_int Tryd.underlying5 w1) trodAll_mk0)), rfl, bel.frame _, fun h => by cases h⟩
theorem over : Rows.NamesOnceSaid :=
  OpenClaim.holds_of_wide 4 Tryd.f4 rfl rfl rfl rfl rfl rfl rfl ⟨rfl, rfl, rfl, rfl, rfl⟩ rfl rfl rfl rfl rfl (by kernel_rfl) Tryd.func4 (by kernel_rfl)
    (of_decide_eq_true (by kernel_rfl)) (by unfold Func.isWrapper; first | (rw [if_pos (by decide +kernel)]; kernel_rfl) | (rw [if_neg (by decide +kernel)]; exact ⟨rfl, rfl⟩))
    (fun os started H enc _ => lifted os started H enc)
theorem stands : Rows.NamesOnceCardSaid :=
  Claim7.holds_tied_plain_at .later [] [.listed, .data] true (true, "1a46c7ac23d80c796667ddb436246c5724ce2c522bcd2ccc4d0ce17942e2e277") false
    over (fun _ h => by cases h) (by kernel_rfl) (fun _ h => by cases h) namesOnce_row_tie rfl ⟨rfl, rfl⟩ (by kernel_rfl) rfl
    (fun f fn hf hfn => by
      obtain rfl : f = 4 := Option.some.inj ((show Tryd.prog.funcNamed "evenhanded/evenhandedlaw9.NamesOnce" = some 4 by kernel_rfl).symm.trans hf) |>.symm
      obtain rfl : fn = Tryd.f4 := (Option.some.inj (Tryd.func4.symm.trans hfn)).symm
      exact ⟨by kernel_rfl, fun j t ht => by
        rw [Tryd.params4] at ht
        have ht' : t = 5 := by
          rcases j with _ | j
          · simp at ht; subst ht; simp
          rcases j with _ | j
          · simp at ht; subst ht; simp
          · simp at ht
        rcases ht' with rfl
        · exact (show Tryd.prog.wantsStandIn 5 = false by kernel_rfl)⟩)
    (by kernel_rfl)
end Go.Proofs.YtldiaopobcebpaaDoor.namesOnce
namespace Go.Proofs.YtldiaopobcebpaaDoor
/-- The card, under a short name, for the claim. -/
theorem namesOnce_holds : Rows.NamesOnceCardSaid := namesOnce.stands
end Go.Proofs.YtldiaopobcebpaaDoor
