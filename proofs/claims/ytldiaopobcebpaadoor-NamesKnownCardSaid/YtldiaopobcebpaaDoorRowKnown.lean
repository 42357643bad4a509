/- The row and the card of the law NamesKnown, out of its walk in the words of the abstract machine: for every input the law returns true, and the arguments read behind the call as before; the two listed variables start as the program's text lays them. -/
import Derived.Test.YtldiaopobcebpaaDoorCards
import Derived.Test.YtldiaopobcebpaaDoorTie
import Derived.Test.YtldiaopobcebpaaDoorM10
import Derived.Test.YtldiaopobcebpaaDoorOv
import Derived.SevenTiedAt
import Derived.ChangeMaps5
import Derived.WalkKit
import Derived.ProofKit
import Derived.OpenShut
import Derived.ChangeOld
import Derived.SizedLaws
import Derived.KernelRfl
import Derived.Below
namespace Go.Proofs.YtldiaopobcebpaaDoor.namesKnown
open Go.ChangeShapes Go.WideShapes Go.ChangeAt Go.RowKit
set_option linter.unusedVariables false
set_option linter.unusedSimpArgs false
theorem walk (W : World) (hL : laidMet Tryd.prog door.laidL W) : Calls Tryd.prog 5 #[] W fun e W' => e = .returned (.bool true) ∧ Below W.heap.size W W' := by
  obtain ⟨r, H', h, rfl⟩ := sy.namesKnown_law (base := W.heap.size) (w0 := W) 
  refine (h Go.AM.pl0 W [] (door.relT hL) Go.AM.fresh0 rfl).mono ?_
  rintro e w' ⟨ρ', x, rfl, hv, hp⟩
  simp only [Go.AM.VR] at hv
  subst hv
  exact ⟨rfl, hp.rel.below⟩
set_option maxRecDepth 100000 in
theorem lifted (os : Os) (started : os.Started) (H : Type) (enc : TypeId × Value → H) :
    ReturnsInHanded {} Tryd.checked os 5 .any (fun w args => (Rows.namesKnownSpec.pre enc Tryd.prog Tryd.f5 Rows.namesKnownRow.domain false w args ∧ laidMet Tryd.prog Rows.namesKnownRow.laid w) ∧ sizedMet enc Tryd.prog Tryd.f5 (OpenSpec.ofChange Rows.namesKnownSpec) false w args) (Rows.namesKnownSpec.post enc Tryd.prog Tryd.f5 false true false false) := by
  refine returnsInHanded_of_change_and (C := Tryd.checked) (X := fun w _ => laidMet Tryd.prog Rows.namesKnownRow.laid w) (fun _ _ _ hh h => h.of_heap hh) door.own started (by kernel_rfl) Tryd.func5
    (door.witRef (enc := enc) (C := Tryd.checked) (os := os) (X := fun w _ => laidMet Tryd.prog Rows.namesKnownRow.laid w) false (door.laidWorld os) #[] 8 rfl (by kernel_rfl) (by kernel_rfl) (by kernel_rfl) (by kernel_rfl) (by kernel_rfl) (door.laid_met os _)) ?_
  intro W base args ds gs before hval0 hW _ _ hL _
  have hval : ∀ (j : Nat) t v, Tryd.f5.params[j]? = some t → args[j]? = some v → Value.okWide Tryd.prog W .any base t v := hval0
  have hW' := hW
  obtain ⟨p, q, hA0, hV, rfl, hfz, hnd⟩ := hW
  have hA : DataW.TrodAll enc Tryd.prog W 0 (fun _ => true) true Tryd.f5.params.toList args.toList ds p := hA0
  rw [Tryd.params5] at hA hval
  obtain ⟨hargs, rfl, rfl⟩ := trodAll_nil hA
  obtain rfl : args = #[] := by cases args; simp_all
  obtain ⟨rfl, rfl⟩ := trodVars_none hV
  refine (walk W hL ).mono fun e W' ⟨he, bel⟩ => ?_
  subst he
  exact ⟨_, rfl, _, _, _, [], _, [], hW', trodAll_mk1 (shut_bool Tryd.underlying4 _), trodAll_mk0, rfl, bel.frame _, fun h => by cases h⟩
theorem over : Rows.NamesKnownSaid :=
  OpenClaim.holds_of_wide 5 Tryd.f5 rfl rfl rfl rfl rfl rfl rfl ⟨rfl, rfl, rfl, rfl, rfl⟩ rfl rfl rfl rfl rfl (by kernel_rfl) Tryd.func5 (by kernel_rfl)
    (of_decide_eq_true (by kernel_rfl)) (by unfold Func.isWrapper; first | (rw [if_pos (by decide +kernel)]; kernel_rfl) | (rw [if_neg (by decide +kernel)]; exact ⟨rfl, rfl⟩))
    (fun os started H enc _ => lifted os started H enc)
theorem stands : Rows.NamesKnownCardSaid :=
  Claim7.holds_tied_plain_at .later [] [.listed, .data] true (true, "1a46c7ac23d80c796667ddb436246c5724ce2c522bcd2ccc4d0ce17942e2e277") false
    over (fun _ h => by cases h) (by kernel_rfl) (fun _ h => by cases h) namesKnown_row_tie rfl ⟨rfl, rfl⟩ (by kernel_rfl) rfl
    (fun f fn hf hfn => by
      obtain rfl : f = 5 := Option.some.inj ((show Tryd.prog.funcNamed "evenhanded/evenhandedlaw9.NamesKnown" = some 5 by kernel_rfl).symm.trans hf) |>.symm
      obtain rfl : fn = Tryd.f5 := (Option.some.inj (Tryd.func5.symm.trans hfn)).symm
      exact ⟨by kernel_rfl, fun j t ht => by
        rw [Tryd.params5] at ht
        simp at ht⟩)
    (by kernel_rfl)
end Go.Proofs.YtldiaopobcebpaaDoor.namesKnown
namespace Go.Proofs.YtldiaopobcebpaaDoor
/-- The card, under a short name, for the claim. -/
theorem namesKnown_holds : Rows.NamesKnownCardSaid := namesKnown.stands
end Go.Proofs.YtldiaopobcebpaaDoor
