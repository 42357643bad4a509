/-
  FUNCTIONS OF THE PROGRAM THAT THE ABSTRACT MACHINE KNOWS (own work over the print's contracts).
-/
import Derived.Test.YthkjmhngmpdngaaGreatPRatx1
import Derived.Test.YthkjmhngmpdngaaGreatPRatx6
import Derived.Test.YthkjmhngmpdngaaGreatPRatx7
import Derived.Test.YthkjmhngmpdngaaGreatPRatx8
import Derived.Test.YthkjmhngmpdngaaGreatAmConc
namespace Go.Proofs.YthkjmhngmpdngaaGreat.rat
open Go.RowKit Go.AM Go.Proofs.YthkjmhngmpdngaaGreat.PRat Go.Proofs.YthkjmhngmpdngaaGreatW.PrintWords
set_option linter.unusedVariables false
/-- ratio_Sub -/
def g67 : List AV → Option AV
  | [.agg [.int .i64 a0_0, .int .i64 a0_1], .agg [.int .i64 a1_0, .int .i64 a1_1]] => match ratio_Sub.f 200 a0_0 a0_1 a1_0 a1_1 with
    | some (r1, r2, r3) => some (.tuple [.agg [.int .i64 r1, .int .i64 r2], .int .i64 r3])
    | none => none
  | _ => none
theorem g67_ok {c : Ctx} (hP : c.P = Tryz.prog) {base : Nat} {w0 : World} : CallOK c base w0 (fun f args H => if f = 67 then (g67 args).map fun v => (v, H) else none) := by
  refine pure_ok fun args v e => ?_
  unfold g67 at e
  split at e
  · split at e
    · rename_i hr
      cases e
      refine ⟨_, _, rfl, rfl, fun w => ?_⟩
      rw [hP]
      refine (ratio_Sub.calls _ _ _ _ _ _ _ _ w hr).mono ?_
      rintro e w' ⟨rfl, hb⟩
      exact ⟨rfl, hb⟩
    · cases e
  · cases e

/-- ratio_Of -/
def g68 : List AV → Option AV
  | [.int .i64 a0, .int .i64 a1] => match ratio_Of.f 200 a0 a1 with
    | some (r1, r2, r3) => some (.tuple [.agg [.int .i64 r1, .int .i64 r2], .int .i64 r3])
    | none => none
  | _ => none
theorem g68_ok {c : Ctx} (hP : c.P = Tryz.prog) {base : Nat} {w0 : World} : CallOK c base w0 (fun f args H => if f = 68 then (g68 args).map fun v => (v, H) else none) := by
  refine pure_ok fun args v e => ?_
  unfold g68 at e
  split at e
  · split at e
    · rename_i hr
      cases e
      refine ⟨_, _, rfl, rfl, fun w => ?_⟩
      rw [hP]
      refine (ratio_Of.calls _ _ _ _ _ _ w hr).mono ?_
      rintro e w' ⟨rfl, hb⟩
      exact ⟨rfl, hb⟩
    · cases e
  · cases e

/-- ratio_Mul -/
def g69 : List AV → Option AV
  | [.agg [.int .i64 a0_0, .int .i64 a0_1], .agg [.int .i64 a1_0, .int .i64 a1_1]] => match ratio_Mul.f 200 a0_0 a0_1 a1_0 a1_1 with
    | some (r1, r2, r3) => some (.tuple [.agg [.int .i64 r1, .int .i64 r2], .int .i64 r3])
    | none => none
  | _ => none
theorem g69_ok {c : Ctx} (hP : c.P = Tryz.prog) {base : Nat} {w0 : World} : CallOK c base w0 (fun f args H => if f = 69 then (g69 args).map fun v => (v, H) else none) := by
  refine pure_ok fun args v e => ?_
  unfold g69 at e
  split at e
  · split at e
    · rename_i hr
      cases e
      refine ⟨_, _, rfl, rfl, fun w => ?_⟩
      rw [hP]
      refine (ratio_Mul.calls _ _ _ _ _ _ _ _ w hr).mono ?_
      rintro e w' ⟨rfl, hb⟩
      exact ⟨rfl, hb⟩
    · cases e
  · cases e

/-- ratio_Add -/
def g72 : List AV → Option AV
  | [.agg [.int .i64 a0_0, .int .i64 a0_1], .agg [.int .i64 a1_0, .int .i64 a1_1]] => match ratio_Add.f 200 a0_0 a0_1 a1_0 a1_1 with
    | some (r1, r2, r3) => some (.tuple [.agg [.int .i64 r1, .int .i64 r2], .int .i64 r3])
    | none => none
  | _ => none
theorem g72_ok {c : Ctx} (hP : c.P = Tryz.prog) {base : Nat} {w0 : World} : CallOK c base w0 (fun f args H => if f = 72 then (g72 args).map fun v => (v, H) else none) := by
  refine pure_ok fun args v e => ?_
  unfold g72 at e
  split at e
  · split at e
    · rename_i hr
      cases e
      refine ⟨_, _, rfl, rfl, fun w => ?_⟩
      rw [hP]
      refine (ratio_Add.calls _ _ _ _ _ _ _ _ w hr).mono ?_
      rintro e w' ⟨rfl, hb⟩
      exact ⟨rfl, hb⟩
    · cases e
  · cases e

/-- ratio_Cmp -/
def g37 : List AV → Option AV
  | [.agg [.int .i64 a0_0, .int .i64 a0_1], .agg [.int .i64 a1_0, .int .i64 a1_1]] => match ratio_Cmp.f 200 a0_0 a0_1 a1_0 a1_1 with
    | some r => some (.int .i64 r)
    | none => none
  | _ => none
theorem g37_ok {c : Ctx} (hP : c.P = Tryz.prog) {base : Nat} {w0 : World} : CallOK c base w0 (fun f args H => if f = 37 then (g37 args).map fun v => (v, H) else none) := by
  refine pure_ok fun args v e => ?_
  unfold g37 at e
  split at e
  · split at e
    · rename_i hr
      cases e
      refine ⟨_, _, rfl, rfl, fun w => ?_⟩
      rw [hP]
      refine (ratio_Cmp.calls _ _ _ _ _ _ w hr).mono ?_
      rintro e w' ⟨rfl, hb⟩
      exact ⟨rfl, hb⟩
    · cases e
  · cases e

/-- ratio_May -/
def g59 : List AV → Option AV
  | [.agg [.int .i64 a0_0, .int .i64 a0_1]] => match ratio_May.f 200 a0_0 a0_1 with
    | some r => some (.bool r)
    | none => none
  | _ => none
theorem g59_ok {c : Ctx} (hP : c.P = Tryz.prog) {base : Nat} {w0 : World} : CallOK c base w0 (fun f args H => if f = 59 then (g59 args).map fun v => (v, H) else none) := by
  refine pure_ok fun args v e => ?_
  unfold g59 at e
  split at e
  · split at e
    · rename_i hr
      cases e
      refine ⟨_, _, rfl, rfl, fun w => ?_⟩
      rw [hP]
      refine (ratio_May.calls _ _ _ _ w hr).mono ?_
      rintro e w' ⟨rfl, hb⟩
      exact ⟨rfl, hb⟩
    · cases e
  · cases e

/-- whole_Gcd -/
def g74 : List AV → Option AV
  | [.int .i64 a0, .int .i64 a1] => match whole_Gcd.f 200 a0 a1 with
    | some r => some (.int .i64 r)
    | none => none
  | _ => none
theorem g74_ok {c : Ctx} (hP : c.P = Tryz.prog) {base : Nat} {w0 : World} : CallOK c base w0 (fun f args H => if f = 74 then (g74 args).map fun v => (v, H) else none) := by
  refine pure_ok fun args v e => ?_
  unfold g74 at e
  split at e
  · split at e
    · rename_i hr
      cases e
      refine ⟨_, _, rfl, rfl, fun w => ?_⟩
      rw [hP]
      refine (whole_Gcd.calls _ _ _ _ w hr).mono ?_
      rintro e w' ⟨rfl, hb⟩
      exact ⟨rfl, hb.below⟩
    · cases e
  · cases e

def prims (c : Ctx) : Prims := fun f => if f = 67 then some (fun args H => (g67 args).map fun v => (v, H)) else if f = 68 then some (fun args H => (g68 args).map fun v => (v, H)) else if f = 69 then some (fun args H => (g69 args).map fun v => (v, H)) else if f = 72 then some (fun args H => (g72 args).map fun v => (v, H)) else if f = 37 then some (fun args H => (g37 args).map fun v => (v, H)) else if f = 59 then some (fun args H => (g59 args).map fun v => (v, H)) else if f = 74 then some (fun args H => (g74 args).map fun v => (v, H)) else none
theorem prims_ok {c : Ctx} (hP : c.P = Tryz.prog) (base : Nat) (w0 : World) : PrimsOK c base w0 (prims c) := by
  intro f g hfg
  unfold prims at hfg
  split at hfg
  · rename_i hf
    cases hfg
    subst hf
    exact g67_ok hP
  split at hfg
  · rename_i hf
    cases hfg
    subst hf
    exact g68_ok hP
  split at hfg
  · rename_i hf
    cases hfg
    subst hf
    exact g69_ok hP
  split at hfg
  · rename_i hf
    cases hfg
    subst hf
    exact g72_ok hP
  split at hfg
  · rename_i hf
    cases hfg
    subst hf
    exact g37_ok hP
  split at hfg
  · rename_i hf
    cases hfg
    subst hf
    exact g59_ok hP
  split at hfg
  · rename_i hf
    cases hfg
    subst hf
    exact g74_ok hP
  cases hfg
end Go.Proofs.YthkjmhngmpdngaaGreat.rat
