/-
  FROM THE ABSTRACT MACHINE TO A LAW'S ROW (own work): a law without arguments, run by the kernel.
-/
import Derived.Test.YtecfofmndpgnjaaAmAny
namespace Go.AM
open Go.RowKit

def noPrims : Prims := fun _ => none
def noArgs (P : Program) : Ctx := { P, G := fun _ => none }

/-- where nothing of one's own lies yet -/
def pl0 : Pl := fun l => match l with
  | .ext [0, g] => some ⟨g, 0, 0⟩
  | _ => none

theorem prims_none (c : Ctx) (base : Nat) (w0 : World) : PrimsOK c base w0 noPrims := fun _ _ h => by cases h

theorem rel0 (P : Program) (w : World) : Rel (noArgs P) w.heap.size w pl0 [] w where
  below := Below.refl _ _
  size := Nat.le_refl _
  own := fun i o h => by simp [hat] at h
  inj := fun i j o o' p q h => by simp [hat] at h
  ext := fun path cells h => by cases h
  glob := fun g => ⟨0, rfl⟩

theorem fresh0 : Fresh pl0 [] := fun _ _ => rfl

def isTrue : Option (AV × AHeap) → Bool
  | some (.bool b, _) => b
  | _ => false

theorem isTrue_some {r : Option (AV × AHeap)} (h : isTrue r = true) : ∃ H, r = some (.bool true, H) := by
  unfold isTrue at h
  split at h
  · subst h; exact ⟨_, rfl⟩
  · cases h

/-- A LAW WITHOUT ARGUMENTS that the machine runs to 'true'. -/
theorem known {P : Program} {f : FuncId} {k : Nat} (hm : P.follows .mixedOrders = true) (h : isTrue (acall (noArgs P) drawRunA gcCall noPrims k f [] []) = true) (w : World) :
    Calls P f #[] w fun e w' => e = .returned (.bool true) ∧ Below w.heap.size w w' := by
  obtain ⟨H, hH⟩ := isTrue_some h
  have := calls_sound (c := noArgs P) (base := w.heap.size) (w0 := w) (dr := drawRunA) (gc := gcCall) (prims_none _ _ _) (fun call hc => drawA_sound hm call hc) (fun call hc => gc_sound hc) k f [] [] (.bool true) H hH pl0 w [] (rel0 P w) fresh0 rfl
  refine this.mono ?_
  rintro e w' ⟨ρ', x, rfl, hv, hp⟩
  simp only [VR] at hv
  subst hv
  exact ⟨rfl, hp.rel.below⟩

def orPrims (p q : Prims) : Prims := fun f => match p f with
  | some g => some g
  | none => q f

theorem orPrims_ok {c : Ctx} {base : Nat} {w0 : World} {p q : Prims} (hp : PrimsOK c base w0 p) (hq : PrimsOK c base w0 q) : PrimsOK c base w0 (orPrims p q) := by
  intro f g e
  unfold orPrims at e
  split at e
  · rename_i g' hg
    cases e
    exact hp f g hg
  · exact hq f g e

/-- the same, where some functions are known otherwise -/
theorem knownP {P : Program} {pr : Prims} (hp : ∀ base w0, PrimsOK (noArgs P) base w0 pr) {f : FuncId} {k : Nat} (hm : P.follows .mixedOrders = true) (h : isTrue (acall (noArgs P) drawRunA gcCall pr k f [] []) = true) (w : World) :
    Calls P f #[] w fun e w' => e = .returned (.bool true) ∧ Below w.heap.size w w' := by
  obtain ⟨H, hH⟩ := isTrue_some h
  have := calls_sound (c := noArgs P) (base := w.heap.size) (w0 := w) (dr := drawRunA) (gc := gcCall) (hp _ _) (fun call hc => drawA_sound hm call hc) (fun call hc => gc_sound hc) k f [] [] (.bool true) H hH pl0 w [] (rel0 P w) fresh0 rfl
  refine this.mono ?_
  rintro e w' ⟨ρ', x, rfl, hv, hp⟩
  simp only [VR] at hv
  subst hv
  exact ⟨rfl, hp.rel.below⟩

end Go.AM
