/-
  VALUES WITHOUT PLACES (own work): what stands for whole numbers, bools and structs of them says one value of the model; a function of such values, known by a contract, as a function that the abstract machine knows.
-/
import Derived.Test.YthkjmhngmpdngaaGreatAmFrame
namespace Go.AM
open Go.RowKit

mutual
def conc : AV → Option Value
  | .bool b => some (.bool b)
  | .int k n => some (.int k n)
  | .agg l => (concs l).map fun ys => .agg ys.toArray
  | .tuple l => (concs l).map fun ys => .tuple ys.toArray
  | _ => none
def concs : List AV → Option (List Value)
  | [] => some []
  | v :: r => (conc v).bind fun y => (concs r).map fun ys => y :: ys
end

mutual
theorem conc_iff {ρ : Pl} : ∀ {v : AV} {x y : Value}, conc v = some x → (VR ρ v y ↔ y = x)
  | .bool b, x, y, e => by simp only [conc, Option.some.injEq] at e; subst e; simp [VR]
  | .int k n, x, y, e => by simp only [conc, Option.some.injEq] at e; subst e; simp [VR]
  | .agg l, x, y, e => by
    simp only [conc, Option.map_eq_some_iff] at e
    obtain ⟨ys, h1, rfl⟩ := e
    simp only [VR]
    constructor
    · rintro ⟨zs, h2, rfl⟩; rw [(concs_iff h1).1 h2]
    · rintro rfl; exact ⟨ys, (concs_iff h1).2 rfl, rfl⟩
  | .tuple l, x, y, e => by
    simp only [conc, Option.map_eq_some_iff] at e
    obtain ⟨ys, h1, rfl⟩ := e
    simp only [VR]
    constructor
    · rintro ⟨zs, h2, rfl⟩; rw [(concs_iff h1).1 h2]
    · rintro rfl; exact ⟨ys, (concs_iff h1).2 rfl, rfl⟩
  | .str _, _, _, e => by simp [conc] at e
  | .nilptr, _, _, e => by simp [conc] at e
  | .ptr _ _, _, _, e => by simp [conc] at e
  | .nilslice, _, _, e => by simp [conc] at e
  | .slice _ _ _ _, _, _, e => by simp [conc] at e
  | .nilmap, _, _, e => by simp [conc] at e
  | .map _, _, _, e => by simp [conc] at e
  | .nilfunc, _, _, e => by simp [conc] at e
  | .func _ _ _, _, _, e => by simp [conc] at e
  | .niliface, _, _, e => by simp [conc] at e
  | .iface _ _, _, _, e => by simp [conc] at e
theorem concs_iff {ρ : Pl} : ∀ {l : List AV} {xs ys : List Value}, concs l = some xs → (VRs ρ l ys ↔ ys = xs)
  | [], xs, ys, e => by simp only [concs, Option.some.injEq] at e; subst e; simp [VRs]
  | v :: r, xs, ys, e => by
    simp only [concs, Option.bind_eq_some_iff, Option.map_eq_some_iff] at e
    obtain ⟨y, h1, zs, h2, rfl⟩ := e
    simp only [VRs]
    constructor
    · rintro ⟨a, as', rfl, h3, h4⟩; rw [(conc_iff h1).1 h3, (concs_iff h2).1 h4]
    · rintro rfl; exact ⟨y, zs, rfl, (conc_iff h1).2 rfl, (concs_iff h2).2 rfl⟩
end

/-- a function of such values -/
theorem pure_ok {c : Ctx} {base : Nat} {w0 : World} {f0 : FuncId} {g : List AV → Option AV}
    (hg : ∀ args v, g args = some v → ∃ xs x, concs args = some xs ∧ conc v = some x ∧ ∀ w, Calls c.P f0 xs.toArray w fun e w' => e = .returned x ∧ Below w.heap.size w w') :
    CallOK c base w0 (fun f args H => if f = f0 then (g args).map fun v => (v, H) else none) := by
  intro f args H v H' e ρ w xs h hf hx
  simp only at e
  split at e
  · rename_i hff
    subst hff
    simp only [Option.map_eq_some_iff, Prod.mk.injEq] at e
    obtain ⟨v', hv, rfl, rfl⟩ := e
    obtain ⟨ys, x, h1, h2, h3⟩ := hg _ _ hv
    obtain rfl := (concs_iff h1).1 hx
    refine (h3 w).mono ?_
    rintro e w' ⟨rfl, hb⟩
    exact ⟨ρ, x, rfl, (conc_iff h2).2 rfl, post_grow h hb⟩
  · cases e
end Go.AM
