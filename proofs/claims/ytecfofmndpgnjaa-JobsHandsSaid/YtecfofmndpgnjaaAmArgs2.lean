/-
  WHAT CAME IN, MORE (own work): structs of two whole numbers, and slices of them.
-/
import Derived.Test.YtecfofmndpgnjaaAmArgs
import Derived.ChangeSame
namespace Go.AM
open Go.RowKit Go.ChangeShapes Go.WideShapes Go.Deep
set_option linter.unusedVariables false
set_option linter.unusedSimpArgs false
section
variable {H : Type} {enc : TypeId × Value → H} {P : Program} {w : World} {base : Nat} {spare : Nat → Bool} {held : Bool}
theorem opA_pair {t : TypeId} {f0 f1 : Field} {k0 k1 : IntKind} (ht : P.underlying t = some (.struct #[f0, f1])) (h0 : P.underlying f0.type = some (.int k0)) (h1 : P.underlying f1.type = some (.int k1))
    (c2 : P.cellsOf t = 2) (c0 : P.cellsOf f0.type = 1) (c1 : P.cellsOf f1.type = 1) (o0 : f0.offset = 0) (o1 : f1.offset = 1) (hct : ctys P 8 t = [f0.type, f1.type]) :
    OpA enc P w base spare held t (fun vs => ∃ a b, vs = [.int k0 a, .int k1 b] ∧ (Lit.int k0 a).wf = true ∧ (Lit.int k1 b).wf = true) := by
  intro fuel cs x h
  obtain ⟨y0, y1, n, _, hl, g0, g1⟩ := trod_struct2 ht h
  obtain ⟨a, ha, _, wa⟩ := DataW.trod_int h0 g0
  obtain ⟨b, hb, _, wb⟩ := DataW.trod_int h1 g1
  rw [o0, c0, List.drop_zero] at ha
  rw [o1, c1] at hb
  rw [c2] at hl
  rw [hct]
  match cs, hl with
  | [u, v], _ =>
    simp at ha hb
    subst ha hb
    refine ⟨[.int k0 a, .int k1 b], rfl, rfl, ⟨a, b, rfl, wa, wb⟩, fun j hj => ?_⟩
    match j, hj with
    | 0, _ => exact ⟨_, rfl, by simp [cellAV, h0, scAV], rfl⟩
    | 1, _ => exact ⟨_, rfl, by simp [cellAV, h1, scAV], rfl⟩
/-- a slice of pairs that came in -/
theorem SlG.pairs {v : AV} {n : Nat} {k0 k1 : IntKind} {p0 p1 : Int → Prop} (h : SlG P w v 2 n (fun vs => ∃ a b, vs = [AV.int k0 a, AV.int k1 b] ∧ p0 a ∧ p1 b)) :
    ∃ zs : List (Int × Int), zs.length = n ∧ v.at? = none ∧ (∀ z ∈ zs, p0 z.1 ∧ p1 z.2) ∧ ((n = 0 ∧ (v = .nilslice ∨ ∃ a, v = .odd a)) ∨ ∃ path cs, v = .slice (.ext path) 2 0 n ∧ decG P w path = some cs ∧ ∀ i (hi : i < zs.length), i * 2 + 2 ≤ cs.length ∧ (cs.drop (i * 2)).take 2 = [AV.int k0 zs[i].1, AV.int k1 zs[i].2]) := by
  rcases h with ⟨hv, rfl⟩ | ⟨path, cs, rfl, hG, hl, hg⟩
  · refine ⟨[], rfl, ?_, by simp, .inl ⟨rfl, hv⟩⟩
    rcases hv with rfl | ⟨a, rfl⟩ <;> rfl
  · have : ∀ m, m ≤ n → ∃ zs : List (Int × Int), zs.length = m ∧ (∀ z ∈ zs, p0 z.1 ∧ p1 z.2) ∧ ∀ i (hi : i < zs.length), (cs.drop (i * 2)).take 2 = [AV.int k0 zs[i].1, AV.int k1 zs[i].2] := by
      intro m
      induction m with
      | zero => intro _; exact ⟨[], rfl, by simp, fun i hi => by simp at hi⟩
      | succ m ih =>
        intro hm
        obtain ⟨zs, z1, z2, z3⟩ := ih (by omega)
        obtain ⟨a, b, e, ha, hb⟩ := hg m (by omega)
        refine ⟨zs ++ [(a, b)], by simp [z1], fun z hz => ?_, fun i hi => ?_⟩
        · rcases List.mem_append.1 hz with h | h
          · exact z2 z h
          · simp at h; subst h; exact ⟨ha, hb⟩
        · by_cases h : i < zs.length
          · rw [List.getElem_append_left h]; exact z3 i h
          · have : i = m := by simp at hi; omega
            subst this
            rw [e, List.getElem_append_right (by omega)]
            simp [z1]
    obtain ⟨zs, z1, z2, z3⟩ := this n (Nat.le_refl _)
    exact ⟨zs, z1, rfl, z2, .inr ⟨path, cs, rfl, hG, fun i hi => ⟨by omega, z3 i hi⟩⟩⟩
end
end Go.AM
