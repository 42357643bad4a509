/- Arguments opened: what reads as a type is a value of the kind that the print tells (whole numbers, bools, strings, slices of what can be opened; structs are opened by printed texts). -/
import Derived.Below
import Derived.Deep.Slices
import Derived.Deep.Fields
import Derived.ChangeSame
import Derived.ChangeShapes
import Derived.SizedLaws
import Derived.ChangeSlices
import Derived.RowKit
import Derived.Test.YtiljdmlganploaaWWords
namespace Go.Proofs.Ytiljdmlganploaa
open Go.ChangeShapes Go.WideShapes Go.Deep Go.RowKit Go.Proofs.YtiljdmlganploaaW.PrintWords
set_option linter.unusedVariables false
section
variable {H : Type} {enc : TypeId × Value → H} {P : Program} {w : World} {base : Nat} {spare : Nat → Bool} {held : Bool}
/-- What reads as type t is a value of this kind, and it is as told. -/
def Opens {α : Type} (enc : TypeId × Value → H) (P : Program) (w : World) (base : Nat) (spare : Nat → Bool) (held : Bool) (d : Kd α) (ok : α → Prop) (t : TypeId) : Prop :=
  ∀ fuel cs x, DataW.trod enc P w base spare held fuel t cs = some x → ∃ a, d.K w a cs ∧ ok a
theorem opens_int {t : TypeId} {k : IntKind} (ht : P.underlying t = some (.int k)) : Opens enc P w base spare held (Kd.int k) (fun n => (Lit.int k n).wf = true) t := by
  intro fuel cs x h
  obtain ⟨n, rfl, _, hw⟩ := DataW.trod_int ht h
  exact ⟨n, rfl, hw⟩
theorem opens_bool {t : TypeId} (ht : P.underlying t = some .bool) : Opens enc P w base spare held Kd.bool (fun _ => True) t := by
  intro fuel cs x h
  obtain ⟨n, rfl, _⟩ := DataW.trod_bool ht h
  exact ⟨n, rfl, trivial⟩
theorem opens_string {t : TypeId} (ht : P.underlying t = some .string) : Opens enc P w base spare held Kd.string (fun s => s.size ≤ maxLen) t := by
  intro fuel cs x h
  obtain ⟨n, rfl, _, hs⟩ := DataW.trod_string ht h
  exact ⟨n, rfl, hs⟩
theorem opens_row {α : Type} {d : Kd α} {ok : α → Prop} {t e : TypeId} (ht : P.underlying t = some (.slice e)) (hc : P.cellsOf e = d.sz) (hspare : ∀ k, spare k = true) (ho : Opens enc P w base spare held d ok e) {fuel : Nat} {cs : List Value} {x : DataW H × List MemPlace} (h : DataW.trod enc P w base spare held fuel t cs = some x) :
    ∃ (A : Option Addr) (n c : Nat) (xs : List α), cs = [.slice A n c] ∧ d.C w A n xs ∧ n ≤ c ∧ c ≤ maxLen ∧ ∀ y ∈ xs, ok y := by
  rcases open_slice ht h with ⟨rfl, _⟩ | ⟨a, len, cap, m, n, D, Pl, rfl, hb, hl, hm, hmm, hx, hi⟩
  · exact ⟨none, 0, 0, [], rfl, ⟨rfl, by omega, fun h0 => absurd h0 (by omega)⟩, Nat.le_refl _, by unfold maxLen; omega, by simp⟩
  · rw [hspare, if_pos rfl] at hmm
    subst hmm
    have hel : ∀ i, i < m → ∃ y c, c.length = d.sz ∧ d.K w y c ∧ ok y ∧ ∀ j u, c[j]? = some u → w.cell? (a.add (i * d.sz + j)) = some u := by
      intro i him
      obtain ⟨cs', hcs, ht'⟩ := hi i him
      rw [hc] at hcs
      obtain ⟨_, hcl, hat⟩ := World.cells?_some hcs
      obtain ⟨y, hy, hoky⟩ := ho _ _ _ ht'
      refine ⟨y, cs', hcl, hy, hoky, fun j u hu => ?_⟩
      have hj : j < d.sz := by rw [← hcl]; exact (List.getElem?_eq_some_iff.1 hu).1
      rw [← Go.Deep.add_add, hat j hj, hu]
    have hall : ∀ k, k ≤ m → ∃ ys : List α, ys.length = k ∧ (∀ y ∈ ys, ok y) ∧ ∀ j p, ys[j]? = some p → ∃ c, c.length = d.sz ∧ d.K w p c ∧ ∀ i u, c[i]? = some u → w.cell? (a.add (j * d.sz + i)) = some u := by
      intro k
      induction k with
      | zero => exact fun _ => ⟨[], rfl, by simp, fun j p h => by simp at h⟩
      | succ k ih =>
        intro hk
        obtain ⟨ys, hyl, hyo, hyc⟩ := ih (by omega)
        obtain ⟨y, c, h1, h2, h3, h4⟩ := hel k (by omega)
        refine ⟨ys ++ [y], by simp [hyl], fun z hz => ?_, fun j p hp => ?_⟩
        · rcases List.mem_append.1 hz with hz | hz
          · exact hyo z hz
          · rw [List.mem_singleton.1 hz]; exact h3
        · rcases Nat.lt_or_ge j ys.length with hj | hj
          · rw [List.getElem?_append_left hj] at hp; exact hyc j p hp
          · have hjl := (List.getElem?_eq_some_iff.1 hp).1
            have : j = ys.length := by simp at hjl; omega
            subst this
            simp at hp
            subst hp
            rw [hyl]
            exact ⟨c, h1, h2, h4⟩
    obtain ⟨ys, hyl, hyo, hyc⟩ := hall len (by omega)
    refine ⟨some a, len, m, ys, rfl, ⟨hyl, by unfold maxLen at hm; omega, fun _ => ⟨a, rfl, hyc⟩⟩, hl, hm, hyo⟩
theorem opens_slice {α : Type} {d : Kd α} {ok : α → Prop} {t e : TypeId} (ht : P.underlying t = some (.slice e)) (hc : P.cellsOf e = d.sz) (hspare : ∀ k, spare k = true) (ho : Opens enc P w base spare held d ok e) (q : Nat) : Opens enc P w base spare held (Kd.slice q d) (fun xs => ∀ y ∈ xs, ok y) t := by
  intro fuel cs x h
  obtain ⟨A, n, c, xs, rfl, hC, hn, _, hok⟩ := opens_row ht hc hspare ho h
  obtain rfl := hC.1
  exact ⟨xs, ⟨A, c, rfl, hn, hC⟩, hok⟩
/-- An argument that is a slice. -/
theorem arg_slice {α : Type} {d : Kd α} {ok : α → Prop} {t e : TypeId} (ht : P.underlying t = some (.slice e)) (hc : P.cellsOf e = d.sz) (hspare : ∀ k, spare k = true) (ho : Opens enc P w base spare held d ok e) {A : Option Addr} {n c : Nat} {dd : DataW H} {ps : List MemPlace}
    (h : DataW.Trod enc P w base spare held t (.slice A n c) dd ps) : ∃ xs : List α, n = xs.length ∧ d.C w A xs.length xs ∧ xs.length ≤ c ∧ ∀ y ∈ xs, ok y := by
  obtain ⟨fuel, hf⟩ := h
  obtain ⟨A', n', c', xs, hcs, hC, hn, _, hok⟩ := opens_row ht hc hspare ho hf
  simp [Value.cells] at hcs
  obtain ⟨rfl, rfl, rfl⟩ := hcs
  obtain rfl := hC.1
  exact ⟨xs, rfl, hC, hn, hok⟩
end
end Go.Proofs.Ytiljdmlganploaa
