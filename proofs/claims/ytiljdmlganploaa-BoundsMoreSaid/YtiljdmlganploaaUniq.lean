/- Sorted and each once: what sort and compact tell of a list of whole numbers. -/
import Derived.Test.YtiljdmlganploaaSortComp
namespace Go.Proofs.Ytiljdmlganploaa
open Go.RowKit Go.Proofs.YtiljdmlganploaaW.PrintWords
set_option linter.unusedVariables false
/-- Sorted, each once. -/
def uniq (xs : List Int) : List Int := Go.Lib.compact (sortI xs)
theorem sortI_pairwise (xs : List Int) : (sortI xs).Pairwise (· ≤ ·) := by
  unfold sortI
  have h := List.pairwise_mergeSort (le := fun x y : Int => decide (x ≤ y)) (fun a b c hab hbc => by simp at *; omega) (fun a b => by simp; omega) xs
  exact h.imp (fun hab => by simpa using hab)
theorem mem_sortI (x : Int) (xs : List Int) : x ∈ sortI xs ↔ x ∈ xs := by unfold sortI; exact List.mem_mergeSort
theorem mem_compact_of (x : Int) (zs : List Int) : x ∈ Go.Lib.compact zs ↔ x ∈ zs := by
  unfold Go.Lib.compact Go.Lib.compactUpTo
  simp only [List.mem_map, List.mem_filter, List.mem_range]
  constructor
  · rintro ⟨j, ⟨hj, _⟩, rfl⟩
    simp [hj]
  · intro hx
    obtain ⟨j, hj, rfl⟩ := List.getElem_of_mem hx
    have : ∀ j : Nat, (hj : j < zs.length) → ∃ i, (i < zs.length ∧ Go.Lib.keeps zs.toArray i = true) ∧ zs.toArray[i]! = zs[j] := by
      intro j
      induction j with
      | zero => exact fun hj => ⟨0, ⟨hj, by simp [Go.Lib.keeps]⟩, by simp [hj]⟩
      | succ j ih =>
        intro hj
        by_cases e : zs.toArray[j+1]! = zs.toArray[j]!
        · obtain ⟨i, hi, he⟩ := ih (by omega)
          refine ⟨i, hi, he.trans ?_⟩
          have h1 : zs.toArray[j+1]! = zs[j+1] := by simp [hj]
          have h2 : zs.toArray[j]! = zs[j] := by simp [show j < zs.length by omega]
          rw [← h1, ← h2, e]
        · exact ⟨j + 1, ⟨hj, by simp only [Go.Lib.keeps, decide_eq_true_eq]; right; simpa using e⟩, by simp [hj]⟩
    exact this j hj
theorem mem_uniq (x : Int) (xs : List Int) : x ∈ uniq xs ↔ x ∈ xs := by unfold uniq; rw [mem_compact_of, mem_sortI]
theorem compact_lt (zs : List Int) (h : zs.Pairwise (· ≤ ·)) : (Go.Lib.compact zs).Pairwise (· < ·) := by
  unfold Go.Lib.compact Go.Lib.compactUpTo
  rw [List.pairwise_map]
  refine List.Pairwise.imp_of_mem ?_ (List.Pairwise.filter _ (List.pairwise_lt_range (n := zs.length)))
  intro i j hi hj hij
  have hj1 := List.mem_filter.1 hj
  have hjl : j < zs.length := by simpa using hj1.1
  have hk := hj1.2
  simp only [Go.Lib.keeps, decide_eq_true_eq] at hk
  have hne : zs.toArray[j]! ≠ zs.toArray[j-1]! := by
    rcases hk with hk | hk
    · omega
    · exact hk
  have e1 : zs.toArray[j]! = zs[j] := by simp [hjl]
  have e2 : zs.toArray[j-1]! = zs[j-1] := by simp [show j - 1 < zs.length by omega]
  have e3 : zs.toArray[i]! = zs[i] := by simp [show i < zs.length by omega]
  rw [e1, e2] at hne
  rw [e1, e3]
  have hp := List.pairwise_iff_getElem.1 h
  have h1 := hp (j - 1) j (by omega) hjl (by omega)
  have h2 : zs[i] ≤ zs[j-1] := by
    rcases Nat.lt_or_ge i (j - 1) with hlt | hge
    · exact hp i (j - 1) (by omega) (by omega) hlt
    · have : i = j - 1 := by omega
      subst this
      exact Int.le_refl _
  omega
theorem uniq_lt (xs : List Int) : (uniq xs).Pairwise (· < ·) := compact_lt _ (sortI_pairwise xs)
theorem uniq_len (xs : List Int) : (uniq xs).length ≤ xs.length := by
  unfold uniq
  exact Nat.le_trans (compact_le _) (by rw [sortI_len]; exact Nat.le_refl _)
theorem lt_ext : ∀ (xs ys : List Int), xs.Pairwise (· < ·) → ys.Pairwise (· < ·) → (∀ x, x ∈ xs ↔ x ∈ ys) → xs = ys
  | [], [], _, _, _ => rfl
  | [], y :: ys, _, _, h => absurd ((h y).2 (List.mem_cons_self)) (by simp)
  | x :: xs, [], _, _, h => absurd ((h x).1 (List.mem_cons_self)) (by simp)
  | x :: xs, y :: ys, hx, hy, h => by
    have hx' := List.pairwise_cons.1 hx
    have hy' := List.pairwise_cons.1 hy
    have e : x = y := by
      have h1 := (h x).1 List.mem_cons_self
      have h2 := (h y).2 List.mem_cons_self
      rcases List.mem_cons.1 h1 with h1 | h1
      · exact h1
      · rcases List.mem_cons.1 h2 with h2 | h2
        · exact h2.symm
        · have := hx'.1 y h2; have := hy'.1 x h1; omega
    subst e
    rw [lt_ext xs ys hx'.2 hy'.2 (fun z => ?_)]
    constructor
    · intro hz
      have := hx'.1 z hz
      rcases List.mem_cons.1 ((h z).1 (List.mem_cons_of_mem _ hz)) with h3 | h3
      · omega
      · exact h3
    · intro hz
      have := hy'.1 z hz
      rcases List.mem_cons.1 ((h z).2 (List.mem_cons_of_mem _ hz)) with h3 | h3
      · omega
      · exact h3
theorem uniq_ext {xs ys : List Int} (h : ∀ x, x ∈ xs ↔ x ∈ ys) : uniq xs = uniq ys :=
  lt_ext _ _ (uniq_lt _) (uniq_lt _) (fun x => by rw [mem_uniq, mem_uniq]; exact h x)
theorem uniq_eq {xs ys : List Int} (hy : ys.Pairwise (· < ·)) (h : ∀ x, x ∈ xs ↔ x ∈ ys) : uniq xs = ys :=
  lt_ext _ _ (uniq_lt _) hy (fun x => by rw [mem_uniq]; exact h x)
theorem uniq_nil : uniq [] = [] := uniq_eq List.Pairwise.nil (by simp)
end Go.Proofs.Ytiljdmlganploaa
