/- A heap of whole numbers in plain Lean (own work): what container/heap's up and down do to a list. -/
import Derived.Test.YtecfofmndpgnjaaAmCore
namespace Go.AM.Hp
set_option linter.unusedVariables false
set_option linter.unusedSimpArgs false
def at_ (a : List Int) (i : Nat) : Int := a.getD i 0
def swp (a : List Int) (i k : Nat) : List Int := (a.set i (at_ a k)).set k (at_ a i)
theorem swp_len (a : List Int) (i k : Nat) : (swp a i k).length = a.length := by simp [swp]
theorem at_swp {a : List Int} {i k : Nat} (hi : i < a.length) (hk : k < a.length) (j : Nat) : at_ (swp a i k) j = if j = i then at_ a k else if j = k then at_ a i else at_ a j := by
  simp only [at_, swp, List.getD_eq_getElem?_getD, List.getElem?_set, List.length_set]
  by_cases h1 : k = j
  · subst h1
    rw [if_pos rfl, if_pos hk]
    by_cases h2 : k = i
    · subst h2; rw [if_pos rfl]; rfl
    · rw [if_neg h2, if_pos rfl]; rfl
  · rw [if_neg h1]
    by_cases h2 : i = j
    · subst h2
      rw [if_pos rfl, if_pos hi, if_pos rfl]; rfl
    · rw [if_neg h2, if_neg (fun e => h2 e.symm), if_neg (fun e => h1 e.symm)]
theorem swp_perm {a : List Int} {i k : Nat} (hi : i < a.length) (hk : k < a.length) : (swp a i k).Perm a := by
  rw [List.perm_iff_count]
  intro x
  simp only [swp, at_, List.getD_eq_getElem?_getD, List.getElem?_eq_getElem hi, List.getElem?_eq_getElem hk, Option.getD_some]
  rw [List.count_set (by simpa using hk), List.count_set hi]
  rw [List.getElem_set]
  have c1 : 0 < List.count a[i] a := List.count_pos_iff.2 (List.getElem_mem hi)
  by_cases h : i = k
  · subst h
    simp only [if_true, beq_iff_eq]
    by_cases hx : a[i] = x
    · subst hx; simp
    · simp [hx]
  · simp only [if_neg h, beq_iff_eq]
    have c2 : 0 < List.count a[k] a := List.count_pos_iff.2 (List.getElem_mem hk)
    by_cases h1 : a[i] = x
    · subst h1
      by_cases h2 : a[k] = a[i]
      · simp [h2]
      · simp [h2]
    · by_cases h2 : a[k] = x
      · subst h2; simp [h1]
      · simp [h1, h2]

/-- each is not below the one above it -/
def Heap (a : List Int) (n : Nat) : Prop := ∀ i, 0 < i → i < n → at_ a ((i - 1) / 2) ≤ at_ a i
/-- but at j, perhaps -/
def UpTo (a : List Int) (n j : Nat) : Prop := (∀ i, 0 < i → i < n → i ≠ j → at_ a ((i - 1) / 2) ≤ at_ a i) ∧ (∀ i, 0 < i → i < n → (i - 1) / 2 = j → 0 < j → at_ a ((j - 1) / 2) ≤ at_ a i)
theorem UpTo.stop {a : List Int} {n j : Nat} (h : UpTo a n j) (hj : j = 0 ∨ at_ a ((j - 1) / 2) ≤ at_ a j) : Heap a n := by
  intro i h0 hi
  by_cases e : i = j
  · subst e
    rcases hj with hj | hj
    · omega
    · exact hj
  · exact h.1 i h0 hi e
theorem UpTo.step {a : List Int} {n j : Nat} (h : UpTo a n j) (hn : n ≤ a.length) (hj : j < n) (h0 : 0 < j) (hl : at_ a j < at_ a ((j - 1) / 2)) : UpTo (swp a ((j - 1) / 2) j) n ((j - 1) / 2) := by
  have hp : (j - 1) / 2 < j := by omega
  have e := at_swp (a := a) (i := (j - 1) / 2) (k := j) (by omega) (by omega)
  refine ⟨fun i hi0 hin hne => ?_, fun i hi0 hin hpi hpp => ?_⟩
  · rw [e, e]
    by_cases h1 : i = j
    · subst h1
      rw [if_pos rfl, if_neg (by omega), if_pos rfl]; omega
    · rw [if_neg hne, if_neg h1]
      by_cases h2 : (i - 1) / 2 = (j - 1) / 2
      · rw [if_pos h2]
        have := h.1 i hi0 hin h1
        rw [h2] at this; omega
      · rw [if_neg h2]
        by_cases h3 : (i - 1) / 2 = j
        · rw [if_pos h3]
          exact h.2 i hi0 hin h3 h0
        · rw [if_neg h3]
          exact h.1 i hi0 hin h1
  · rw [e, e]
    have hpar : at_ a (((j - 1) / 2 - 1) / 2) ≤ at_ a ((j - 1) / 2) := h.1 ((j - 1) / 2) hpp (by omega) (by omega)
    rw [if_neg (by omega), if_neg (by omega)]
    by_cases h1 : i = j
    · subst h1; rw [if_neg (by omega), if_pos rfl]; exact hpar
    · rw [if_neg (by omega), if_neg h1]
      have := h.1 i hi0 hin h1
      rw [hpi] at this; omega
/-- below j each may be out of order -/
def DownTo (a : List Int) (n j : Nat) : Prop := (∀ i, 0 < i → i < n → (i - 1) / 2 ≠ j → at_ a ((i - 1) / 2) ≤ at_ a i) ∧ (∀ i, 0 < i → i < n → (i - 1) / 2 = j → 0 < j → at_ a ((j - 1) / 2) ≤ at_ a i)
theorem DownTo.stop {a : List Int} {n j : Nat} (h : DownTo a n j) (hj : ∀ i, 0 < i → i < n → (i - 1) / 2 = j → at_ a j ≤ at_ a i) : Heap a n := by
  intro i h0 hi
  by_cases e : (i - 1) / 2 = j
  · rw [e]; exact hj i h0 hi e
  · exact h.1 i h0 hi e
/-- the lesser child, k, is put above -/
theorem DownTo.step {a : List Int} {n j k : Nat} (h : DownTo a n j) (hn : n ≤ a.length) (hk : k < n) (hk0 : 0 < k) (hp : (k - 1) / 2 = j) (hl : at_ a k < at_ a j) (hm : ∀ i, 0 < i → i < n → (i - 1) / 2 = j → at_ a k ≤ at_ a i) : DownTo (swp a j k) n k := by
  have e := at_swp (a := a) (i := j) (k := k) (by omega) (by omega)
  refine ⟨fun i hi0 hin hne => ?_, fun i hi0 hin hpi hpp => ?_⟩
  · rw [e, e]
    by_cases h1 : i = k
    · subst h1
      rw [if_pos hp, if_neg (by omega), if_pos rfl]; omega
    · by_cases h2 : i = j
      · subst h2
        rw [if_pos rfl, if_neg (by omega), if_neg hne]
        exact h.2 k hk0 hk hp hi0
      · rw [if_neg h2, if_neg h1]
        by_cases h3 : (i - 1) / 2 = j
        · rw [if_pos h3]; exact hm i hi0 hin h3
        · rw [if_neg h3, if_neg hne]
          exact h.1 i hi0 hin h3
  · rw [e, e, hp, if_pos rfl, if_neg (by omega), if_neg (by omega)]
    have := h.1 i hi0 hin (by omega)
    rw [hpi] at this; exact this
theorem heap_min {a : List Int} {n : Nat} (h : Heap a n) : ∀ i, i < n → at_ a 0 ≤ at_ a i := by
  intro i
  induction i using Nat.strongRecOn with
  | ind i ih =>
    intro hi
    rcases Nat.eq_zero_or_pos i with h0 | h0
    · subst h0; omega
    · have := ih ((i - 1) / 2) (by omega) (by omega)
      have := h i h0 hi
      omega
theorem at_get {a : List Int} {i : Nat} (h : i < a.length) : at_ a i = a[i] := by simp [at_, List.getD_eq_getElem?_getD, h]
theorem heap_least {a : List Int} (h : Heap a a.length) : ∀ x ∈ a, at_ a 0 ≤ x := by
  intro x hx
  obtain ⟨i, hi, rfl⟩ := List.getElem_of_mem hx
  rw [← at_get hi]
  exact heap_min h i hi
end Go.AM.Hp
