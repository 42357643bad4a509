/- The law BoundsMore, in numbers and lists alone. -/
import Derived.Test.YtiljdmlganploaaPBoundsMorex2
import Derived.Test.YtiljdmlganploaaArgBoundsMore
import Derived.Test.YtiljdmlganploaaComBoundsMore
import Derived.DataShut
namespace Go.Proofs.Ytiljdmlganploaa.PBoundsMore
open Go.RowKit Go.Proofs.YtiljdmlganploaaW.PrintWords Go.Proofs.YtiljdmlganploaaW.PrintLast Go.Proofs.YtiljdmlganploaaW.PrintMore
set_option linter.unusedVariables false
theorem take_succ_mem {l : List S25} {n : Nat} (h : n < l.length) (s : S25) : s ∈ l.take (n + 1) ↔ s ∈ l.take n ∨ s = l.getD n z25 := by
  rw [List.take_add_one, List.getElem?_eq_getElem h, List.mem_append, List.getD_eq_getElem?_getD, List.getElem?_eq_getElem h]
  simp
theorem nxt_cases (l : List S25) (c : Int) : nxt l c = (0, false) ∨ ∃ d, nxt l c = (d, true) := by
  unfold nxt
  cases uniq (dls l c) with
  | nil => exact .inl rfl
  | cons d ds => exact .inr ⟨d, rfl⟩
theorem nxt_more (l : List S25) (x : S25) (c : Int) (h6 : x.f6 = true) (hc : c < dl x) :
    (nxt l c = (0, false) ∧ nxt (l ++ [x]) c = (dl x, true)) ∨ ∃ p, nxt l c = (p, true) ∧ nxt (l ++ [x]) c = ((if p < dl x then p else dl x), true) := by
  rcases nxt_cases l c with h | ⟨p, h⟩
  · refine .inl ⟨h, nxt_some.2 ⟨⟨x, by simp, h6, hc, rfl⟩, fun s hs g6 gc => ?_⟩⟩
    have hn := nxt_none.1 (show (nxt l c).2 = false by rw [h])
    rcases List.mem_append.1 hs with hs | hs
    · exact absurd ⟨g6, gc⟩ (hn s hs)
    · rw [List.mem_singleton.1 hs]; exact Int.le_refl _
  · refine .inr ⟨p, h, ?_⟩
    obtain ⟨⟨s0, h1, h2, h3, h4⟩, h5⟩ := nxt_some.1 h
    by_cases hp : p < dl x
    · rw [if_pos hp]
      refine nxt_some.2 ⟨⟨s0, List.mem_append_left _ h1, h2, h3, h4⟩, fun s hs g6 gc => ?_⟩
      rcases List.mem_append.1 hs with hs | hs
      · exact h5 s hs g6 gc
      · rw [List.mem_singleton.1 hs]; omega
    · rw [if_neg hp]
      refine nxt_some.2 ⟨⟨x, by simp, h6, hc, rfl⟩, fun s hs g6 gc => ?_⟩
      rcases List.mem_append.1 hs with hs | hs
      · have := h5 s hs g6 gc; omega
      · rw [List.mem_singleton.1 hs]; exact Int.le_refl _
theorem more_l0 (l : List S25) (x : S25) (c : Int) (hl : l.length ≤ 60) (hx : -1048576 ≤ x.f7 ∧ x.f7 ≤ 1048576 ∧ -1048576 ≤ x.f2 ∧ x.f2 ≤ 1048576) (hc2 : 0 ≤ c ∧ c ≤ 255) : ∀ (d k n : Nat), n + d = l.length → 1000 + d < k →
    (∀ s ∈ l.take n, -1048576 ≤ s.f7 ∧ s.f7 ≤ 1048576 ∧ s.f2 ≤ 1048576 ∧ -1048576 ≤ s.f2) →
    evenhandedlaw16_BoundsMore.l0 k l c n x.f0 x.f1 x.f2 x.f3 x.f4 x.f5 x.f6 x.f7 x.f8 x.f9 x.f10 = some true := by
  intro d
  induction d with
  | zero =>
    intro k n hn hk hb
    obtain ⟨k, rfl⟩ : ∃ m, k = m + 1 := ⟨k - 1, by omega⟩
    have hc : wrap64 c = c := by unfold wrap64; omega
    rw [List.take_of_length_le (by omega)] at hb
    have hs : Small l := fun s h => by have := hb s h; unfold dl; omega
    have hm : Small (l ++ [x]) := fun s h => by
      rcases List.mem_append.1 h with h | h
      · exact hs s h
      · rw [List.mem_singleton.1 h]; unfold dl; omega
    have hd : wrap64 (x.f7 + x.f2) = dl x := by unfold dl wrap64; omega
    have hlen : (l ++ [x]).length = l.length + 1 := by simp
    simp only [evenhandedlaw16_BoundsMore.l0]
    rw [if_neg (by omega), rows_eq l (by omega) k (by omega), Option.bind_some, hc, next_eq l c (by omega) hs k (by omega)]
    simp only [Option.bind_some, List.nil_append, List.length_nil]
    rw [if_pos (by omega), if_pos (by simp; omega), rows_eq (l ++ [x]) (by omega) k (by omega), Option.bind_some, next_eq (l ++ [x]) c (by omega) hm k (by omega), Option.bind_some, hd]
    by_cases h6 : x.f6 = true
    · rw [if_pos h6]
      by_cases hle : dl x ≤ c
      · rw [if_pos hle, nxt_ext (m := l ++ [x]) c (fun y => ?_)]
        · simp
        · rw [mem_dls, mem_dls]
          constructor
          · rintro ⟨s, h1, h2⟩; exact ⟨s, List.mem_append_left _ h1, h2⟩
          · rintro ⟨s, h1, h2, h3, h4⟩
            rcases List.mem_append.1 h1 with h1 | h1
            · exact ⟨s, h1, h2, h3, h4⟩
            · rw [List.mem_singleton.1 h1] at h3; omega
      · rw [if_neg hle]
        rcases nxt_more l x c h6 (by omega) with ⟨e1, e2⟩ | ⟨p, e1, e2⟩
        · rw [e1, e2]
          simp [mn]
        · rw [e1, e2]
          by_cases hp : p < dl x
          · simp [mn, hp, show ¬ dl x < p by omega]
          · by_cases hq : dl x < p
            · simp [mn, hp, hq]
            · simp [mn, hp, hq]; omega
    · rw [if_neg h6, nxt_ext (m := l ++ [x]) c (fun y => ?_)]
      · simp
      · rw [mem_dls, mem_dls]
        constructor
        · rintro ⟨s, h1, h2⟩; exact ⟨s, List.mem_append_left _ h1, h2⟩
        · rintro ⟨s, h1, h2, h3, h4⟩
          rcases List.mem_append.1 h1 with h1 | h1
          · exact ⟨s, h1, h2, h3, h4⟩
          · rw [List.mem_singleton.1 h1] at h2; exact absurd h2 h6
  | succ d ih =>
    intro k n hn hk hb
    obtain ⟨k, rfl⟩ : ∃ m, k = m + 1 := ⟨k - 1, by omega⟩
    have hw : wrap64 ((n : Int) + 1) = ((n + 1 : Nat) : Int) := by unfold wrap64; omega
    have hget : rd_T25 l (n : Int) = l.getD n z25 := rfl
    simp only [evenhandedlaw16_BoundsMore.l0]
    rw [if_pos (by omega), if_pos (by omega), hget, hw]
    split
    · rfl
    · split
      · rfl
      · split
        · rfl
        · split
          · rfl
          · refine ih k (n + 1) (by omega) (by omega) (fun s h => ?_)
            rcases (take_succ_mem (by omega) s).1 h with h | h
            · exact hb s h
            · rw [h]; omega
theorem boundsMore_pure (l0 : List (S25)) (x1 : S25) (a2 : Int) (o0 : ∀ y ∈ l0, ok25 y) (m0 : l0.length ≤ 9223372036854775807) (o1 : ok25 x1) (w2 : (Lit.int .u8 a2).wf = true) : ∃ k, evenhandedlaw16_BoundsMore.f k l0 x1.f0 x1.f1 x1.f2 x1.f3 x1.f4 x1.f5 x1.f6 x1.f7 x1.f8 x1.f9 x1.f10 a2 = some true := by
  have hw1 : 0 ≤ a2 ∧ a2 ≤ 255 := (Lit.wf_int_iff _ _).1 w2
  have hj : ∀ (k : Nat) (b : Bool), 3000 ≤ k → (b = false → l0.length ≤ 60 ∧ (-1048576 ≤ x1.f7 ∧ x1.f7 ≤ 1048576 ∧ -1048576 ≤ x1.f2 ∧ x1.f2 ≤ 1048576)) → evenhandedlaw16_BoundsMore.j0 k l0 a2 b x1.f0 x1.f1 x1.f2 x1.f3 x1.f4 x1.f5 x1.f6 x1.f7 x1.f8 x1.f9 x1.f10 = some true := by
    intro k b hk hb
    obtain ⟨k, rfl⟩ : ∃ m, k = m + 1 := ⟨k - 1, by omega⟩
    simp only [evenhandedlaw16_BoundsMore.j0]
    cases b with
    | true => rfl
    | false =>
      obtain ⟨h1, h2⟩ := hb rfl
      exact more_l0 l0 x1 a2 h1 h2 hw1 l0.length k 0 (by omega) (by omega) (by simp)
  obtain ⟨k, hk⟩ : ∃ k, 3000 ≤ k := ⟨3000, Nat.le_refl _⟩
  refine ⟨k, ?_⟩
  unfold evenhandedlaw16_BoundsMore.f
  rw [awake_eq _ (by omega), Option.bind_some, if_pos rfl]
  split
  · exact hj k true hk (by simp)
  · split
    · exact hj k true hk (by simp)
    · split
      · exact hj k true hk (by simp)
      · split
        · exact hj k true hk (by simp)
        · refine hj k _ hk (fun h => ?_)
          have := of_decide_eq_false h
          omega
end Go.Proofs.Ytiljdmlganploaa.PBoundsMore
