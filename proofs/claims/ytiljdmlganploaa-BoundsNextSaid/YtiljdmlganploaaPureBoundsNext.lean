/- The law BoundsNext, in numbers and lists alone. -/
import Derived.Test.YtiljdmlganploaaPBoundsNextx3
import Derived.Test.YtiljdmlganploaaPBoundsNextx2
import Derived.Test.YtiljdmlganploaaArgBoundsNext
import Derived.Test.YtiljdmlganploaaComBoundsNext
import Derived.DataShut
namespace Go.Proofs.Ytiljdmlganploaa.PBoundsNext
open Go.RowKit Go.Proofs.YtiljdmlganploaaW.PrintWords Go.Proofs.YtiljdmlganploaaW.PrintLast Go.Proofs.YtiljdmlganploaaW.PrintMore
set_option linter.unusedVariables false
set_option linter.unusedSectionVars false
/-- What the reference holds of a part of the tasks. -/
def Least (l : List S25) (c : Int) (r : Int × Bool) : Prop :=
  (r = (0, false) ∧ ∀ s ∈ l, ¬ (s.f6 = true ∧ c < dl s)) ∨ ∃ d, r = (d, true) ∧ (∃ s ∈ l, s.f6 = true ∧ c < dl s ∧ dl s = d) ∧ ∀ s ∈ l, s.f6 = true → c < dl s → d ≤ dl s
theorem least_nxt {l : List S25} {c : Int} {r : Int × Bool} (h : Least l c r) : r = nxt l c := by
  rcases h with ⟨rfl, h⟩ | ⟨d, rfl, h1, h2⟩
  · have h1 := nxt_none.2 h
    unfold nxt at h1 ⊢
    cases hu : uniq (dls l c) with
    | nil => rfl
    | cons d ds => rw [hu] at h1; simp at h1
  · exact (nxt_some.2 ⟨h1, h2⟩).symm
theorem take_succ_mem {l : List S25} {n : Nat} (h : n < l.length) (s : S25) : s ∈ l.take (n + 1) ↔ s ∈ l.take n ∨ s = l.getD n z25 := by
  rw [List.take_add_one, List.getElem?_eq_getElem h, List.mem_append, List.getD_eq_getElem?_getD, List.getElem?_eq_getElem h]
  simp
theorem ref_l0 (l : List S25) (c : Int) (hl : l.length < 1099511627776) (hs : Small l) : ∀ (d k n : Nat) (x : Int) (b : Bool), n + d = l.length → d < k → Least (l.take n) c (x, b) →
    evenhandedref12_Bound.l0 k l c x b n = some (nxt l c) := by
  intro d
  induction d with
  | zero =>
    intro k n x b hn hk h
    obtain ⟨k, rfl⟩ : ∃ m, k = m + 1 := ⟨k - 1, by omega⟩
    rw [List.take_of_length_le (by omega)] at h
    simp only [evenhandedref12_Bound.l0]
    rw [if_neg (by omega), least_nxt h]
  | succ d ih =>
    intro k n x b hn hk h
    obtain ⟨k, rfl⟩ : ∃ m, k = m + 1 := ⟨k - 1, by omega⟩
    have hw : wrap64 ((n : Int) + 1) = ((n + 1 : Nat) : Int) := by unfold wrap64; omega
    have hin : n < l.length := by omega
    have hget : rd_T25 l (n : Int) = l.getD n z25 := rfl
    have hsm := hs _ (get_mem l n z25 hin)
    have hd : wrap64 ((l.getD n z25).f7 + (l.getD n z25).f2) = dl (l.getD n z25) := by
      show wrap64 (dl (l.getD n z25)) = _
      unfold wrap64; omega
    have hmem : ∀ s, s ∈ l.take (n + 1) ↔ s ∈ l.take n ∨ s = l.getD n z25 := take_succ_mem hin
    simp only [evenhandedref12_Bound.l0]
    rw [if_pos (by omega), if_pos (by omega), hget, hd, hw]
    have hskip : ¬ ((l.getD n z25).f6 = true ∧ c < dl (l.getD n z25)) → Least (l.take (n + 1)) c (x, b) := by
      intro hno
      rcases h with ⟨h1, h2⟩ | ⟨e, h1, ⟨s, h2, h3⟩, h4⟩
      · refine .inl ⟨h1, fun s hs => ?_⟩
        rcases (hmem s).1 hs with hs | rfl
        · exact h2 s hs
        · exact hno
      · refine .inr ⟨e, h1, ⟨s, (hmem s).2 (.inl h2), h3⟩, fun s hs h6 hc => ?_⟩
        rcases (hmem s).1 hs with hs | rfl
        · exact h4 s hs h6 hc
        · exact absurd ⟨h6, hc⟩ hno
    by_cases h6 : (l.getD n z25).f6 = true
    · rw [if_pos h6]
      by_cases hc : dl (l.getD n z25) > c
      · rw [if_pos hc]
        have hnew : (∀ s ∈ l.take n, s.f6 = true → c < dl s → dl (l.getD n z25) ≤ dl s) → Least (l.take (n + 1)) c (dl (l.getD n z25), true) := by
          intro hle
          refine .inr ⟨_, rfl, ⟨_, (hmem _).2 (.inr rfl), h6, hc, rfl⟩, fun s hs h6 hc => ?_⟩
          rcases (hmem s).1 hs with hs | rfl
          · exact hle s hs h6 hc
          · exact Int.le_refl _
        by_cases hb : b = true
        · rw [if_pos hb]
          by_cases hx : dl (l.getD n z25) < x
          · rw [if_pos hx]
            refine ih k (n + 1) _ _ (by omega) (by omega) (hnew fun s hs g6 gc => ?_)
            rcases h with ⟨h1, h2⟩ | ⟨e, h1, h2, h4⟩
            · exact absurd ⟨g6, gc⟩ (h2 s hs)
            · have := h4 s hs g6 gc
              simp only [Prod.mk.injEq] at h1
              omega
          · rw [if_neg hx]
            refine ih k (n + 1) _ _ (by omega) (by omega) ?_
            rcases h with ⟨h1, h2⟩ | ⟨e, h1, ⟨s, h2, h3⟩, h4⟩
            · simp only [Prod.mk.injEq] at h1
              rw [h1.2] at hb
              cases hb
            · refine .inr ⟨e, h1, ⟨s, (hmem s).2 (.inl h2), h3⟩, fun s hs g6 gc => ?_⟩
              rcases (hmem s).1 hs with hs | rfl
              · exact h4 s hs g6 gc
              · simp only [Prod.mk.injEq] at h1
                omega
        · rw [if_neg hb]
          refine ih k (n + 1) _ _ (by omega) (by omega) (hnew fun s hs g6 gc => ?_)
          rcases h with ⟨h1, h2⟩ | ⟨e, h1, h2, h4⟩
          · exact absurd ⟨g6, gc⟩ (h2 s hs)
          · simp only [Prod.mk.injEq] at h1
            exact absurd h1.2 hb
      · rw [if_neg hc]
        exact ih k (n + 1) _ _ (by omega) (by omega) (hskip fun hh => hc hh.2)
    · rw [if_neg h6]
      exact ih k (n + 1) _ _ (by omega) (by omega) (hskip fun hh => h6 hh.1)
theorem ref_eq (l : List S25) (c : Int) (hl : l.length < 1099511627776) (hs : Small l) (k : Nat) (hk : l.length < k) : evenhandedref12_Bound.f k l c = some (nxt l c) := by
  unfold evenhandedref12_Bound.f
  exact ref_l0 l c hl hs l.length k 0 0 false (by omega) hk (.inl ⟨rfl, by simp⟩)
section
variable (l : List S25) (c : Int) (hl : l.length ≤ 100) (hs : ∀ s ∈ l, -2199023255552 ≤ dl s ∧ dl s ≤ 2199023255552) (hc : -1099511627776 ≤ c ∧ c ≤ 1099511627776)
/-- How far all are. -/
def far (l : List S25) (c : Int) : List Int := (uniq (dls l c)).map (· - c)
theorem mem_far {l : List S25} {c x : Int} : x ∈ far l c ↔ ∃ s ∈ l, s.f6 = true ∧ c < dl s ∧ dl s = c + x := by
  unfold far
  simp only [List.mem_map, mem_uniq, mem_dls]
  constructor
  · rintro ⟨a, ⟨s, h1, h2, h3, rfl⟩, rfl⟩; exact ⟨s, h1, h2, h3, by omega⟩
  · rintro ⟨s, h1, h2, h3, h4⟩; exact ⟨dl s, ⟨s, h1, h2, h3, rfl⟩, by omega⟩
theorem far_lt (l : List S25) (c : Int) : (far l c).Pairwise (· < ·) := by
  unfold far
  rw [List.pairwise_map]
  exact (uniq_lt _).imp (fun h => by omega)
theorem far_len (l : List S25) (c : Int) : (far l c).length ≤ l.length := by
  unfold far
  rw [List.length_map]
  exact Nat.le_trans (uniq_len _) (dls_len _ _)
theorem rd_mem {xs : List Int} {n : Nat} (h : n < xs.length) : rd xs (n : Int) = xs[n] := by
  show xs.getD n 0 = _
  rw [List.getD_eq_getElem?_getD, List.getElem?_eq_getElem h]
  rfl
include hl hs hc
/-- Each deadline is told: the inner loop finds it. -/
theorem next_l4 (x : Int) (y : Bool) (n14 : Nat) (at_ : Int) : ∀ (d k n : Nat) (b : Bool), n + d = (far l c).length → d < k → (b = true ∨ at_ ∈ (far l c).drop n) →
    (∀ k2, k ≤ k2 + d + 1 → evenhandedlaw16_BoundsNext.l3 k2 l c x y (far l c) (wrap64 ((n14 : Int) + 1)) = some true) →
    evenhandedlaw16_BoundsNext.l4 k l c x y (far l c) n14 at_ b n = some true := by
  have hfl := far_len l c
  intro d
  induction d with
  | zero =>
    intro k n b hn hk hb h
    obtain ⟨k, rfl⟩ : ∃ m, k = m + 1 := ⟨k - 1, by omega⟩
    rw [List.drop_eq_nil_of_le (by omega)] at hb
    simp only [evenhandedlaw16_BoundsNext.l4]
    rw [if_neg (by omega), if_pos (by simpa using hb)]
    exact h k (by omega)
  | succ d ih =>
    intro k n b hn hk hb h
    obtain ⟨k, rfl⟩ : ∃ m, k = m + 1 := ⟨k - 1, by omega⟩
    have hw : wrap64 ((n : Int) + 1) = ((n + 1 : Nat) : Int) := by unfold wrap64; omega
    simp only [evenhandedlaw16_BoundsNext.l4]
    rw [if_pos (by omega), hw]
    by_cases h1 : b = true
    · rw [if_pos h1]
      exact ih k (n + 1) true (by omega) (by omega) (.inl rfl) (fun k2 h2 => h k2 (by omega))
    · rw [if_neg h1, if_pos (by omega), rd_mem (show n < (far l c).length by omega)]
      refine ih k (n + 1) _ (by omega) (by omega) ?_ (fun k2 h2 => h k2 (by omega))
      rcases hb with hb | hb
      · exact absurd hb h1
      · rw [List.drop_eq_getElem_cons (show n < (far l c).length by omega)] at hb
        rcases List.mem_cons.1 hb with hb | hb
        · exact .inl (by rw [hb]; simp)
        · exact .inr hb
theorem next_l3 (x : Int) (y : Bool) (hx : nxt l c = (x, y)) : ∀ (d k n : Nat), n + d = l.length → 1 + 200 * (d + 1) < k →
    evenhandedlaw16_BoundsNext.l3 k l c x y (far l c) n = some true := by
  have hfl := far_len l c
  intro d
  induction d with
  | zero =>
    intro k n hn hk
    obtain ⟨k, rfl⟩ : ∃ m, k = m + 1 := ⟨k - 1, by omega⟩
    simp only [evenhandedlaw16_BoundsNext.l3]
    rw [if_neg (by omega)]
    unfold nxt at hx
    unfold far
    cases hu : uniq (dls l c) with
    | nil =>
      rw [hu] at hx
      simp only [Prod.mk.injEq] at hx
      obtain ⟨rfl, rfl⟩ := hx
      simp
    | cons e es =>
      rw [hu] at hx
      simp only [Prod.mk.injEq] at hx
      obtain ⟨rfl, rfl⟩ := hx
      have hm : e ∈ uniq (dls l c) := by rw [hu]; exact List.mem_cons_self
      obtain ⟨s, h1, h2, h3, rfl⟩ := mem_dls.1 ((mem_uniq _ _).1 hm)
      have hb := hs s h1
      have hww : wrap64 (dl s - c) = dl s - c := by unfold wrap64; omega
      rw [if_pos (by simp), if_pos rfl, if_pos (by simp only [List.length_map, List.length_cons]; omega), hww]
      simp [rd]
  | succ d ih =>
    intro k n hn hk
    obtain ⟨k, rfl⟩ : ∃ m, k = m + 1 := ⟨k - 1, by omega⟩
    have hw : wrap64 ((n : Int) + 1) = ((n + 1 : Nat) : Int) := by unfold wrap64; omega
    have hin : n < l.length := by omega
    have hget : rd_T25 l (n : Int) = l.getD n z25 := rfl
    have hmem := get_mem l n z25 hin
    have hsm := hs _ hmem
    have hd : wrap64 (wrap64 ((l.getD n z25).f7 + (l.getD n z25).f2) - c) = dl (l.getD n z25) - c := by
      show wrap64 (wrap64 (dl (l.getD n z25)) - c) = _
      unfold wrap64; omega
    have go : ∀ b : Bool, (b = true ∨ dl (l.getD n z25) - c ∈ far l c) → evenhandedlaw16_BoundsNext.j7 k l c x y (far l c) n (dl (l.getD n z25) - c) b = some true := by
      intro b hb
      obtain ⟨k, rfl⟩ : ∃ m, k = m + 1 := ⟨k - 1, by omega⟩
      simp only [evenhandedlaw16_BoundsNext.j7]
      refine next_l4 l c hl hs hc x y n _ (far l c).length k 0 b (by omega) (by omega) (by rcases hb with hb | hb; exact .inl hb; exact .inr (by simpa using hb)) (fun k2 h2 => ?_)
      rw [hw]
      exact ih k2 (n + 1) (by omega) (by omega)
    simp only [evenhandedlaw16_BoundsNext.l3]
    rw [if_pos (by omega), if_pos (by omega), hget, hd]
    by_cases h6 : (l.getD n z25).f6 = true
    · rw [if_pos h6]
      by_cases hle : dl (l.getD n z25) - c ≤ 0
      · rw [decide_eq_true hle]; exact go _ (.inl rfl)
      · exact go _ (.inr (mem_far.2 ⟨_, hmem, h6, by omega, by omega⟩))
    · rw [if_neg h6]
      exact go _ (.inl rfl)
/-- Each that is told is a deadline. -/
theorem next_l2 (x : Int) (y : Bool) (n11 : Nat) (h11 : n11 < (far l c).length) : ∀ (d k n : Nat) (b : Bool), n + d = l.length → d < k → (b = true ∨ ∃ s ∈ l.drop n, s.f6 = true ∧ dl s = c + (far l c)[n11]) →
    (∀ k2, k ≤ k2 + d + 1 → evenhandedlaw16_BoundsNext.l1 k2 l c x y (far l c) (wrap64 ((n11 : Int) + 1)) = some true) →
    evenhandedlaw16_BoundsNext.l2 k l c x y (far l c) n11 b n = some true := by
  have hfl := far_len l c
  intro d
  induction d with
  | zero =>
    intro k n b hn hk hb h
    obtain ⟨k, rfl⟩ : ∃ m, k = m + 1 := ⟨k - 1, by omega⟩
    rw [List.drop_eq_nil_of_le (by omega)] at hb
    simp only [evenhandedlaw16_BoundsNext.l2]
    rw [if_neg (by omega), if_pos (by simpa using hb)]
    exact h k (by omega)
  | succ d ih =>
    intro k n b hn hk hb h
    obtain ⟨k, rfl⟩ : ∃ m, k = m + 1 := ⟨k - 1, by omega⟩
    have hw : wrap64 ((n : Int) + 1) = ((n + 1 : Nat) : Int) := by unfold wrap64; omega
    have hin : n < l.length := by omega
    have hget : rd_T25 l (n : Int) = l.getD n z25 := rfl
    have hsm := hs _ (get_mem l n z25 hin)
    have hd : wrap64 ((l.getD n z25).f7 + (l.getD n z25).f2) = dl (l.getD n z25) := by
      show wrap64 (dl (l.getD n z25)) = _
      unfold wrap64; omega
    obtain ⟨s0, g1, g2, g3, g4⟩ := mem_far.1 (List.getElem_mem h11)
    have hb0 := hs s0 g1
    have hx : wrap64 (c + (far l c)[n11]) = c + (far l c)[n11] := by unfold wrap64; omega
    simp only [evenhandedlaw16_BoundsNext.l2]
    rw [if_pos (by omega), hw]
    by_cases h1 : b = true
    · rw [if_pos h1]
      exact ih k (n + 1) true (by omega) (by omega) (.inl rfl) (fun k2 h2 => h k2 (by omega))
    · rw [if_neg h1, if_pos (by omega), hget, hd, rd_mem h11, hx]
      have hb2 : ∃ s ∈ l.drop n, s.f6 = true ∧ dl s = c + (far l c)[n11] := by
        rcases hb with hb | hb
        · exact absurd hb h1
        · exact hb
      rw [drop_get l n z25 hin] at hb2
      obtain ⟨s, h2, h3, h4⟩ := hb2
      by_cases h6 : (l.getD n z25).f6 = true
      · rw [if_pos h6, if_pos (by omega), if_pos (by omega)]
        refine ih k (n + 1) _ (by omega) (by omega) ?_ (fun k2 h2 => h k2 (by omega))
        rcases List.mem_cons.1 h2 with h2 | h2
        · exact .inl (by rw [← h2, h4]; simp)
        · exact .inr ⟨s, h2, h3, h4⟩
      · rw [if_neg h6]
        refine ih k (n + 1) _ (by omega) (by omega) ?_ (fun k2 h2 => h k2 (by omega))
        rcases List.mem_cons.1 h2 with h2 | h2
        · rw [h2] at h3; exact absurd h3 h6
        · exact .inr ⟨s, h2, h3, h4⟩
theorem next_l1 (x : Int) (y : Bool) (hx : nxt l c = (x, y)) : ∀ (d k n : Nat), n + d = (far l c).length → 30000 + 200 * (d + 1) < k →
    evenhandedlaw16_BoundsNext.l1 k l c x y (far l c) n = some true := by
  have hfl := far_len l c
  intro d
  induction d with
  | zero =>
    intro k n hn hk
    obtain ⟨k, rfl⟩ : ∃ m, k = m + 1 := ⟨k - 1, by omega⟩
    simp only [evenhandedlaw16_BoundsNext.l1]
    rw [if_neg (by omega)]
    exact next_l3 l c hl hs hc x y hx l.length k 0 (by omega) (by omega)
  | succ d ih =>
    intro k n hn hk
    obtain ⟨k, rfl⟩ : ∃ m, k = m + 1 := ⟨k - 1, by omega⟩
    have hw : wrap64 ((n : Int) + 1) = ((n + 1 : Nat) : Int) := by unfold wrap64; omega
    have hin : n < (far l c).length := by omega
    obtain ⟨s, h1, h2, h3, h4⟩ := mem_far.1 (List.getElem_mem hin)
    have go : evenhandedlaw16_BoundsNext.j4 k l c x y (far l c) n false = some true := by
      obtain ⟨k, rfl⟩ : ∃ m, k = m + 1 := ⟨k - 1, by omega⟩
      simp only [evenhandedlaw16_BoundsNext.j4]
      rw [if_neg (by simp)]
      refine next_l2 l c hl hs hc x y n hin l.length k 0 false (by omega) (by omega) (.inr ⟨s, by simpa using h1, h2, h4⟩) (fun k2 hk2 => ?_)
      rw [hw]
      exact ih k2 (n + 1) (by omega) (by omega)
    simp only [evenhandedlaw16_BoundsNext.l1]
    rw [if_pos (by omega), if_pos (by omega), rd_mem hin, if_neg (by omega)]
    by_cases hn0 : (n : Int) > 0
    · have hw1 : wrap64 ((n : Int) - 1) = ((n - 1 : Nat) : Int) := by unfold wrap64; omega
      have hlt := List.pairwise_iff_getElem.1 (far_lt l c) (n - 1) n (by omega) hin (by omega)
      rw [if_pos hn0, hw1, if_pos (by omega), if_pos (by omega), rd_mem (show n - 1 < (far l c).length by omega), decide_eq_false (by omega)]
      exact go
    · rw [if_neg hn0]
      exact go
end
theorem next_l0 (l : List S25) (c : Int) (hl : l.length ≤ 100) (hc : -1099511627776 ≤ c ∧ c ≤ 1099511627776) : ∀ (d k n : Nat), n + d = l.length → 60000 + d < k →
    (∀ s ∈ l.take n, -1099511627776 ≤ s.f7 ∧ s.f7 ≤ 1099511627776 ∧ -1099511627776 ≤ s.f2 ∧ s.f2 ≤ 1099511627776) →
    evenhandedlaw16_BoundsNext.l0 k l c n = some true := by
  intro d
  induction d with
  | zero =>
    intro k n hn hk hb
    obtain ⟨k, rfl⟩ : ∃ m, k = m + 1 := ⟨k - 1, by omega⟩
    rw [List.take_of_length_le (by omega)] at hb
    have hs : ∀ s ∈ l, -2199023255552 ≤ dl s ∧ dl s ≤ 2199023255552 := fun s h => by have := hb s h; unfold dl; omega
    have hsm : Small l := fun s h => by have := hs s h; omega
    simp only [evenhandedlaw16_BoundsNext.l0]
    rw [if_neg (by omega), rows_eq l (by omega) k (by omega), Option.bind_some, next_eq l c (by omega) hsm k (by omega), Option.bind_some, ref_eq l c (by omega) hsm k (by omega), Option.bind_some, if_pos rfl]
    obtain ⟨k, rfl⟩ : ∃ m, k = m + 1 := ⟨k - 1, by omega⟩
    simp only [evenhandedlaw16_BoundsNext.j2]
    rw [if_neg (by simp), rows_eq l (by omega) k (by omega), Option.bind_some, lengths_eq l c (by omega) hsm (by omega) (fun s h => by have := hs s h; omega) k (by omega), Option.bind_some]
    have hfl := far_len l c
    exact next_l1 l c hl hs hc _ _ rfl (far l c).length k 0 (by omega) (by omega)
  | succ d ih =>
    intro k n hn hk hb
    obtain ⟨k, rfl⟩ : ∃ m, k = m + 1 := ⟨k - 1, by omega⟩
    have hw : wrap64 ((n : Int) + 1) = ((n + 1 : Nat) : Int) := by unfold wrap64; omega
    have hget : rd_T25 l (n : Int) = l.getD n z25 := rfl
    simp only [evenhandedlaw16_BoundsNext.l0]
    rw [if_pos (by omega), if_pos (by omega), hget, hw]
    split
    · rfl
    · split
      · rfl
      · split
        · rfl
        · split
          · rfl
          · refine ih k (n + 1) (by omega) (by omega) (fun s h => ?_)
            rcases (take_succ_mem (by omega) s).1 h with h | h
            · exact hb s h
            · rw [h]; omega
theorem boundsNext_pure (l0 : List (S25)) (a1 : Int) (o0 : ∀ y ∈ l0, ok25 y) (m0 : l0.length ≤ 9223372036854775807) (w1 : (Lit.int .i64 a1).wf = true) : ∃ k, evenhandedlaw16_BoundsNext.f k l0 a1 = some true := by
  have hj : ∀ (k : Nat) (b : Bool), 70000 ≤ k → (b = false → l0.length ≤ 100 ∧ -1099511627776 ≤ a1 ∧ a1 ≤ 1099511627776) → evenhandedlaw16_BoundsNext.j0 k l0 a1 b = some true := by
    intro k b hk hb
    obtain ⟨k, rfl⟩ : ∃ m, k = m + 1 := ⟨k - 1, by omega⟩
    simp only [evenhandedlaw16_BoundsNext.j0]
    cases b with
    | true => rfl
    | false =>
      obtain ⟨h1, h2⟩ := hb rfl
      exact next_l0 l0 a1 h1 h2 l0.length k 0 (by omega) (by omega) (by simp)
  obtain ⟨k, hk⟩ : ∃ k, 70000 ≤ k := ⟨70000, Nat.le_refl _⟩
  refine ⟨k, ?_⟩
  unfold evenhandedlaw16_BoundsNext.f
  rw [awake_eq _ (by omega), Option.bind_some, if_pos rfl]
  split
  · exact hj k true hk (by simp)
  · split
    · exact hj k true hk (by simp)
    · refine hj k _ hk (fun h => ?_)
      have := of_decide_eq_false h
      omega
end Go.Proofs.Ytiljdmlganploaa.PBoundsNext
