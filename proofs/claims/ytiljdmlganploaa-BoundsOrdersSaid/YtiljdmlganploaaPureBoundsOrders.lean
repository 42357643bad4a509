/- The law BoundsOrders, in numbers and lists alone. -/
import Derived.Test.YtiljdmlganploaaPBoundsOrdersx2
import Derived.Test.YtiljdmlganploaaArgBoundsOrders
import Derived.Test.YtiljdmlganploaaComBoundsOrders
import Derived.DataShut
namespace Go.Proofs.Ytiljdmlganploaa.PBoundsOrders
open Go.RowKit Go.Proofs.YtiljdmlganploaaW.PrintWords Go.Proofs.YtiljdmlganploaaW.PrintLast Go.Proofs.YtiljdmlganploaaW.PrintMore
set_option linter.unusedVariables false
theorem orders_l1 (xs : List Int) (hl : xs.length < 1000) : ∀ (d k n : Nat), n + d = xs.length → d < k → evenhandedlaw16_BoundsOrders.l1 k xs xs n = some true := by
  intro d
  induction d with
  | zero =>
    intro k n hn hk
    obtain ⟨k, rfl⟩ : ∃ m, k = m + 1 := ⟨k - 1, by omega⟩
    simp only [evenhandedlaw16_BoundsOrders.l1]
    rw [if_neg (by omega)]
  | succ d ih =>
    intro k n hn hk
    obtain ⟨k, rfl⟩ : ∃ m, k = m + 1 := ⟨k - 1, by omega⟩
    have hw : wrap64 ((n : Int) + 1) = ((n + 1 : Nat) : Int) := by unfold wrap64; omega
    simp only [evenhandedlaw16_BoundsOrders.l1]
    rw [if_pos (by omega), if_pos (by omega), if_pos (by omega), if_pos trivial, hw]
    exact ih k (n + 1) (by omega) (by omega)
theorem orders_l0 (l : List S25) (t : Nat) (c : Int) (hl0 : 0 < l.length) (hl : l.length ≤ 60) (ht : t ≤ 255) (hc2 : 0 ≤ c ∧ c ≤ 255) : ∀ (n k : Nat) (acc : List S25), n ≤ l.length → 1000 + n < k →
    (∀ s ∈ acc, -1048576 ≤ s.f7 ∧ s.f7 ≤ 1048576 ∧ s.f2 ≤ 1048576 ∧ -1048576 ≤ s.f2) → (∀ s ∈ acc, s ∈ l) → (∀ i, n ≤ i → i < l.length → l.getD ((i + t) % l.length) z25 ∈ acc) → acc.length + n = l.length →
    evenhandedlaw16_BoundsOrders.l0 k l (t : Int) c acc ((n : Int) - 1) = some true := by
  intro n
  induction n with
  | zero =>
    intro k acc hn hk hb hin hall hlen
    obtain ⟨k, rfl⟩ : ∃ m, k = m + 1 := ⟨k - 1, by omega⟩
    have hsame : ∀ s, s ∈ l → s ∈ acc := by
      intro s hs
      obtain ⟨j, hj, rfl⟩ := List.getElem_of_mem hs
      have h := hall ((j + l.length - t % l.length) % l.length) (by omega) (Nat.mod_lt _ hl0)
      have ht2 := Nat.mod_lt t hl0
      have e : ((j + l.length - t % l.length) % l.length + t) % l.length = j := by
        rw [Nat.add_mod, Nat.mod_mod, ← Nat.add_mod, Nat.add_mod _ t, ← Nat.mod_mod t, ← Nat.add_mod, Nat.mod_mod]
        rw [show j + l.length - t % l.length + t % l.length = j + l.length by omega, Nat.add_mod_right, Nat.mod_eq_of_lt hj]
      rw [e, List.getD_eq_getElem?_getD, List.getElem?_eq_getElem hj] at h
      exact h
    have hsm : Small acc := fun s h => by have := hb s h; unfold dl; omega
    have hsl : Small l := fun s h => hsm s (hsame s h)
    have hext : ∀ x, x ∈ dls l c ↔ x ∈ dls acc c := by
      intro x
      rw [mem_dls, mem_dls]
      exact ⟨fun ⟨s, h1, h2⟩ => ⟨s, hsame s h1, h2⟩, fun ⟨s, h1, h2⟩ => ⟨s, hin s h1, h2⟩⟩
    have hc : wrap64 c = c := by unfold wrap64; omega
    have hle := uniq_len (dls acc c)
    have hle2 := dls_len acc c
    simp only [evenhandedlaw16_BoundsOrders.l0]
    rw [if_neg (by omega), hc, rows_eq l (by omega) k (by omega), Option.bind_some, next_eq l c (by omega) hsl k (by omega), Option.bind_some,
      rows_eq acc (by omega) k (by omega), Option.bind_some, next_eq acc c (by omega) hsm k (by omega), Option.bind_some, Option.bind_some,
      lengths_eq l c (by omega) hsl (by omega) (fun s h => by have := hsl s h; omega) k (by omega), Option.bind_some, Option.bind_some,
      lengths_eq acc c (by omega) hsm (by omega) (fun s h => by have := hsm s h; omega) k (by omega), Option.bind_some, nxt_ext c hext, uniq_ext hext, if_pos rfl, if_neg (by simp)]
    obtain ⟨k, rfl⟩ : ∃ m, k = m + 1 := ⟨k - 1, by omega⟩
    simp only [evenhandedlaw16_BoundsOrders.j2]
    rw [if_neg (by simp)]
    exact orders_l1 _ (by simp; omega) ((uniq (dls acc c)).map (· - c)).length k 0 (by omega) (by simp; omega)
  | succ n ih =>
    intro k acc hn hk hb hin hall hlen
    obtain ⟨k, rfl⟩ : ∃ m, k = m + 1 := ⟨k - 1, by omega⟩
    have hx : ((n + 1 : Nat) : Int) - 1 = (n : Int) := by omega
    have hw : wrap64 ((n : Int) - 1) = (n : Int) - 1 := by unfold wrap64; omega
    have ha : wrap64 (t : Int) = t := by unfold wrap64; omega
    have hs : wrap64 ((n : Int) + t) = ((n + t : Nat) : Int) := by unfold wrap64; omega
    have hm : Int.tmod ((n + t : Nat) : Int) (l.length : Int) = (((n + t) % l.length : Nat) : Int) := rfl
    have hlt := Nat.mod_lt (n + t) hl0
    have hget : rd_T25 l (((n + t) % l.length : Nat) : Int) = l.getD ((n + t) % l.length) z25 := rfl
    have hmem : l.getD ((n + t) % l.length) z25 ∈ l := get_mem l _ z25 hlt
    simp only [evenhandedlaw16_BoundsOrders.l0, hx, ha, hs, hm, hget, hw]
    rw [if_pos (by omega), if_neg (by omega), if_pos (by omega), if_pos (by omega)]
    split
    · rfl
    · split
      · rfl
      · split
        · rfl
        · split
          · rfl
          · rw [if_pos (by omega)]
            refine ih k _ (by omega) (by omega) (fun s h => ?_) (fun s h => ?_) (fun i h1 h2 => ?_) (by simp; omega)
            · rcases List.mem_append.1 h with h | h
              · exact hb s h
              · rw [List.mem_singleton.1 h]
                dsimp only
                omega
            · rcases List.mem_append.1 h with h | h
              · exact hin s h
              · rw [List.mem_singleton.1 h]
                exact hmem
            · rcases Nat.lt_or_ge n i with h | h
              · exact List.mem_append_left _ (hall i (by omega) h2)
              · have : i = n := by omega
                subst this
                exact List.mem_append_right _ (List.mem_singleton.2 rfl)
theorem boundsOrders_pure (l0 : List (S25)) (a1 : Int) (a2 : Int) (o0 : ∀ y ∈ l0, ok25 y) (m0 : l0.length ≤ 9223372036854775807) (w1 : (Lit.int .u8 a1).wf = true) (w2 : (Lit.int .u8 a2).wf = true) : ∃ k, evenhandedlaw16_BoundsOrders.f k l0 a1 a2 = some true := by
  refine ⟨3000, ?_⟩
  have hw1 : 0 ≤ a1 ∧ a1 ≤ 255 := (Lit.wf_int_iff _ _).1 w1
  have hw2 : 0 ≤ a2 ∧ a2 ≤ 255 := (Lit.wf_int_iff _ _).1 w2
  unfold evenhandedlaw16_BoundsOrders.f
  rw [awake_eq _ (by omega), Option.bind_some, if_pos rfl]
  split
  · rfl
  · by_cases h : (l0.length : Int) > 60
    · rw [decide_eq_true h]; rfl
    · rw [decide_eq_false h]
      show evenhandedlaw16_BoundsOrders.l0 2999 l0 a1 a2 [] (wrap64 ((l0.length : Int) - 1)) = some true
      obtain ⟨t, rfl⟩ : ∃ t : Nat, a1 = t := ⟨a1.toNat, by omega⟩
      rw [show wrap64 ((l0.length : Int) - 1) = (l0.length : Int) - 1 by unfold wrap64; omega]
      exact orders_l0 l0 t a2 (by omega) (by omega) (by omega) hw2 l0.length 2999 [] (Nat.le_refl _) (by omega) (by simp) (by simp) (fun i h1 h2 => by omega) (by simp)
end Go.Proofs.Ytiljdmlganploaa.PBoundsOrders
