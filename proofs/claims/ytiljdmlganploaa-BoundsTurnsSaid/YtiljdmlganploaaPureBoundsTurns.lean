/- The law BoundsTurns, in numbers and lists alone. -/
import Derived.Test.YtiljdmlganploaaPBoundsTurnsx2
import Derived.Test.YtiljdmlganploaaArgBoundsTurns
import Derived.Test.YtiljdmlganploaaComBoundsTurns
import Derived.DataShut
namespace Go.Proofs.Ytiljdmlganploaa.PBoundsTurns
open Go.RowKit Go.Proofs.YtiljdmlganploaaW.PrintWords Go.Proofs.YtiljdmlganploaaW.PrintLast Go.Proofs.YtiljdmlganploaaW.PrintMore
set_option linter.unusedVariables false
/-- What is still to come above a clock. -/
def Ahead (l : List S25) (t : Int) (post : List Int) : Prop :=
  post.Pairwise (· < ·) ∧ (∀ x ∈ post, t < x) ∧ (∀ s ∈ l, s.f6 = true → t < dl s → dl s ∈ post) ∧ ∀ x ∈ post, ∃ s ∈ l, s.f6 = true ∧ dl s = x
theorem ahead_nil {l : List S25} {t : Int} (h : Ahead l t []) : (nxt l t).2 = false :=
  nxt_none.2 fun s hs hh => absurd (h.2.2.1 s hs hh.1 hh.2) (by simp)
theorem ahead_cons {l : List S25} {t p : Int} {ps : List Int} (h : Ahead l t (p :: ps)) : nxt l t = (p, true) ∧ Ahead l p ps := by
  obtain ⟨h1, h2, h3, h4⟩ := h
  have h1' := List.pairwise_cons.1 h1
  refine ⟨nxt_some.2 ⟨?_, fun s hs h6 hc => ?_⟩, h1'.2, h1'.1, fun s hs h6 hc => ?_, fun x hx => h4 x (List.mem_cons_of_mem _ hx)⟩
  · obtain ⟨s, hs, h6, he⟩ := h4 p List.mem_cons_self
    exact ⟨s, hs, h6, by rw [he]; exact h2 p List.mem_cons_self, he⟩
  · rcases List.mem_cons.1 (h3 s hs h6 hc) with hh | hh
    · omega
    · have := h1'.1 _ hh; omega
  · rcases List.mem_cons.1 (h3 s hs h6 (by have := h2 p List.mem_cons_self; omega)) with hh | hh
    · omega
    · exact hh
theorem turns_l1 (l : List S25) (c : Int) (hl : l.length < 1000) (hs : Small l) (hc : wrap64 c = c) (hc2 : 0 ≤ c ∧ c ≤ 255) : ∀ (post : List Int) (k n : Nat) (t : Int) (pre : List Int), pre.length = n → Ahead l t post → n + post.length < 1000 → l.length + post.length + 1 < k →
    evenhandedlaw16_BoundsTurns.l1 k c (l.map up) ((pre ++ post).map (· - c)) t n = some true := by
  intro post
  induction post with
  | nil =>
    intro k n t pre hp ha hn hk
    obtain ⟨k, rfl⟩ : ∃ m, k = m + 1 := ⟨k - 1, by omega⟩
    simp only [evenhandedlaw16_BoundsTurns.l1]
    rw [if_neg (by simp; omega), next_eq l t (by omega) hs k (by simp at hk; omega), Option.bind_some, ahead_nil ha]
    rfl
  | cons p ps ih =>
    intro k n t pre hp ha hn hk
    obtain ⟨k, rfl⟩ : ∃ m, k = m + 1 := ⟨k - 1, by omega⟩
    simp only [List.length_cons] at hn hk
    obtain ⟨h1, h2⟩ := ahead_cons ha
    have hw : wrap64 ((n : Int) + 1) = ((n + 1 : Nat) : Int) := by unfold wrap64; omega
    obtain ⟨s, hs1, hs2, hs3⟩ := ha.2.2.2 p List.mem_cons_self
    have hsm := hs s hs1
    have hr : rd ((pre ++ p :: ps).map (· - c)) (n : Int) = p - c := by
      show ((pre ++ p :: ps).map (· - c)).getD n 0 = p - c
      rw [List.getD_eq_getElem?_getD, List.getElem?_map, List.getElem?_append_right (by omega), hp, Nat.sub_self]
      rfl
    simp only [evenhandedlaw16_BoundsTurns.l1]
    rw [if_pos (by simp; omega), next_eq l t (by omega) hs k (by omega), Option.bind_some, h1]
    rw [if_pos (show (p, true).2 = true from rfl), if_pos (by omega), hr, hc, if_pos (show p = _ by unfold wrap64; omega), hw]
    have h := ih k (n + 1) p (pre ++ [p]) (by simp [hp]) h2 (by omega) (by omega)
    rw [List.append_assoc] at h
    exact h
theorem turns_l0 (l : List S25) (c : Int) (hl : l.length ≤ 60) (hc2 : 0 ≤ c ∧ c ≤ 255) : ∀ (d k n : Nat), n + d = l.length → 1000 + d < k →
    (∀ s ∈ l.take n, -1048576 ≤ s.f7 ∧ s.f7 ≤ 1048576 ∧ s.f2 ≤ 1048576 ∧ -1048576 ≤ s.f2) →
    evenhandedlaw16_BoundsTurns.l0 k l c n = some true := by
  intro d
  induction d with
  | zero =>
    intro k n hn hk hb
    obtain ⟨k, rfl⟩ : ∃ m, k = m + 1 := ⟨k - 1, by omega⟩
    have hc : wrap64 c = c := by unfold wrap64; omega
    rw [List.take_of_length_le (by omega)] at hb
    have hs : Small l := fun s h => by have := hb s h; unfold dl; omega
    simp only [evenhandedlaw16_BoundsTurns.l0]
    rw [if_neg (by omega), rows_eq l (by omega) k (by omega), Option.bind_some, hc, lengths_eq l c (by omega) hs (by omega) (fun s h => by have := hs s h; omega) k (by omega), Option.bind_some]
    have hle := uniq_len (dls l c)
    have hle2 := dls_len l c
    refine turns_l1 l c (by omega) hs hc hc2 (uniq (dls l c)) k 0 c [] rfl ⟨uniq_lt _, fun x hx => ?_, fun s hs h6 h => ?_, fun x hx => ?_⟩ (by omega) (by omega)
    · obtain ⟨s, h1, h2, h3, rfl⟩ := mem_dls.1 ((mem_uniq _ _).1 hx); exact h3
    · exact (mem_uniq _ _).2 (mem_dls.2 ⟨s, hs, h6, h, rfl⟩)
    · obtain ⟨s, h1, h2, h3, rfl⟩ := mem_dls.1 ((mem_uniq _ _).1 hx); exact ⟨s, h1, h2, rfl⟩
  | succ d ih =>
    intro k n hn hk hb
    obtain ⟨k, rfl⟩ : ∃ m, k = m + 1 := ⟨k - 1, by omega⟩
    have hw : wrap64 ((n : Int) + 1) = ((n + 1 : Nat) : Int) := by unfold wrap64; omega
    have hget : rd_T25 l (n : Int) = l.getD n z25 := rfl
    simp only [evenhandedlaw16_BoundsTurns.l0]
    rw [if_pos (by omega), if_pos (by omega), hget, hw]
    split
    · rfl
    · split
      · rfl
      · split
        · rfl
        · split
          · rfl
          · refine ih k (n + 1) (by omega) (by omega) (fun s h => ?_)
            have hx : l.getD n z25 = l[n] := by rw [List.getD_eq_getElem?_getD, List.getElem?_eq_getElem (by omega)]; rfl
            rw [List.take_add_one, List.getElem?_eq_getElem (by omega)] at h
            rcases List.mem_append.1 h with h | h
            · exact hb s h
            · simp at h
              subst h
              rw [← hx]
              omega
theorem boundsTurns_pure (l0 : List (S25)) (a1 : Int) (o0 : ∀ y ∈ l0, ok25 y) (m0 : l0.length ≤ 9223372036854775807) (w1 : (Lit.int .u8 a1).wf = true) : ∃ k, evenhandedlaw16_BoundsTurns.f k l0 a1 = some true := by
  refine ⟨3000, ?_⟩
  have hw := (Lit.wf_int_iff _ _).1 w1
  have hw1 : 0 ≤ a1 ∧ a1 ≤ 255 := hw
  unfold evenhandedlaw16_BoundsTurns.f
  rw [awake_eq _ (by omega), Option.bind_some, if_pos rfl]
  split
  · rfl
  · exact turns_l0 l0 a1 (by omega) hw1 l0.length 3000 0 (by omega) (by omega) (by simp)
end Go.Proofs.Ytiljdmlganploaa.PBoundsTurns
