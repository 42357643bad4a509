/- What the printed functions of bounds tell, in plain lists: each task's row, the deadlines above a clock, the next one, how far all are. -/
import Derived.Test.YtiljdmlganploaaPBoundsMorex1
import Derived.Test.YtiljdmlganploaaArgBoundsMore
import Derived.Test.YtiljdmlganploaaUniq
namespace Go.Proofs.Ytiljdmlganploaa.PBoundsMore
open Go.RowKit Go.Proofs.YtiljdmlganploaaW.PrintWords Go.Proofs.YtiljdmlganploaaW.PrintLast Go.Proofs.YtiljdmlganploaaW.PrintMore
set_option linter.unusedVariables false
def up (s : S25) : S37 := ⟨s.f0, s.f1, s.f2, s.f3, s.f4, s.f5, s.f6, s.f7, s.f8, s.f9, s.f10⟩
/-- The deadline of a task; those above the clock. -/
def dl (s : S25) : Int := s.f7 + s.f2
def dls (l : List S25) (c : Int) : List Int := (l.filter fun s => s.f6 && decide (c < dl s)).map dl
theorem mem_dls {l : List S25} {c x : Int} : x ∈ dls l c ↔ ∃ s ∈ l, s.f6 = true ∧ c < dl s ∧ dl s = x := by
  unfold dls
  simp only [List.mem_map, List.mem_filter, Bool.and_eq_true, decide_eq_true_eq]
  constructor
  · rintro ⟨s, ⟨h1, h2, h3⟩, h4⟩; exact ⟨s, h1, h2, h3, h4⟩
  · rintro ⟨s, h1, h2, h3, h4⟩; exact ⟨s, ⟨h1, h2, h3⟩, h4⟩
theorem dls_len (l : List S25) (c : Int) : (dls l c).length ≤ l.length := by
  unfold dls
  rw [List.length_map]
  exact List.length_filter_le _ _
/-- Sizes at which nothing overflows. -/
def Small (l : List S25) : Prop := ∀ s ∈ l, -4611686018427387904 ≤ dl s ∧ dl s ≤ 4611686018427387904
theorem up_get (l : List S25) (n : Nat) : (l.map up).getD n z37 = up (l.getD n z25) := by
  simp only [List.getD_eq_getElem?_getD, List.getElem?_map]
  cases l[n]? <;> rfl
theorem drop_get {α : Type} (l : List α) (n : Nat) (d : α) (h : n < l.length) : l.drop n = l.getD n d :: l.drop (n + 1) := by
  rw [List.drop_eq_getElem_cons h, List.getD_eq_getElem?_getD, List.getElem?_eq_getElem h]
  rfl
theorem get_mem {α : Type} (l : List α) (n : Nat) (d : α) (h : n < l.length) : l.getD n d ∈ l := by
  rw [List.getD_eq_getElem?_getD, List.getElem?_eq_getElem h]
  exact List.getElem_mem h
theorem rows_l0 (l : List S25) (hl : l.length < 1099511627776) : ∀ (d k n : Nat) (acc : List S37), n + d = l.length → d < k → acc.length = n →
    evenhandedlaw12_Rows.l0 k l acc n = some (acc ++ (l.drop n).map up) := by
  intro d
  induction d with
  | zero =>
    intro k n acc hn hk ha
    obtain ⟨k, rfl⟩ : ∃ m, k = m + 1 := ⟨k - 1, by omega⟩
    simp only [evenhandedlaw12_Rows.l0]
    rw [if_neg (by omega), List.drop_eq_nil_of_le (by omega)]
    simp
  | succ d ih =>
    intro k n acc hn hk ha
    obtain ⟨k, rfl⟩ : ∃ m, k = m + 1 := ⟨k - 1, by omega⟩
    have hw : wrap64 ((n : Int) + 1) = ((n + 1 : Nat) : Int) := by unfold wrap64; omega
    have hi := ih k (n + 1) (acc ++ [up (l.getD n z25)]) (by omega) (by omega) (by simp [ha])
    simp only [evenhandedlaw12_Rows.l0]
    rw [if_pos (by omega), if_pos (by omega)]
    simp only [evenhandedlaw12_Made.f, Option.bind_some]
    rw [if_pos (by omega), hw, drop_get l n z25 (by omega), List.map_cons]
    refine Eq.trans hi ?_
    rw [List.append_assoc]
    rfl
theorem rows_eq (l : List S25) (hl : l.length < 1099511627776) (k : Nat) (hk : l.length < k) : evenhandedlaw12_Rows.f k l = some (l.map up) := by
  have h := rows_l0 l hl l.length k 0 [] (by omega) hk rfl
  unfold evenhandedlaw12_Rows.f
  simpa using h
theorem dls_cons (s : S25) (l : List S25) (c : Int) : dls (s :: l) c = (if s.f6 = true ∧ c < dl s then [dl s] else []) ++ dls l c := by
  unfold dls
  rw [List.filter_cons]
  by_cases h : s.f6 = true ∧ c < dl s
  · rw [if_pos h, if_pos (by simp [h.1, h.2])]; rfl
  · rw [if_neg h, if_neg (by simp only [Bool.and_eq_true, decide_eq_true_eq]; exact h)]; rfl
theorem deadlines_l0 (l : List S25) (c : Int) (hl : l.length < 1099511627776) (hs : Small l) : ∀ (d k n : Nat) (acc : List Int), n + d = l.length → d < k → acc.length ≤ n →
    bounds_deadlines.l0 k c acc (l.map up) (l.length : Int) n = some (uniq (acc ++ dls (l.drop n) c)) := by
  intro d
  induction d with
  | zero =>
    intro k n acc hn hk ha
    obtain ⟨k, rfl⟩ : ∃ m, k = m + 1 := ⟨k - 1, by omega⟩
    simp only [bounds_deadlines.l0]
    rw [if_neg (by omega), List.drop_eq_nil_of_le (by omega)]
    unfold uniqI uniq
    rw [if_pos (by omega)]
    simp [dls]
  | succ d ih =>
    intro k n acc hn hk ha
    obtain ⟨k, rfl⟩ : ∃ m, k = m + 1 := ⟨k - 1, by omega⟩
    have hw : wrap64 ((n : Int) + 1) = ((n + 1 : Nat) : Int) := by unfold wrap64; omega
    have hin : n < l.length := by omega
    have hget : rd_T37 (l.map up) (n : Int) = up (l.getD n z25) := up_get l n
    have hsm := hs _ (get_mem l n z25 hin)
    have hd : wrap64 ((up (l.getD n z25)).f7 + (up (l.getD n z25)).f2) = dl (l.getD n z25) := by
      show wrap64 (dl (l.getD n z25)) = _
      unfold wrap64; omega
    simp only [bounds_deadlines.l0]
    rw [if_pos (by omega), if_pos (by omega), if_pos (by rw [List.length_map]; omega), hget, hd, hw, drop_get l n z25 hin, dls_cons]
    by_cases h6 : (l.getD n z25).f6 = true
    · rw [if_pos (show (up (l.getD n z25)).f6 = true from h6)]
      by_cases hc : c < dl (l.getD n z25)
      · rw [if_pos hc, if_pos (by omega), if_pos ⟨h6, hc⟩, ih k (n + 1) _ (by omega) (by omega) (by simp; omega), List.append_assoc]
      · rw [if_neg hc, if_neg (fun h => hc h.2), ih k (n + 1) _ (by omega) (by omega) (by omega)]; rfl
    · rw [if_neg (show ¬ (up (l.getD n z25)).f6 = true from h6), if_neg (fun h => h6 h.1), ih k (n + 1) _ (by omega) (by omega) (by omega)]; rfl
theorem deadlines_eq (l : List S25) (c : Int) (hl : l.length < 1099511627776) (hs : Small l) (k : Nat) (hk : l.length < k) : bounds_deadlines.f k (l.map up) c = some (uniq (dls l c)) := by
  have h := deadlines_l0 l c hl hs l.length k 0 [] (by omega) hk (Nat.le_refl _)
  unfold bounds_deadlines.f
  rw [List.length_map]
  simpa using h
/-- The next boundary. -/
def nxt (l : List S25) (c : Int) : Int × Bool := match uniq (dls l c) with
  | [] => (0, false)
  | d :: _ => (d, true)
theorem next_eq (l : List S25) (c : Int) (hl : l.length < 1099511627776) (hs : Small l) (k : Nat) (hk : l.length < k) : bounds_Next.f k (l.map up) c = some (nxt l c) := by
  unfold bounds_Next.f nxt
  rw [deadlines_eq l c hl hs k hk, Option.bind_some]
  cases uniq (dls l c) with
  | nil => rw [if_pos (by simp)]
  | cons d ds => rw [if_neg (by simp only [List.length_cons]; omega), if_pos (by simp only [List.length_cons]; omega)]; rfl
theorem lengths_l0 (c : Int) (xs : List Int) (hl : xs.length < 1099511627776) (hs : ∀ x ∈ xs, -4611686018427387904 ≤ x - c ∧ x - c ≤ 4611686018427387904) : ∀ (d k n : Nat) (pre post : List Int), pre.length = n → post.length = d → (∀ x ∈ post, x ∈ xs) → n + d = xs.length → d < k →
    bounds_Lengths.l0 k c (pre ++ post) (xs.length : Int) n = some (pre ++ post.map (· - c)) := by
  intro d
  induction d with
  | zero =>
    intro k n pre post hp hq hm hn hk
    obtain ⟨k, rfl⟩ : ∃ m, k = m + 1 := ⟨k - 1, by omega⟩
    obtain rfl := List.length_eq_zero_iff.1 hq
    simp only [bounds_Lengths.l0]
    rw [if_neg (by omega)]
    simp
  | succ d ih =>
    intro k n pre post hp hq hm hn hk
    obtain ⟨k, rfl⟩ : ∃ m, k = m + 1 := ⟨k - 1, by omega⟩
    have hw : wrap64 ((n : Int) + 1) = ((n + 1 : Nat) : Int) := by unfold wrap64; omega
    match post, hq with
    | p :: ps, hq =>
      have hps : ps.length = d := by simpa using hq
      have hr : rd (pre ++ p :: ps) (n : Int) = p := by
        show (pre ++ p :: ps).getD n 0 = p
        rw [List.getD_eq_getElem?_getD, List.getElem?_append_right (by omega), hp, Nat.sub_self]
        rfl
      have hset : (pre ++ p :: ps).set ((n : Int)).toNat (wrap64 (p - c)) = (pre ++ [p - c]) ++ ps := by
        show (pre ++ p :: ps).set n _ = _
        have hb := hs p (hm p List.mem_cons_self)
        rw [show wrap64 (p - c) = p - c by unfold wrap64; omega, List.set_append_right _ _ (by omega), hp, Nat.sub_self]
        simp
      simp only [bounds_Lengths.l0]
      rw [if_pos (by omega), if_pos (by omega), if_pos (by simp; omega), hr, hw, hset, ih k (n + 1) (pre ++ [p - c]) ps (by simp [hp]) hps (fun x hx => hm x (List.mem_cons_of_mem _ hx)) (by omega) (by omega)]
      simp
theorem lengths_eq (l : List S25) (c : Int) (hl : l.length < 1099511627776) (hs : Small l) (hc : -4611686018427387904 ≤ c ∧ c ≤ 1099511627776) (hs2 : ∀ s ∈ l, dl s - c ≤ 4611686018427387904) (k : Nat) (hk : l.length < k) : bounds_Lengths.f k (l.map up) c = some ((uniq (dls l c)).map (· - c)) := by
  unfold bounds_Lengths.f
  rw [deadlines_eq l c hl hs k hk, Option.bind_some]
  have hle := uniq_len (dls l c)
  have hle2 := dls_len l c
  have h := lengths_l0 c (uniq (dls l c)) (by omega) (fun x hx => by
    obtain ⟨s, h1, h2, h3, rfl⟩ := mem_dls.1 ((mem_uniq _ _).1 hx)
    have := hs2 s h1
    omega) (uniq (dls l c)).length k 0 [] (uniq (dls l c)) rfl rfl (fun x h => h) (by omega) (by omega)
  simpa using h
theorem nxt_ext {l m : List S25} (c : Int) (h : ∀ x, x ∈ dls l c ↔ x ∈ dls m c) : nxt l c = nxt m c := by
  unfold nxt
  rw [uniq_ext h]
/-- The next boundary is the least deadline above the clock. -/
theorem nxt_none {l : List S25} {c : Int} : (nxt l c).2 = false ↔ ∀ s ∈ l, ¬ (s.f6 = true ∧ c < dl s) := by
  unfold nxt
  cases h : uniq (dls l c) with
  | nil =>
    refine ⟨fun _ s hs hh => ?_, fun _ => rfl⟩
    have : dl s ∈ uniq (dls l c) := (mem_uniq _ _).2 (mem_dls.2 ⟨s, hs, hh.1, hh.2, rfl⟩)
    rw [h] at this
    exact absurd this (by simp)
  | cons d ds =>
    refine ⟨fun hh => by simp at hh, fun hh => ?_⟩
    have : d ∈ uniq (dls l c) := by rw [h]; exact List.mem_cons_self
    obtain ⟨s, h1, h2, h3, _⟩ := mem_dls.1 ((mem_uniq _ _).1 this)
    exact absurd ⟨h2, h3⟩ (hh s h1)
theorem nxt_some {l : List S25} {c d : Int} : nxt l c = (d, true) ↔ (∃ s ∈ l, s.f6 = true ∧ c < dl s ∧ dl s = d) ∧ ∀ s ∈ l, s.f6 = true → c < dl s → d ≤ dl s := by
  have hlt := uniq_lt (dls l c)
  unfold nxt
  constructor
  · cases h : uniq (dls l c) with
    | nil => intro hh; simp at hh
    | cons e ds =>
      intro hh
      simp only [Prod.mk.injEq, and_true] at hh
      subst hh
      refine ⟨mem_dls.1 ((mem_uniq _ _).1 (by rw [h]; exact List.mem_cons_self)), fun s hs h6 hc => ?_⟩
      have : dl s ∈ uniq (dls l c) := (mem_uniq _ _).2 (mem_dls.2 ⟨s, hs, h6, hc, rfl⟩)
      rw [h] at this hlt
      rcases List.mem_cons.1 this with hh | hh
      · omega
      · have := (List.pairwise_cons.1 hlt).1 _ hh; omega
  · rintro ⟨h1, h2⟩
    have hd : d ∈ uniq (dls l c) := (mem_uniq _ _).2 (mem_dls.2 h1)
    cases h : uniq (dls l c) with
    | nil => rw [h] at hd; exact absurd hd (by simp)
    | cons e ds =>
      have he : e ∈ uniq (dls l c) := by rw [h]; exact List.mem_cons_self
      obtain ⟨s, g1, g2, g3, g4⟩ := mem_dls.1 ((mem_uniq _ _).1 he)
      have g5 := h2 s g1 g2 g3
      rw [h] at hd hlt
      rcases List.mem_cons.1 hd with hh | hh
      · subst hh; rfl
      · have := (List.pairwise_cons.1 hlt).1 _ hh; omega
theorem awake_eq (k : Nat) (hk : 3 < k) : evenhandedlaw16_awake.f k = some true := by
  unfold evenhandedlaw16_awake.f
  simp only [Option.bind_some]
  have hs : Small [(⟨1, 0, 8, false, false, false, true, 0, 0, false, 0⟩ : S25), (⟨2, 0, 5, false, false, false, true, 0, 0, false, 0⟩ : S25), (⟨3, 0, 4, false, false, false, false, 0, 0, false, 0⟩ : S25)] := by
    intro s h
    simp only [List.mem_cons, List.mem_nil_iff, or_false] at h
    rcases h with rfl | rfl | rfl <;> simp [dl]
  have hu : uniq (dls [(⟨1, 0, 8, false, false, false, true, 0, 0, false, 0⟩ : S25), (⟨2, 0, 5, false, false, false, true, 0, 0, false, 0⟩ : S25), (⟨3, 0, 4, false, false, false, false, 0, 0, false, 0⟩ : S25)] 3) = [5, 8] := by
    refine uniq_eq (by simp) (fun x => ?_)
    simp [dls, dl, or_comm]
  rw [rows_eq _ (by simp) k (by simpa using hk)]
  simp only [Option.bind_some]
  rw [next_eq _ _ (by simp) hs k (by simpa using hk)]
  simp only [Option.bind_some]
  rw [lengths_eq _ _ (by simp) hs (by omega) (fun s h => by have := hs s h; omega) k (by simpa using hk), hu]
  unfold nxt
  rw [hu]
  simp [rd]
end Go.Proofs.Ytiljdmlganploaa.PBoundsMore
