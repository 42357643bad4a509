/- Seats in plain Lean (own work): who gets which core, and what holds of it. -/
import Derived.Test.YtffpahpbgeillaaAmSlice
namespace Go.AM.Seat
open Go.AM
set_option linter.unusedVariables false
set_option linter.unusedSimpArgs false
abbrev St := (Int → Option Int) × List Bool
def st0 (n : Nat) : St := (fun _ => none, List.replicate n false)
/-- one goes back to the core that it had -/
def stO (old : Int → Option Int) (s : St) (id : Int) : St := match old id with
  | some c => if (s.1 id).isNone && !(s.2.getD c.toNat false) then (upd1 s.1 id (some c), s.2.set c.toNat true) else s
  | none => s
/-- one has the least free core -/
def stN (s : St) (id : Int) : St := if (s.1 id).isSome then s else match s.2.findIdx? (fun b => b == false) with
  | some i => (upd1 s.1 id (some i), s.2.set i true)
  | none => s
def sitSt (n : Nat) (f g : Int → Option Int) (l : List Int) : St := l.foldl stN (l.foldl (stO g) (l.foldl (stO f) (st0 n)))

structure Inv (n : Nat) (l : List Int) (s : St) : Prop where
  len : s.2.length = n
  rng : ∀ a c, s.1 a = some c → 0 ≤ c ∧ c < n ∧ s.2[c.toNat]? = some true ∧ a ∈ l
  inj : ∀ a b c, s.1 a = some c → s.1 b = some c → a = b
  cnt : s.2.count true + (l.filter (fun a => (s.1 a).isNone)).length = l.length

theorem filt_upd {l : List Int} (hn : l.Nodup) {m : Int → Option Int} {id c : Int} (h0 : m id = none) (hm : id ∈ l) : (l.filter (fun a => (upd1 m id (some c) a).isNone)).length + 1 = (l.filter (fun a => (m a).isNone)).length := by
  induction l with
  | nil => simp at hm
  | cons x r ih =>
    simp only [List.nodup_cons] at hn
    by_cases hx : x = id
    · subst hx
      have hr : r.filter (fun a => (upd1 m x (some c) a).isNone) = r.filter (fun a => (m a).isNone) := by
        apply List.filter_congr
        intro a ha
        have : a ≠ x := fun e => hn.1 (e ▸ ha)
        simp [upd1, this]
      rw [List.filter_cons_of_neg (by simp [upd1]), List.filter_cons_of_pos (by simp [h0]), hr]
      simp
    · have hm' : id ∈ r := by
        rcases List.mem_cons.1 hm with e | e
        · exact absurd e.symm hx
        · exact e
      have := ih hn.2 hm'
      have hxx : upd1 m id (some c) x = m x := by simp [upd1, hx]
      cases hmx : m x with
      | none =>
        rw [List.filter_cons_of_pos (by simp [hxx, hmx]), List.filter_cons_of_pos (by simp [hmx])]
        simp only [List.length_cons]; omega
      | some y =>
        rw [List.filter_cons_of_neg (by simp [hxx, hmx]), List.filter_cons_of_neg (by simp [hmx])]
        exact this

theorem Inv.init (n : Nat) (l : List Int) : Inv n l (st0 n) := by
  refine ⟨by simp [st0], fun a c h => by simp [st0] at h, fun a b c h => by simp [st0] at h, ?_⟩
  have h1 : (List.replicate n false).count true = 0 := by rw [List.count_eq_zero]; intro h; simp at h
  have h2 : l.filter (fun a => ((st0 n).1 a).isNone) = l := by rw [List.filter_eq_self]; intro a _; rfl
  rw [h2]
  show (List.replicate n false).count true + _ = _
  rw [h1]; omega

theorem Inv.put {n : Nat} {l : List Int} {s : St} (h : Inv n l s) (hn : l.Nodup) {id : Int} {i : Nat} (h0 : s.1 id = none) (hm : id ∈ l) (hi : s.2[i]? = some false) : Inv n l (upd1 s.1 id (some (i : Int)), s.2.set i true) := by
  have hil : i < s.2.length := (List.getElem?_eq_some_iff.1 hi).1
  have hie : s.2[i] = false := (List.getElem?_eq_some_iff.1 hi).2
  refine ⟨by simp [h.len], ?_, ?_, ?_⟩
  · intro a c hac
    simp only [upd1] at hac
    split at hac
    · rename_i ha; subst ha; cases hac
      exact ⟨by omega, by have := h.len; omega, by simp [hil], hm⟩
    · obtain ⟨h1, h2, h3, h4⟩ := h.rng a c hac
      refine ⟨h1, h2, ?_, h4⟩
      rw [List.getElem?_set]
      split
      · first | rfl | rw [if_pos hil]
      · exact h3
  · intro a b c ha hb
    simp only [upd1] at ha hb
    split at ha <;> split at hb
    · rename_i h1 h2; rw [h1, h2]
    · rename_i h1 h2; cases ha
      obtain ⟨_, _, h3, _⟩ := h.rng b _ hb
      simp [hi] at h3
    · rename_i h1 h2; cases hb
      obtain ⟨_, _, h3, _⟩ := h.rng a _ ha
      simp [hi] at h3
    · exact h.inj a b c ha hb
  · have h1 : (s.2.set i true).count true = s.2.count true + 1 := by
      rw [List.count_set (by omega)]
      simp [hie]
    have h2 := filt_upd hn (c := (i : Int)) h0 hm
    have := h.cnt
    show (s.2.set i true).count true + (l.filter (fun a => (upd1 s.1 id (some (i : Int)) a).isNone)).length = _
    rw [h1]
    omega

theorem Inv.old {n : Nat} {l : List Int} {s : St} (h : Inv n l s) (hn : l.Nodup) {old : Int → Option Int} (ho : ∀ a c, old a = some c → 0 ≤ c ∧ c < n) {id : Int} (hm : id ∈ l) : Inv n l (stO old s id) := by
  unfold stO
  split
  · rename_i c hc
    split
    · rename_i hb
      simp only [Bool.and_eq_true, Bool.not_eq_true', Option.isNone_iff_eq_none] at hb
      obtain ⟨h1, h2⟩ := ho id c hc
      have hlt : c.toNat < s.2.length := by have := h.len; omega
      have := h.put hn hb.1 hm (i := c.toNat) (by rw [List.getElem?_eq_getElem hlt]; rw [List.getD_eq_getElem?_getD, List.getElem?_eq_getElem hlt] at hb; simpa using hb.2)
      rw [Int.toNat_of_nonneg h1] at this
      exact this
    · exact h
  · exact h
theorem Inv.olds {n : Nat} {l : List Int} (hn : l.Nodup) {old : Int → Option Int} (ho : ∀ a c, old a = some c → 0 ≤ c ∧ c < n) : ∀ (r : List Int) {s : St}, (∀ a ∈ r, a ∈ l) → Inv n l s → Inv n l (r.foldl (stO old) s)
  | [], s, _, h => h
  | a :: r, s, hs, h => Inv.olds hn ho r (fun x hx => hs x (by simp [hx])) (h.old hn ho (hs a (by simp)))

/-- there is room for one that has none -/
theorem Inv.free {n : Nat} {l : List Int} {s : St} (h : Inv n l s) (hl : l.length ≤ n) {id : Int} (h0 : s.1 id = none) (hm : id ∈ l) : ∃ i, s.2.findIdx? (fun b => b == false) = some i ∧ s.2[i]? = some false := by
  have h1 : 0 < (l.filter (fun a => (s.1 a).isNone)).length := List.length_pos_of_mem (a := id) (by simp [hm, h0])
  have h2 := h.cnt
  have h3 : s.2.count true < s.2.length := by have := h.len; omega
  have h4 : false ∈ s.2 := by
    apply Classical.byContradiction
    intro hno
    have : ∀ b ∈ s.2, true = b := by
      intro b hb
      cases b with
      | true => rfl
      | false => exact absurd hb hno
    rw [List.count_eq_length.2 this] at h3
    omega
  cases hq : s.2.findIdx? (fun b => b == false) with
  | none =>
    rw [List.findIdx?_eq_none_iff] at hq
    have := hq false h4
    simp at this
  | some i =>
    obtain ⟨hi, hp, _⟩ := List.findIdx?_eq_some_iff_getElem.1 hq
    exact ⟨i, rfl, by rw [List.getElem?_eq_getElem hi]; simpa using hp⟩
theorem Inv.new {n : Nat} {l : List Int} {s : St} (h : Inv n l s) (hn : l.Nodup) (hl : l.length ≤ n) {id : Int} (hm : id ∈ l) : Inv n l (stN s id) ∧ ∃ c, (stN s id).1 id = some c := by
  unfold stN
  cases h0 : s.1 id with
  | some c => simp [h0]; exact h
  | none =>
    obtain ⟨i, h1, h2⟩ := h.free hl h0 hm
    simp only [Option.isSome_none, Bool.false_eq_true, if_false, h1]
    exact ⟨h.put hn h0 hm h2, _, by simp [upd1]; rfl⟩
theorem stN_keeps {s : St} {id a c : Int} (h : s.1 a = some c) : (stN s id).1 a = some c := by
  unfold stN
  cases h0 : s.1 id with
  | some x => simp [h]
  | none =>
    simp only [Option.isSome_none, Bool.false_eq_true, if_false]
    split
    · simp only [upd1]
      rw [if_neg (fun e => by rw [e, h0] at h; cases h)]
      exact h
    · exact h
theorem stO_keeps {old : Int → Option Int} {s : St} {id a c : Int} (h : s.1 a = some c) : (stO old s id).1 a = some c := by
  unfold stO
  split
  · split
    · rename_i hb
      simp only [Bool.and_eq_true, Option.isNone_iff_eq_none] at hb
      simp only [upd1]
      rw [if_neg (fun e => by rw [e, hb.1] at h; cases h)]
      exact h
    · exact h
  · exact h
theorem foldO_keeps {old : Int → Option Int} {a c : Int} : ∀ (r : List Int) {s : St}, s.1 a = some c → (r.foldl (stO old) s).1 a = some c
  | [], s, h => h
  | x :: r, s, h => foldO_keeps r (stO_keeps h)
theorem foldN_keeps {a c : Int} : ∀ (r : List Int) {s : St}, s.1 a = some c → (r.foldl stN s).1 a = some c
  | [], s, h => h
  | x :: r, s, h => foldN_keeps r (stN_keeps h)
theorem foldN_inv {n : Nat} {l : List Int} (hn : l.Nodup) (hl : l.length ≤ n) : ∀ (r : List Int) {s : St}, (∀ a ∈ r, a ∈ l) → Inv n l s → Inv n l (r.foldl stN s) ∧ ∀ a ∈ r, ∃ c, (r.foldl stN s).1 a = some c
  | [], s, _, h => ⟨h, by simp⟩
  | x :: r, s, hs, h => by
    obtain ⟨h1, c, hc⟩ := h.new hn hl (hs x (by simp))
    obtain ⟨h2, h3⟩ := foldN_inv hn hl r (fun y hy => hs y (by simp [hy])) h1
    refine ⟨h2, fun a ha => ?_⟩
    rcases List.mem_cons.1 ha with rfl | ha
    · exact ⟨c, foldN_keeps r hc⟩
    · exact h3 a ha

/-- in the first round all who sat have their cores again -/
theorem foldO_back {f : Int → Option Int} (hinj : ∀ a b c, f a = some c → f b = some c → a = b) (n : Nat) (hf : ∀ a c, f a = some c → 0 ≤ c ∧ c < n) :
    ∀ (r : List Int) (done : List Int) {s : St}, (done ++ r).Nodup → s.2.length = n → (∀ a, a ∉ done → s.1 a = none) → (∀ i : Nat, s.2[i]? = some true → ∃ a ∈ done, f a = some (i : Int)) → (∀ a ∈ done, ∀ c, f a = some c → s.1 a = some c) →
      ∀ a ∈ done ++ r, ∀ c, f a = some c → (r.foldl (stO f) s).1 a = some c
  | [], done, s, _, _, _, _, hb => by simpa using hb
  | x :: r, done, s, hn, hlen, h1, h2, hb => by
    have hxd : x ∉ done := by
      intro hx
      rw [List.nodup_append] at hn
      exact hn.2.2 x hx x (by simp) rfl
    have hx0 := h1 x hxd
    have e : done ++ x :: r = (done ++ [x]) ++ r := by simp
    rw [e] at hn ⊢
    refine foldO_back hinj n hf r (done ++ [x]) hn ?_ ?_ ?_ ?_
    · unfold stO; split
      · split
        · simpa using hlen
        · exact hlen
      · exact hlen
    · intro a ha
      simp only [List.mem_append, List.mem_singleton, not_or] at ha
      unfold stO; split
      · split
        · simp only [upd1]; rw [if_neg ha.2]; exact h1 a ha.1
        · exact h1 a ha.1
      · exact h1 a ha.1
    · intro i hi
      unfold stO at hi
      split at hi
      · rename_i c hc
        split at hi
        · simp only [List.getElem?_set] at hi
          split at hi
          · rename_i hci
            have := hf x c hc
            exact ⟨x, by simp, by rw [hc, ← hci, Int.toNat_of_nonneg this.1]⟩
          · obtain ⟨a, ha, hfa⟩ := h2 i hi
            exact ⟨a, by simp [ha], hfa⟩
        · obtain ⟨a, ha, hfa⟩ := h2 i hi
          exact ⟨a, by simp [ha], hfa⟩
      · obtain ⟨a, ha, hfa⟩ := h2 i hi
        exact ⟨a, by simp [ha], hfa⟩
    · intro a ha c hfa
      simp only [List.mem_append, List.mem_singleton] at ha
      rcases ha with ha | rfl
      · exact stO_keeps (hb a ha c hfa)
      · have hr := hf a c hfa
        have hfree : s.2.getD c.toNat false = false := by
          rw [List.getD_eq_getElem?_getD]
          cases hq : s.2[c.toNat]? with
          | none => rfl
          | some b =>
            cases b with
            | false => rfl
            | true =>
              obtain ⟨y, hy, hfy⟩ := h2 c.toNat hq
              rw [Int.toNat_of_nonneg hr.1] at hfy
              exact absurd (hinj a y c hfa hfy ▸ hy) hxd
        unfold stO
        rw [hfa]
        simp only [hx0, hfree]
        simp [upd1]

/-- WHO SITS WHERE: each has a core of its own, those who sat have theirs, nobody else sits. -/
theorem sit_facts {n : Nat} {f g : Int → Option Int} {l : List Int} (hn : l.Nodup) (hl : l.length ≤ n) (hf : ∀ a c, f a = some c → 0 ≤ c ∧ c < n) (hg : ∀ a c, g a = some c → 0 ≤ c ∧ c < n) :
    (∀ a ∈ l, ∃ c, (sitSt n f g l).1 a = some c) ∧ Inv n l (sitSt n f g l) ∧ ((∀ a b c, f a = some c → f b = some c → a = b) → ∀ a ∈ l, ∀ c, f a = some c → (sitSt n f g l).1 a = some c) := by
  have i1 := Inv.olds hn hf l (fun a h => h) (Inv.init n l)
  have i2 := Inv.olds hn hg l (fun a h => h) i1
  obtain ⟨i3, h3⟩ := foldN_inv hn hl l (fun a h => h) i2
  refine ⟨h3, i3, fun hinj a ha c hc => ?_⟩
  have := foldO_back hinj n hf l [] (s := st0 n) (by simpa using hn) (by simp [st0]) (fun _ _ => rfl) (fun i hi => by
    simp only [st0, List.getElem?_replicate] at hi
    split at hi <;> cases hi) (fun a ha => by simp at ha) a (by simpa using ha) c hc
  exact foldN_keeps l (foldO_keeps l this)
end Go.AM.Seat
namespace Go.AM.Seat
set_option linter.unusedVariables false
set_option linter.unusedSimpArgs false
theorem fold_upd {now : Int → Option Int} : ∀ (ids : List Int) (g : Int → Option Int) (q : Int), ids.foldl (fun g id => upd1 g id (some ((now id).getD 0))) g q = if q ∈ ids then some ((now q).getD 0) else g q
  | [], g, q => by simp
  | a :: r, g, q => by
    rw [List.foldl_cons, fold_upd r]
    by_cases h : q ∈ r
    · simp [h]
    · rw [if_neg h]
      by_cases h2 : q = a
      · subst h2; simp [upd1]
      · simp [upd1, h, h2]
/-- one alone whose core is known has it -/
theorem sit_one {n : Nat} {f g : Int → Option Int} {id : Int} {c : Int} (h0 : f id = none) (h1 : g id = some c) (hc : 0 ≤ c) (hn : c < n) : (sitSt n f g [id]).1 id = some c := by
  have e1 : stO f (st0 n) id = st0 n := by simp [stO, h0]
  have e2 : (stO g (st0 n) id).1 id = some c := by
    have h2 : (List.replicate n false).getD c.toNat false = false := by
      rw [List.getD_eq_getElem?_getD, List.getElem?_replicate]; split <;> rfl
    unfold stO
    rw [h1]
    simp only [st0, h2]
    simp [upd1]
  simp only [sitSt, List.foldl_cons, List.foldl_nil, e1]
  exact stN_keeps e2
end Go.AM.Seat
