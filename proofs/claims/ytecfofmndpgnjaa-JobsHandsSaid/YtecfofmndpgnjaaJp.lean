/- jobs (own work): tasks as a list by id; what each deed does to it. No program in sight. -/
import Derived.Test.YtecfofmndpgnjaaAmFlat
namespace Go.AM.Jb
open Go.AM
set_option linter.unusedSimpArgs false
set_option linter.unusedVariables false
structure Tk where
  id : Int
  e : Int
  p : Int
  sp : Bool
  lv : Bool
  wt : Bool
  ac : Bool
  rl : Int
  gt : Int
  dn : Bool
  ct : Int
def encT (t : Tk) : List AV := [.int .i64 t.id, .int .i64 t.e, .int .i64 t.p, .bool t.sp, .bool t.lv, .bool t.wt, .bool t.ac, .int .i64 t.rl, .int .i64 t.gt, .bool t.dn, .int .i64 t.ct]
def wT : Wd Tk := ⟨11, encT, by decide, fun _ => rfl, fun _ => rfl⟩
theorem wT_W : wT.W = 11 := rfl
theorem wT_enc (t : Tk) : wT.enc t = encT t := rfl
def tk0 : Tk := ⟨0, 0, 0, false, false, false, false, 0, 0, false, 0⟩
def new1 (id e p : Int) (sp : Bool) : Tk := ⟨id, e, p, sp, false, false, false, 0, 0, false, 0⟩

def tf (ts : List Tk) (id : Int) : Option Tk := ts.find? fun t => t.id == id
def tset (ts : List Tk) (t' : Tk) : List Tk := ts.map fun t => if t.id = t'.id then t' else t
def tdel (ts : List Tk) (id : Int) : List Tk := ts.filter fun t => t.id != id
def tins (ts : List Tk) (t : Tk) : List Tk := ts.takeWhile (fun x => decide (x.id < t.id)) ++ t :: ts.dropWhile (fun x => decide (x.id < t.id))
def Srt (ts : List Tk) : Prop := ts.Pairwise fun a b => a.id < b.id

theorem tf_some {ts : List Tk} {id : Int} {t : Tk} (h : tf ts id = some t) : t ∈ ts ∧ t.id = id := ⟨List.mem_of_find?_eq_some h, by simpa using List.find?_some h⟩
theorem tf_none {ts : List Tk} {id : Int} : tf ts id = none ↔ ∀ t ∈ ts, t.id ≠ id := by simp [tf]
theorem Srt.uniq {ts : List Tk} (h : Srt ts) {a b : Tk} (ha : a ∈ ts) (hb : b ∈ ts) (e : a.id = b.id) : a = b := by
  induction ts with
  | nil => cases ha
  | cons x r ih =>
    obtain ⟨h1, h2⟩ := List.pairwise_cons.1 h
    rcases List.mem_cons.1 ha with rfl | ha' <;> rcases List.mem_cons.1 hb with rfl | hb'
    · rfl
    · have := h1 b hb'; omega
    · have := h1 a ha'; omega
    · exact ih h2 ha' hb'
theorem Srt.tf {ts : List Tk} (h : Srt ts) {t : Tk} (ht : t ∈ ts) : tf ts t.id = some t := by
  cases hq : Jb.tf ts t.id with
  | none => exact absurd rfl (tf_none.1 hq t ht)
  | some u => obtain ⟨h1, h2⟩ := tf_some hq; rw [h.uniq h1 ht h2]
theorem tset_srt {ts : List Tk} (h : Srt ts) (t : Tk) : Srt (tset ts t) := by
  unfold Srt tset
  rw [List.pairwise_map]
  exact h.imp fun {a b} hab => by split <;> split <;> (try simp_all) <;> omega
theorem tset_mem {ts : List Tk} {t x : Tk} : x ∈ tset ts t → (x = t ∧ ∃ u ∈ ts, u.id = t.id) ∨ (x ∈ ts ∧ x.id ≠ t.id) := by
  intro h
  obtain ⟨u, hu, rfl⟩ := List.mem_map.1 h
  split
  · rename_i e; exact .inl ⟨rfl, u, hu, e⟩
  · rename_i e; exact .inr ⟨hu, e⟩
theorem tset_of {ts : List Tk} {t x : Tk} (h : (x = t ∧ ∃ u ∈ ts, u.id = t.id) ∨ (x ∈ ts ∧ x.id ≠ t.id)) : x ∈ tset ts t := by
  rcases h with ⟨rfl, u, hu, e⟩ | ⟨h, e⟩
  · exact List.mem_map.2 ⟨u, hu, if_pos e⟩
  · exact List.mem_map.2 ⟨x, h, if_neg e⟩
theorem tset_ids {ts : List Tk} {t : Tk} : (tset ts t).map Tk.id = ts.map Tk.id := by
  unfold tset
  rw [List.map_map]
  apply List.map_congr_left
  intro a _
  simp only [Function.comp]
  split <;> simp_all
theorem tset_len {ts : List Tk} {t : Tk} : (tset ts t).length = ts.length := by simp [tset]
theorem Srt.set {ts : List Tk} (h : Srt ts) {i : Nat} (hi : i < ts.length) {t : Tk} (e : ts[i].id = t.id) : tset ts t = ts.set i t := by
  apply List.ext_getElem (by simp [tset])
  intro j h1 h2
  have hj : j < ts.length := by simpa [tset] using h1
  simp only [tset, List.getElem_map, List.getElem_set]
  by_cases hij : i = j
  · subst hij; rw [if_pos e, if_pos rfl]
  · rw [if_neg hij, if_neg]
    intro e2
    have hp := List.pairwise_iff_getElem.1 h
    rcases Nat.lt_or_ge i j with h3 | h3
    · have := hp i j hi hj h3; omega
    · have := hp j i hj hi (by omega); omega
theorem tdel_srt {ts : List Tk} (h : Srt ts) (id : Int) : Srt (tdel ts id) := h.sublist List.filter_sublist
theorem tdel_mem {ts : List Tk} {id : Int} {x : Tk} : x ∈ tdel ts id ↔ x ∈ ts ∧ x.id ≠ id := by simp [tdel]
theorem Srt.del {ts : List Tk} (h : Srt ts) {i : Nat} (hi : i < ts.length) {id : Int} (e : ts[i].id = id) : tdel ts id = ts.take i ++ ts.drop (i + 1) := by
  have hp := List.pairwise_iff_getElem.1 h
  conv => lhs; rw [← List.take_append_drop i ts, List.drop_eq_getElem_cons hi]
  unfold tdel
  rw [List.filter_append, List.filter_cons, if_neg (by simp [e])]
  congr 1
  · rw [List.filter_eq_self]
    intro a ha
    obtain ⟨j, hj, rfl⟩ := List.getElem_of_mem ha
    rw [List.getElem_take]
    have hjt : j < i := by simp at hj; omega
    have := hp j i (by omega) hi hjt
    simp; omega
  · rw [List.filter_eq_self]
    intro a ha
    obtain ⟨j, hj, rfl⟩ := List.getElem_of_mem ha
    rw [List.getElem_drop]
    have hjt : i + 1 + j < ts.length := by simp at hj; omega
    have := hp i (i + 1 + j) hi hjt (by omega)
    simp; omega
theorem tdel_len {ts : List Tk} (h : Srt ts) {id : Int} {t : Tk} (ht : tf ts id = some t) : (tdel ts id).length + 1 = ts.length := by
  obtain ⟨h1, h2⟩ := tf_some ht
  obtain ⟨i, hi, he⟩ := List.getElem_of_mem h1
  rw [h.del hi (by rw [he]; exact h2)]
  simp; omega
theorem tins_mem {ts : List Tk} {t x : Tk} : x ∈ tins ts t ↔ x = t ∨ x ∈ ts := by
  unfold tins
  rw [List.mem_append, List.mem_cons]
  have : x ∈ ts ↔ x ∈ ts.takeWhile (fun x => decide (x.id < t.id)) ∨ x ∈ ts.dropWhile (fun x => decide (x.id < t.id)) := by
    rw [← List.mem_append, List.takeWhile_append_dropWhile]
  rw [this]
  constructor
  · rintro (h | h | h)
    · exact .inr (.inl h)
    · exact .inl h
    · exact .inr (.inr h)
  · rintro (h | h | h)
    · exact .inr (.inl h)
    · exact .inl h
    · exact .inr (.inr h)
theorem tins_len {ts : List Tk} {t : Tk} : (tins ts t).length = ts.length + 1 := by
  unfold tins
  have := congrArg List.length (List.takeWhile_append_dropWhile (p := fun x : Tk => decide (x.id < t.id)) (l := ts))
  simp only [List.length_append, List.length_cons] at this ⊢
  omega
theorem tins_at {ts : List Tk} (h : Srt ts) {t : Tk} {i : Nat} (hi : i ≤ ts.length) (h1 : ∀ j (hj : j < ts.length), j < i → ts[j].id < t.id) (h2 : ∀ hj : i < ts.length, ¬ ts[i].id < t.id) : tins ts t = ts.take i ++ t :: ts.drop i := by
  have key : ∀ (ts : List Tk) (i : Nat), i ≤ ts.length → (∀ j (hj : j < ts.length), j < i → ts[j].id < t.id) → (∀ hj : i < ts.length, ¬ ts[i].id < t.id) → ts.takeWhile (fun x => decide (x.id < t.id)) = ts.take i ∧ ts.dropWhile (fun x => decide (x.id < t.id)) = ts.drop i := by
    intro ts
    induction ts with
    | nil => intro i hi _ _; simp
    | cons x r ih =>
      intro i hi h1 h2
      cases i with
      | zero =>
        have := h2 (by simp)
        simp only [List.getElem_cons_zero] at this
        simp [List.takeWhile_cons, List.dropWhile_cons, this]
      | succ i =>
        have hx := h1 0 (by simp) (by omega)
        simp only [List.getElem_cons_zero] at hx
        obtain ⟨a1, a2⟩ := ih i (by simpa using hi) (fun j hj hji => by have := h1 (j + 1) (by simpa using hj) (by omega); simpa using this) (fun hj => by have := h2 (by simpa using hj); simpa using this)
        simp [List.takeWhile_cons, List.dropWhile_cons, hx, a1, a2]
  obtain ⟨a1, a2⟩ := key ts i hi h1 h2
  rw [tins, a1, a2]
theorem tins_srt {ts : List Tk} (h : Srt ts) {t : Tk} (hn : tf ts t.id = none) : Srt (tins ts t) := by
  have hn' := tf_none.1 hn
  unfold Srt tins
  have hts : (ts.takeWhile (fun x => decide (x.id < t.id)) ++ ts.dropWhile (fun x => decide (x.id < t.id))).Pairwise (fun a b : Tk => a.id < b.id) := by
    rw [List.takeWhile_append_dropWhile]; exact h
  obtain ⟨p1, p2, p3⟩ := List.pairwise_append.1 hts
  have hd : ∀ x ∈ ts.dropWhile (fun x => decide (x.id < t.id)), t.id < x.id := by
    intro x hx
    have hxts : x ∈ ts := (List.dropWhile_sublist _).mem hx
    have hne := hn' x hxts
    have : ¬ x.id < t.id := by
      intro hlt
      obtain ⟨y, r, hyr⟩ : ∃ y r, ts.dropWhile (fun x => decide (x.id < t.id)) = y :: r := by
        cases hq : ts.dropWhile (fun x => decide (x.id < t.id)) with
        | nil => rw [hq] at hx; cases hx
        | cons y r => exact ⟨y, r, rfl⟩
      have hy : ¬ y.id < t.id := by
        have := List.head?_dropWhile_not (fun x : Tk => decide (x.id < t.id)) ts
        rw [hyr] at this
        simpa using this
      rw [hyr] at hx p2
      rcases List.mem_cons.1 hx with rfl | hx'
      · exact hy hlt
      · have := (List.pairwise_cons.1 p2).1 x hx'; omega
    omega
  have ht : ∀ x ∈ ts.takeWhile (fun x => decide (x.id < t.id)), x.id < t.id := fun x hx => by
    have := List.all_eq_true.1 (List.all_takeWhile (l := ts) (p := fun x : Tk => decide (x.id < t.id))) x hx
    simpa using this
  rw [List.pairwise_append]
  refine ⟨p1, List.pairwise_cons.2 ⟨hd, p2⟩, ?_⟩
  intro a ha b hb
  rcases List.mem_cons.1 hb with rfl | hb
  · exact ht a ha
  · exact p3 a ha b hb

/-! ### deeds -/
def may (e p : Int) : Prop := 1 ≤ e ∧ e ≤ p ∧ p ≤ 1048575
instance (e p : Int) : Decidable (may e p) := by unfold may; exact inferInstance
def tjoin (k : Nat) (ts : List Tk) (id e p : Int) (sp : Bool) : List Tk × Int :=
  if ¬ may e p then (ts, 2) else if (tf ts id).isSome then (ts, 4) else if k ≤ ts.length then (ts, 6) else (tins ts (new1 id e p sp), 0)
def tleave (ts : List Tk) (id : Int) : List Tk × Bool × Int := match tf ts id with
  | none => (ts, false, 5)
  | some t => if t.lv then (ts, false, 13) else if !t.ac then (tdel ts id, true, 0) else (tset ts { t with lv := true }, false, 0)
def tarrive (ts : List Tk) (id : Int) : List Tk × Int := match tf ts id with
  | none => (ts, 5)
  | some t => if !t.sp then (ts, 9) else if t.lv then (ts, 13) else if t.ac || t.wt then (ts, 10) else (tset ts { t with wt := true }, 0)
def tfinish (ts : List Tk) (id : Int) : List Tk × Int := match tf ts id with
  | none => (ts, 5)
  | some t => if !t.ac then (ts, 11) else if t.dn || t.gt == t.e then (ts, 12) else (tset ts { t with dn := true }, 0)
def tgive (ts : List Tk) (id : Int) : List Tk × Bool := match tf ts id with
  | none => (ts, false)
  | some t => if !t.ac || t.gt == t.e then (ts, false) else (tset ts { t with gt := t.gt + 1 }, true)
def skips (t : Tk) : Bool := t.ac || (t.sp && !t.wt)
def rel1 (clock : Int) (t : Tk) : Tk := if skips t then t else { t with wt := false, ac := true, rl := clock, gt := 0, dn := false, ct := t.ct + 1 }
def trel (clock : Int) (ts : List Tk) : List Tk := ts.map (rel1 clock)
def relIds (ts : List Tk) : List Int := (ts.filter fun t => !skips t).map Tk.id
def ends (clock : Int) (t : Tk) : Bool := t.ac && decide (t.rl + t.p ≤ clock)
def idle1 (t : Tk) : Tk := { t with ac := false, rl := 0, gt := 0, dn := false }
def set1 (clock : Int) (t : Tk) : Option Tk := if ends clock t then (if t.lv then none else some (idle1 t)) else some t
def tsettle (clock : Int) (ts : List Tk) : List Tk := ts.filterMap (set1 clock)
def goneIds (clock : Int) (ts : List Tk) : List Int := (ts.filter fun t => ends clock t && t.lv).map Tk.id
def missN (clock : Int) (ts : List Tk) : Nat := (ts.filter fun t => ends clock t && t.gt != t.e).length

theorem rel1_id {clock : Int} {t : Tk} : (rel1 clock t).id = t.id := by unfold rel1; split <;> rfl
theorem set1_id {clock : Int} {t u : Tk} (h : set1 clock t = some u) : u.id = t.id := by
  unfold set1 at h
  split at h
  · split at h
    · cases h
    · cases h; rfl
  · cases h; rfl
theorem trel_srt {clock : Int} {ts : List Tk} (h : Srt ts) : Srt (trel clock ts) := by
  unfold Srt trel
  rw [List.pairwise_map]
  exact h.imp fun {a b} hab => by rw [rel1_id, rel1_id]; exact hab
theorem tsettle_srt {clock : Int} {ts : List Tk} (h : Srt ts) : Srt (tsettle clock ts) := by
  unfold Srt tsettle
  rw [List.pairwise_filterMap]
  exact h.imp fun {a b} hab x hx y hy => by rw [set1_id hx, set1_id hy]; exact hab

/-- what keeps the numbers small -/
structure Okt (n : Int) (t : Tk) : Prop where
  m : may t.e t.p
  g0 : 0 ≤ t.gt
  g1 : t.gt ≤ t.e
  r0 : 0 ≤ t.rl
  r1 : t.rl ≤ 100000
  c0 : 0 ≤ t.ct
  c1 : t.ct ≤ n
  i0 : -9223372036854775808 ≤ t.id
  i1 : t.id ≤ 9223372036854775807
def Ok (n : Int) (ts : List Tk) : Prop := ∀ t ∈ ts, Okt n t
theorem Ok.mono {n m : Int} {ts : List Tk} (h : Ok n ts) (hm : n ≤ m) : Ok m ts := fun t ht => { h t ht with c1 := by have := (h t ht).c1; omega }
theorem Ok.join {n : Int} {ts : List Tk} (h : Ok n ts) (hn : 0 ≤ n) {k : Nat} {id e p : Int} {sp : Bool} (hi : -9223372036854775808 ≤ id ∧ id ≤ 9223372036854775807) : Ok n (tjoin k ts id e p sp).1 := by
  unfold tjoin
  split
  · exact h
  · rename_i hm
    have hm : may e p := Classical.not_not.1 hm
    split
    · exact h
    · split
      · exact h
      · intro t ht
        rcases tins_mem.1 ht with rfl | ht
        · have h1 := hm.1
          exact ⟨hm, by simp [new1], by simp only [new1]; omega, by simp [new1], by simp [new1], by simp [new1], by simpa [new1] using hn, hi.1, hi.2⟩
        · exact h t ht
theorem Ok.tset {n : Int} {ts : List Tk} (h : Ok n ts) {t : Tk} (ht : Okt n t) : Ok n (tset ts t) := by
  intro x hx
  rcases tset_mem hx with ⟨rfl, _⟩ | ⟨hx, _⟩
  · exact ht
  · exact h x hx
theorem Ok.tdel {n : Int} {ts : List Tk} (h : Ok n ts) (id : Int) : Ok n (tdel ts id) := fun t ht => h t (tdel_mem.1 ht).1
theorem Ok.leave {n : Int} {ts : List Tk} (h : Ok n ts) (id : Int) : Ok n (tleave ts id).1 := by
  unfold tleave
  split
  · exact h
  · rename_i t ht
    have ho := h t (tf_some ht).1
    split
    · exact h
    · split
      · exact h.tdel id
      · exact h.tset ⟨ho.m, ho.g0, ho.g1, ho.r0, ho.r1, ho.c0, ho.c1, ho.i0, ho.i1⟩
theorem Ok.arrive {n : Int} {ts : List Tk} (h : Ok n ts) (id : Int) : Ok n (tarrive ts id).1 := by
  unfold tarrive
  split
  · exact h
  · rename_i t ht
    have ho := h t (tf_some ht).1
    split
    · exact h
    · split
      · exact h
      · split
        · exact h
        · exact h.tset ⟨ho.m, ho.g0, ho.g1, ho.r0, ho.r1, ho.c0, ho.c1, ho.i0, ho.i1⟩
theorem Ok.finish {n : Int} {ts : List Tk} (h : Ok n ts) (id : Int) : Ok n (tfinish ts id).1 := by
  unfold tfinish
  split
  · exact h
  · rename_i t ht
    have ho := h t (tf_some ht).1
    split
    · exact h
    · split
      · exact h
      · exact h.tset ⟨ho.m, ho.g0, ho.g1, ho.r0, ho.r1, ho.c0, ho.c1, ho.i0, ho.i1⟩
theorem Ok.give {n : Int} {ts : List Tk} (h : Ok n ts) (id : Int) : Ok n (tgive ts id).1 := by
  unfold tgive
  split
  · exact h
  · rename_i t ht
    have ho := h t (tf_some ht).1
    split
    · exact h
    · rename_i hc
      have : t.gt ≠ t.e := by intro e; simp [e] at hc
      have h1 := ho.g0
      have h2 := ho.g1
      exact h.tset ⟨ho.m, by show 0 ≤ t.gt + 1; omega, by show t.gt + 1 ≤ t.e; omega, ho.r0, ho.r1, ho.c0, ho.c1, ho.i0, ho.i1⟩
theorem Ok.rel {n : Int} {ts : List Tk} (h : Ok n ts) {clock : Int} (h0 : 0 ≤ clock) (h1 : clock ≤ 100000) : Ok (n + 1) (trel clock ts) := by
  intro x hx
  obtain ⟨t, ht, rfl⟩ := List.mem_map.1 hx
  have ho := h t ht
  have hc := ho.c1
  have hc0 := ho.c0
  have hm := ho.m.1
  unfold rel1
  split
  · exact { ho with c1 := by omega }
  · exact ⟨ho.m, Int.le_refl _, by show (0 : Int) ≤ t.e; omega, h0, h1, by show 0 ≤ t.ct + 1; omega, by show t.ct + 1 ≤ n + 1; omega, ho.i0, ho.i1⟩
theorem Ok.settle {n : Int} {ts : List Tk} (h : Ok n ts) (clock : Int) : Ok n (tsettle clock ts) := by
  intro x hx
  obtain ⟨t, ht, hs⟩ := List.mem_filterMap.1 hx
  have ho := h t ht
  have hm := ho.m.1
  unfold set1 at hs
  split at hs
  · split at hs
    · cases hs
    · cases hs
      exact ⟨ho.m, Int.le_refl _, by show (0 : Int) ≤ t.e; omega, Int.le_refl _, by show (0 : Int) ≤ 100000; omega, ho.c0, ho.c1, ho.i0, ho.i1⟩
  · cases hs; exact ho
end Go.AM.Jb
