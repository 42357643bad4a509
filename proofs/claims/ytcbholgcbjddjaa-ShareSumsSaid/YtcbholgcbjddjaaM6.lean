/- Texts of the proof in one file (own work): Jp, Re, Rg, Rh, Ri, Rj, Rk, Rl, Rm, Rn, Ro, Rp. -/
import Derived.Test.YtcbholgcbjddjaaM5
/- jobs (own work): tasks as a list by id; what each deed does to it. No program in sight. -/
namespace Go.AM.Jb
open Go.AM
set_option linter.unusedSimpArgs false
set_option linter.unusedVariables false
structure Tk where
  id : Int
  e : Int
  p : Int
  sp : Bool
  lv : Bool
  wt : Bool
  ac : Bool
  rl : Int
  gt : Int
  dn : Bool
  ct : Int
def encT (t : Tk) : List AV := [.int .i64 t.id, .int .i64 t.e, .int .i64 t.p, .bool t.sp, .bool t.lv, .bool t.wt, .bool t.ac, .int .i64 t.rl, .int .i64 t.gt, .bool t.dn, .int .i64 t.ct]
def wT : Wd Tk := ⟨11, encT, by decide, fun _ => rfl, fun _ => rfl⟩
theorem wT_W : wT.W = 11 := rfl
theorem wT_enc (t : Tk) : wT.enc t = encT t := rfl
def tk0 : Tk := ⟨0, 0, 0, false, false, false, false, 0, 0, false, 0⟩
def new1 (id e p : Int) (sp : Bool) : Tk := ⟨id, e, p, sp, false, false, false, 0, 0, false, 0⟩

def tf (ts : List Tk) (id : Int) : Option Tk := ts.find? fun t => t.id == id
def tset (ts : List Tk) (t' : Tk) : List Tk := ts.map fun t => if t.id = t'.id then t' else t
def tdel (ts : List Tk) (id : Int) : List Tk := ts.filter fun t => t.id != id
def tins (ts : List Tk) (t : Tk) : List Tk := ts.takeWhile (fun x => decide (x.id < t.id)) ++ t :: ts.dropWhile (fun x => decide (x.id < t.id))
def Srt (ts : List Tk) : Prop := ts.Pairwise fun a b => a.id < b.id

theorem tf_some {ts : List Tk} {id : Int} {t : Tk} (h : tf ts id = some t) : t ∈ ts ∧ t.id = id := ⟨List.mem_of_find?_eq_some h, by simpa using List.find?_some h⟩
theorem tf_none {ts : List Tk} {id : Int} : tf ts id = none ↔ ∀ t ∈ ts, t.id ≠ id := by simp [tf]
theorem Srt.uniq {ts : List Tk} (h : Srt ts) {a b : Tk} (ha : a ∈ ts) (hb : b ∈ ts) (e : a.id = b.id) : a = b := by
  induction ts with
  | nil => cases ha
  | cons x r ih =>
    obtain ⟨h1, h2⟩ := List.pairwise_cons.1 h
    rcases List.mem_cons.1 ha with rfl | ha' <;> rcases List.mem_cons.1 hb with rfl | hb'
    · rfl
    · have := h1 b hb'; omega
    · have := h1 a ha'; omega
    · exact ih h2 ha' hb'
theorem Srt.tf {ts : List Tk} (h : Srt ts) {t : Tk} (ht : t ∈ ts) : tf ts t.id = some t := by
  cases hq : Jb.tf ts t.id with
  | none => exact absurd rfl (tf_none.1 hq t ht)
  | some u => obtain ⟨h1, h2⟩ := tf_some hq; rw [h.uniq h1 ht h2]
theorem tset_srt {ts : List Tk} (h : Srt ts) (t : Tk) : Srt (tset ts t) := by
  unfold Srt tset
  rw [List.pairwise_map]
  exact h.imp fun {a b} hab => by split <;> split <;> (try simp_all) <;> omega
theorem tset_mem {ts : List Tk} {t x : Tk} : x ∈ tset ts t → (x = t ∧ ∃ u ∈ ts, u.id = t.id) ∨ (x ∈ ts ∧ x.id ≠ t.id) := by
  intro h
  obtain ⟨u, hu, rfl⟩ := List.mem_map.1 h
  split
  · rename_i e; exact .inl ⟨rfl, u, hu, e⟩
  · rename_i e; exact .inr ⟨hu, e⟩
theorem tset_of {ts : List Tk} {t x : Tk} (h : (x = t ∧ ∃ u ∈ ts, u.id = t.id) ∨ (x ∈ ts ∧ x.id ≠ t.id)) : x ∈ tset ts t := by
  rcases h with ⟨rfl, u, hu, e⟩ | ⟨h, e⟩
  · exact List.mem_map.2 ⟨u, hu, if_pos e⟩
  · exact List.mem_map.2 ⟨x, h, if_neg e⟩
theorem tset_ids {ts : List Tk} {t : Tk} : (tset ts t).map Tk.id = ts.map Tk.id := by
  unfold tset
  rw [List.map_map]
  apply List.map_congr_left
  intro a _
  simp only [Function.comp]
  split <;> simp_all
theorem tset_len {ts : List Tk} {t : Tk} : (tset ts t).length = ts.length := by simp [tset]
theorem Srt.set {ts : List Tk} (h : Srt ts) {i : Nat} (hi : i < ts.length) {t : Tk} (e : ts[i].id = t.id) : tset ts t = ts.set i t := by
  apply List.ext_getElem (by simp [tset])
  intro j h1 h2
  have hj : j < ts.length := by simpa [tset] using h1
  simp only [tset, List.getElem_map, List.getElem_set]
  by_cases hij : i = j
  · subst hij; rw [if_pos e, if_pos rfl]
  · rw [if_neg hij, if_neg]
    intro e2
    have hp := List.pairwise_iff_getElem.1 h
    rcases Nat.lt_or_ge i j with h3 | h3
    · have := hp i j hi hj h3; omega
    · have := hp j i hj hi (by omega); omega
theorem tdel_srt {ts : List Tk} (h : Srt ts) (id : Int) : Srt (tdel ts id) := h.sublist List.filter_sublist
theorem tdel_mem {ts : List Tk} {id : Int} {x : Tk} : x ∈ tdel ts id ↔ x ∈ ts ∧ x.id ≠ id := by simp [tdel]
theorem Srt.del {ts : List Tk} (h : Srt ts) {i : Nat} (hi : i < ts.length) {id : Int} (e : ts[i].id = id) : tdel ts id = ts.take i ++ ts.drop (i + 1) := by
  have hp := List.pairwise_iff_getElem.1 h
  conv => lhs; rw [← List.take_append_drop i ts, List.drop_eq_getElem_cons hi]
  unfold tdel
  rw [List.filter_append, List.filter_cons, if_neg (by simp [e])]
  congr 1
  · rw [List.filter_eq_self]
    intro a ha
    obtain ⟨j, hj, rfl⟩ := List.getElem_of_mem ha
    rw [List.getElem_take]
    have hjt : j < i := by simp at hj; omega
    have := hp j i (by omega) hi hjt
    simp; omega
  · rw [List.filter_eq_self]
    intro a ha
    obtain ⟨j, hj, rfl⟩ := List.getElem_of_mem ha
    rw [List.getElem_drop]
    have hjt : i + 1 + j < ts.length := by simp at hj; omega
    have := hp i (i + 1 + j) hi hjt (by omega)
    simp; omega
theorem tdel_len {ts : List Tk} (h : Srt ts) {id : Int} {t : Tk} (ht : tf ts id = some t) : (tdel ts id).length + 1 = ts.length := by
  obtain ⟨h1, h2⟩ := tf_some ht
  obtain ⟨i, hi, he⟩ := List.getElem_of_mem h1
  rw [h.del hi (by rw [he]; exact h2)]
  simp; omega
theorem tins_mem {ts : List Tk} {t x : Tk} : x ∈ tins ts t ↔ x = t ∨ x ∈ ts := by
  unfold tins
  rw [List.mem_append, List.mem_cons]
  have : x ∈ ts ↔ x ∈ ts.takeWhile (fun x => decide (x.id < t.id)) ∨ x ∈ ts.dropWhile (fun x => decide (x.id < t.id)) := by
    rw [← List.mem_append, List.takeWhile_append_dropWhile]
  rw [this]
  constructor
  · rintro (h | h | h)
    · exact .inr (.inl h)
    · exact .inl h
    · exact .inr (.inr h)
  · rintro (h | h | h)
    · exact .inr (.inl h)
    · exact .inl h
    · exact .inr (.inr h)
theorem tins_len {ts : List Tk} {t : Tk} : (tins ts t).length = ts.length + 1 := by
  unfold tins
  have := congrArg List.length (List.takeWhile_append_dropWhile (p := fun x : Tk => decide (x.id < t.id)) (l := ts))
  simp only [List.length_append, List.length_cons] at this ⊢
  omega
theorem tins_at {ts : List Tk} (h : Srt ts) {t : Tk} {i : Nat} (hi : i ≤ ts.length) (h1 : ∀ j (hj : j < ts.length), j < i → ts[j].id < t.id) (h2 : ∀ hj : i < ts.length, ¬ ts[i].id < t.id) : tins ts t = ts.take i ++ t :: ts.drop i := by
  have key : ∀ (ts : List Tk) (i : Nat), i ≤ ts.length → (∀ j (hj : j < ts.length), j < i → ts[j].id < t.id) → (∀ hj : i < ts.length, ¬ ts[i].id < t.id) → ts.takeWhile (fun x => decide (x.id < t.id)) = ts.take i ∧ ts.dropWhile (fun x => decide (x.id < t.id)) = ts.drop i := by
    intro ts
    induction ts with
    | nil => intro i hi _ _; simp
    | cons x r ih =>
      intro i hi h1 h2
      cases i with
      | zero =>
        have := h2 (by simp)
        simp only [List.getElem_cons_zero] at this
        simp [List.takeWhile_cons, List.dropWhile_cons, this]
      | succ i =>
        have hx := h1 0 (by simp) (by omega)
        simp only [List.getElem_cons_zero] at hx
        obtain ⟨a1, a2⟩ := ih i (by simpa using hi) (fun j hj hji => by have := h1 (j + 1) (by simpa using hj) (by omega); simpa using this) (fun hj => by have := h2 (by simpa using hj); simpa using this)
        simp [List.takeWhile_cons, List.dropWhile_cons, hx, a1, a2]
  obtain ⟨a1, a2⟩ := key ts i hi h1 h2
  rw [tins, a1, a2]
theorem tins_srt {ts : List Tk} (h : Srt ts) {t : Tk} (hn : tf ts t.id = none) : Srt (tins ts t) := by
  have hn' := tf_none.1 hn
  unfold Srt tins
  have hts : (ts.takeWhile (fun x => decide (x.id < t.id)) ++ ts.dropWhile (fun x => decide (x.id < t.id))).Pairwise (fun a b : Tk => a.id < b.id) := by
    rw [List.takeWhile_append_dropWhile]; exact h
  obtain ⟨p1, p2, p3⟩ := List.pairwise_append.1 hts
  have hd : ∀ x ∈ ts.dropWhile (fun x => decide (x.id < t.id)), t.id < x.id := by
    intro x hx
    have hxts : x ∈ ts := (List.dropWhile_sublist _).mem hx
    have hne := hn' x hxts
    have : ¬ x.id < t.id := by
      intro hlt
      obtain ⟨y, r, hyr⟩ : ∃ y r, ts.dropWhile (fun x => decide (x.id < t.id)) = y :: r := by
        cases hq : ts.dropWhile (fun x => decide (x.id < t.id)) with
        | nil => rw [hq] at hx; cases hx
        | cons y r => exact ⟨y, r, rfl⟩
      have hy : ¬ y.id < t.id := by
        have := List.head?_dropWhile_not (fun x : Tk => decide (x.id < t.id)) ts
        rw [hyr] at this
        simpa using this
      rw [hyr] at hx p2
      rcases List.mem_cons.1 hx with rfl | hx'
      · exact hy hlt
      · have := (List.pairwise_cons.1 p2).1 x hx'; omega
    omega
  have ht : ∀ x ∈ ts.takeWhile (fun x => decide (x.id < t.id)), x.id < t.id := fun x hx => by
    have := List.all_eq_true.1 (List.all_takeWhile (l := ts) (p := fun x : Tk => decide (x.id < t.id))) x hx
    simpa using this
  rw [List.pairwise_append]
  refine ⟨p1, List.pairwise_cons.2 ⟨hd, p2⟩, ?_⟩
  intro a ha b hb
  rcases List.mem_cons.1 hb with rfl | hb
  · exact ht a ha
  · exact p3 a ha b hb

/-! ### deeds -/
def may (e p : Int) : Prop := 1 ≤ e ∧ e ≤ p ∧ p ≤ 1048575
instance (e p : Int) : Decidable (may e p) := by unfold may; exact inferInstance
def tjoin (k : Nat) (ts : List Tk) (id e p : Int) (sp : Bool) : List Tk × Int :=
  if ¬ may e p then (ts, 2) else if (tf ts id).isSome then (ts, 4) else if k ≤ ts.length then (ts, 6) else (tins ts (new1 id e p sp), 0)
def tleave (ts : List Tk) (id : Int) : List Tk × Bool × Int := match tf ts id with
  | none => (ts, false, 5)
  | some t => if t.lv then (ts, false, 13) else if !t.ac then (tdel ts id, true, 0) else (tset ts { t with lv := true }, false, 0)
def tarrive (ts : List Tk) (id : Int) : List Tk × Int := match tf ts id with
  | none => (ts, 5)
  | some t => if !t.sp then (ts, 9) else if t.lv then (ts, 13) else if t.ac || t.wt then (ts, 10) else (tset ts { t with wt := true }, 0)
def tfinish (ts : List Tk) (id : Int) : List Tk × Int := match tf ts id with
  | none => (ts, 5)
  | some t => if !t.ac then (ts, 11) else if t.dn || t.gt == t.e then (ts, 12) else (tset ts { t with dn := true }, 0)
def tgive (ts : List Tk) (id : Int) : List Tk × Bool := match tf ts id with
  | none => (ts, false)
  | some t => if !t.ac || t.gt == t.e then (ts, false) else (tset ts { t with gt := t.gt + 1 }, true)
def skips (t : Tk) : Bool := t.ac || (t.sp && !t.wt)
def rel1 (clock : Int) (t : Tk) : Tk := if skips t then t else { t with wt := false, ac := true, rl := clock, gt := 0, dn := false, ct := t.ct + 1 }
def trel (clock : Int) (ts : List Tk) : List Tk := ts.map (rel1 clock)
def relIds (ts : List Tk) : List Int := (ts.filter fun t => !skips t).map Tk.id
def ends (clock : Int) (t : Tk) : Bool := t.ac && decide (t.rl + t.p ≤ clock)
def idle1 (t : Tk) : Tk := { t with ac := false, rl := 0, gt := 0, dn := false }
def set1 (clock : Int) (t : Tk) : Option Tk := if ends clock t then (if t.lv then none else some (idle1 t)) else some t
def tsettle (clock : Int) (ts : List Tk) : List Tk := ts.filterMap (set1 clock)
def goneIds (clock : Int) (ts : List Tk) : List Int := (ts.filter fun t => ends clock t && t.lv).map Tk.id
def missN (clock : Int) (ts : List Tk) : Nat := (ts.filter fun t => ends clock t && t.gt != t.e).length

theorem rel1_id {clock : Int} {t : Tk} : (rel1 clock t).id = t.id := by unfold rel1; split <;> rfl
theorem set1_id {clock : Int} {t u : Tk} (h : set1 clock t = some u) : u.id = t.id := by
  unfold set1 at h
  split at h
  · split at h
    · cases h
    · cases h; rfl
  · cases h; rfl
theorem trel_srt {clock : Int} {ts : List Tk} (h : Srt ts) : Srt (trel clock ts) := by
  unfold Srt trel
  rw [List.pairwise_map]
  exact h.imp fun {a b} hab => by rw [rel1_id, rel1_id]; exact hab
theorem tsettle_srt {clock : Int} {ts : List Tk} (h : Srt ts) : Srt (tsettle clock ts) := by
  unfold Srt tsettle
  rw [List.pairwise_filterMap]
  exact h.imp fun {a b} hab x hx y hy => by rw [set1_id hx, set1_id hy]; exact hab

/-- what keeps the numbers small -/
structure Okt (n : Int) (t : Tk) : Prop where
  m : may t.e t.p
  g0 : 0 ≤ t.gt
  g1 : t.gt ≤ t.e
  r0 : 0 ≤ t.rl
  r1 : t.rl ≤ 100000
  c0 : 0 ≤ t.ct
  c1 : t.ct ≤ n
  i0 : -9223372036854775808 ≤ t.id
  i1 : t.id ≤ 9223372036854775807
def Ok (n : Int) (ts : List Tk) : Prop := ∀ t ∈ ts, Okt n t
theorem Ok.mono {n m : Int} {ts : List Tk} (h : Ok n ts) (hm : n ≤ m) : Ok m ts := fun t ht => { h t ht with c1 := by have := (h t ht).c1; omega }
theorem Ok.join {n : Int} {ts : List Tk} (h : Ok n ts) (hn : 0 ≤ n) {k : Nat} {id e p : Int} {sp : Bool} (hi : -9223372036854775808 ≤ id ∧ id ≤ 9223372036854775807) : Ok n (tjoin k ts id e p sp).1 := by
  unfold tjoin
  split
  · exact h
  · rename_i hm
    have hm : may e p := Classical.not_not.1 hm
    split
    · exact h
    · split
      · exact h
      · intro t ht
        rcases tins_mem.1 ht with rfl | ht
        · have h1 := hm.1
          exact ⟨hm, by simp [new1], by simp only [new1]; omega, by simp [new1], by simp [new1], by simp [new1], by simpa [new1] using hn, hi.1, hi.2⟩
        · exact h t ht
theorem Ok.tset {n : Int} {ts : List Tk} (h : Ok n ts) {t : Tk} (ht : Okt n t) : Ok n (tset ts t) := by
  intro x hx
  rcases tset_mem hx with ⟨rfl, _⟩ | ⟨hx, _⟩
  · exact ht
  · exact h x hx
theorem Ok.tdel {n : Int} {ts : List Tk} (h : Ok n ts) (id : Int) : Ok n (tdel ts id) := fun t ht => h t (tdel_mem.1 ht).1
theorem Ok.leave {n : Int} {ts : List Tk} (h : Ok n ts) (id : Int) : Ok n (tleave ts id).1 := by
  unfold tleave
  split
  · exact h
  · rename_i t ht
    have ho := h t (tf_some ht).1
    split
    · exact h
    · split
      · exact h.tdel id
      · exact h.tset ⟨ho.m, ho.g0, ho.g1, ho.r0, ho.r1, ho.c0, ho.c1, ho.i0, ho.i1⟩
theorem Ok.arrive {n : Int} {ts : List Tk} (h : Ok n ts) (id : Int) : Ok n (tarrive ts id).1 := by
  unfold tarrive
  split
  · exact h
  · rename_i t ht
    have ho := h t (tf_some ht).1
    split
    · exact h
    · split
      · exact h
      · split
        · exact h
        · exact h.tset ⟨ho.m, ho.g0, ho.g1, ho.r0, ho.r1, ho.c0, ho.c1, ho.i0, ho.i1⟩
theorem Ok.finish {n : Int} {ts : List Tk} (h : Ok n ts) (id : Int) : Ok n (tfinish ts id).1 := by
  unfold tfinish
  split
  · exact h
  · rename_i t ht
    have ho := h t (tf_some ht).1
    split
    · exact h
    · split
      · exact h
      · exact h.tset ⟨ho.m, ho.g0, ho.g1, ho.r0, ho.r1, ho.c0, ho.c1, ho.i0, ho.i1⟩
theorem Ok.give {n : Int} {ts : List Tk} (h : Ok n ts) (id : Int) : Ok n (tgive ts id).1 := by
  unfold tgive
  split
  · exact h
  · rename_i t ht
    have ho := h t (tf_some ht).1
    split
    · exact h
    · rename_i hc
      have : t.gt ≠ t.e := by intro e; simp [e] at hc
      have h1 := ho.g0
      have h2 := ho.g1
      exact h.tset ⟨ho.m, by show 0 ≤ t.gt + 1; omega, by show t.gt + 1 ≤ t.e; omega, ho.r0, ho.r1, ho.c0, ho.c1, ho.i0, ho.i1⟩
theorem Ok.rel {n : Int} {ts : List Tk} (h : Ok n ts) {clock : Int} (h0 : 0 ≤ clock) (h1 : clock ≤ 100000) : Ok (n + 1) (trel clock ts) := by
  intro x hx
  obtain ⟨t, ht, rfl⟩ := List.mem_map.1 hx
  have ho := h t ht
  have hc := ho.c1
  have hc0 := ho.c0
  have hm := ho.m.1
  unfold rel1
  split
  · exact { ho with c1 := by omega }
  · exact ⟨ho.m, Int.le_refl _, by show (0 : Int) ≤ t.e; omega, h0, h1, by show 0 ≤ t.ct + 1; omega, by show t.ct + 1 ≤ n + 1; omega, ho.i0, ho.i1⟩
theorem Ok.settle {n : Int} {ts : List Tk} (h : Ok n ts) (clock : Int) : Ok n (tsettle clock ts) := by
  intro x hx
  obtain ⟨t, ht, hs⟩ := List.mem_filterMap.1 hx
  have ho := h t ht
  have hm := ho.m.1
  unfold set1 at hs
  split at hs
  · split at hs
    · cases hs
    · cases hs
      exact ⟨ho.m, Int.le_refl _, by show (0 : Int) ≤ t.e; omega, Int.le_refl _, by show (0 : Int) ≤ 100000; omega, ho.c0, ho.c1, ho.i0, ho.i1⟩
  · cases hs; exact ho
end Go.AM.Jb

/- share over tasks that may be (own work): may, length. -/
namespace Go.Proofs.Ytcbholgcbjddjaa.sy
open Go.AM Go.AM.Jb
set_option linter.unusedSimpArgs false
set_option linter.unusedVariables false
variable {G : List Nat → Option (List AV)} {base : Nat} {w0 : World}
set_option maxRecDepth 100000
set_option maxHeartbeats 8000000
variable {H : AHeap}
/-- may a task be? -/
def tmay (t : Tk) : Prop := 1 ≤ t.e ∧ t.e ≤ t.p ∧ t.p ≤ 1048575
instance (t : Tk) : Decidable (tmay t) := by unfold tmay; infer_instance
theorem may20_p (t : Tk) : Pt (kn G base w0) 20 [.agg (encT t)] H (.bool (decide (tmay t))) H := by
  refine Pt.pure ?_ rfl
  refine Pt.fn (n := 18) (rs := [.tmp 2]) Try.func20 (b := _) rfl rfl rfl (by decide) ?_
  simp only [numbered, encT]
  by_cases h1 : 1 ≤ t.e
  · by_cases h2 : t.e ≤ t.p
    · by_cases h3 : t.p ≤ 1048575
      · refine D.sq (D.ks (.a <| .e [(2, AV.bool false), (1, AV.ptr (Loc.own (List.length H)) 0)] (hnew H (AObj.row 51 11 [AV.int IntKind.i64 (Tk.id t), AV.int IntKind.i64 (Tk.e t), AV.int IntKind.i64 (Tk.p t), AV.bool (Tk.sp t), AV.bool (Tk.lv t), AV.bool (Tk.wt t), AV.bool (Tk.ac t), AV.int IntKind.i64 (Tk.rl t), AV.int IntKind.i64 (Tk.gt t), AV.bool (Tk.dn t), AV.int IntKind.i64 (Tk.ct t)]))) (by kernel_rfl) (D.sq (D.ks (.a <| .q (@hat_nn H (AObj.row 51 11 [AV.int IntKind.i64 (Tk.id t), AV.int IntKind.i64 (Tk.e t), AV.int IntKind.i64 (Tk.p t), AV.bool (Tk.sp t), AV.bool (Tk.lv t), AV.bool (Tk.wt t), AV.bool (Tk.ac t), AV.int IntKind.i64 (Tk.rl t), AV.int IntKind.i64 (Tk.gt t), AV.bool (Tk.dn t), AV.int IntKind.i64 (Tk.ct t)])) <| .y (show 1 ≤ Tk.e t by omega) <| .a <| .q (@hat_nn H (AObj.row 51 11 [AV.int IntKind.i64 (Tk.id t), AV.int IntKind.i64 (Tk.e t), AV.int IntKind.i64 (Tk.p t), AV.bool (Tk.sp t), AV.bool (Tk.lv t), AV.bool (Tk.wt t), AV.bool (Tk.ac t), AV.int IntKind.i64 (Tk.rl t), AV.int IntKind.i64 (Tk.gt t), AV.bool (Tk.dn t), AV.int IntKind.i64 (Tk.ct t)])) <| .a <| .q (@hat_nn H (AObj.row 51 11 [AV.int IntKind.i64 (Tk.id t), AV.int IntKind.i64 (Tk.e t), AV.int IntKind.i64 (Tk.p t), AV.bool (Tk.sp t), AV.bool (Tk.lv t), AV.bool (Tk.wt t), AV.bool (Tk.ac t), AV.int IntKind.i64 (Tk.rl t), AV.int IntKind.i64 (Tk.gt t), AV.bool (Tk.dn t), AV.int IntKind.i64 (Tk.ct t)])) <| .y (show Tk.e t ≤ Tk.p t by omega) <| .a <| .q (@hat_nn H (AObj.row 51 11 [AV.int IntKind.i64 (Tk.id t), AV.int IntKind.i64 (Tk.e t), AV.int IntKind.i64 (Tk.p t), AV.bool (Tk.sp t), AV.bool (Tk.lv t), AV.bool (Tk.wt t), AV.bool (Tk.ac t), AV.int IntKind.i64 (Tk.rl t), AV.int IntKind.i64 (Tk.gt t), AV.bool (Tk.dn t), AV.int IntKind.i64 (Tk.ct t)])) <| .y (show Tk.p t ≤ 1048575 by omega) <| .e [(2, AV.bool true)] (hnew H (AObj.row 51 11 [AV.int IntKind.i64 (Tk.id t), AV.int IntKind.i64 (Tk.e t), AV.int IntKind.i64 (Tk.p t), AV.bool (Tk.sp t), AV.bool (Tk.lv t), AV.bool (Tk.wt t), AV.bool (Tk.ac t), AV.int IntKind.i64 (Tk.rl t), AV.int IntKind.i64 (Tk.gt t), AV.bool (Tk.dn t), AV.int IntKind.i64 (Tk.ct t)]))) (by kernel_rfl) (D.ret (Kf_by (AV.bool true) (.r (AV.bool true)) (by kernel_rfl) ?_)))))
        exact ⟨by rw [decide_eq_true (show tmay t from ⟨h1, h2, h3⟩)], Keep.new _ _⟩
      · refine D.sq (D.ks (.a <| .e [(2, AV.bool false), (1, AV.ptr (Loc.own (List.length H)) 0)] (hnew H (AObj.row 51 11 [AV.int IntKind.i64 (Tk.id t), AV.int IntKind.i64 (Tk.e t), AV.int IntKind.i64 (Tk.p t), AV.bool (Tk.sp t), AV.bool (Tk.lv t), AV.bool (Tk.wt t), AV.bool (Tk.ac t), AV.int IntKind.i64 (Tk.rl t), AV.int IntKind.i64 (Tk.gt t), AV.bool (Tk.dn t), AV.int IntKind.i64 (Tk.ct t)]))) (by kernel_rfl) (D.sq (D.ks (.a <| .q (@hat_nn H (AObj.row 51 11 [AV.int IntKind.i64 (Tk.id t), AV.int IntKind.i64 (Tk.e t), AV.int IntKind.i64 (Tk.p t), AV.bool (Tk.sp t), AV.bool (Tk.lv t), AV.bool (Tk.wt t), AV.bool (Tk.ac t), AV.int IntKind.i64 (Tk.rl t), AV.int IntKind.i64 (Tk.gt t), AV.bool (Tk.dn t), AV.int IntKind.i64 (Tk.ct t)])) <| .y (show 1 ≤ Tk.e t by omega) <| .a <| .q (@hat_nn H (AObj.row 51 11 [AV.int IntKind.i64 (Tk.id t), AV.int IntKind.i64 (Tk.e t), AV.int IntKind.i64 (Tk.p t), AV.bool (Tk.sp t), AV.bool (Tk.lv t), AV.bool (Tk.wt t), AV.bool (Tk.ac t), AV.int IntKind.i64 (Tk.rl t), AV.int IntKind.i64 (Tk.gt t), AV.bool (Tk.dn t), AV.int IntKind.i64 (Tk.ct t)])) <| .a <| .q (@hat_nn H (AObj.row 51 11 [AV.int IntKind.i64 (Tk.id t), AV.int IntKind.i64 (Tk.e t), AV.int IntKind.i64 (Tk.p t), AV.bool (Tk.sp t), AV.bool (Tk.lv t), AV.bool (Tk.wt t), AV.bool (Tk.ac t), AV.int IntKind.i64 (Tk.rl t), AV.int IntKind.i64 (Tk.gt t), AV.bool (Tk.dn t), AV.int IntKind.i64 (Tk.ct t)])) <| .y (show Tk.e t ≤ Tk.p t by omega) <| .a <| .q (@hat_nn H (AObj.row 51 11 [AV.int IntKind.i64 (Tk.id t), AV.int IntKind.i64 (Tk.e t), AV.int IntKind.i64 (Tk.p t), AV.bool (Tk.sp t), AV.bool (Tk.lv t), AV.bool (Tk.wt t), AV.bool (Tk.ac t), AV.int IntKind.i64 (Tk.rl t), AV.int IntKind.i64 (Tk.gt t), AV.bool (Tk.dn t), AV.int IntKind.i64 (Tk.ct t)])) <| .o (show ¬ (Tk.p t ≤ 1048575) by omega) <| .e [(2, AV.bool false)] (hnew H (AObj.row 51 11 [AV.int IntKind.i64 (Tk.id t), AV.int IntKind.i64 (Tk.e t), AV.int IntKind.i64 (Tk.p t), AV.bool (Tk.sp t), AV.bool (Tk.lv t), AV.bool (Tk.wt t), AV.bool (Tk.ac t), AV.int IntKind.i64 (Tk.rl t), AV.int IntKind.i64 (Tk.gt t), AV.bool (Tk.dn t), AV.int IntKind.i64 (Tk.ct t)]))) (by kernel_rfl) (D.ret (Kf_by (AV.bool false) (.r (AV.bool false)) (by kernel_rfl) ?_)))))
        exact ⟨by rw [decide_eq_false (show ¬ tmay t from fun h => h3 h.2.2)], Keep.new _ _⟩
    · refine D.sq (D.ks (.a <| .e [(2, AV.bool false), (1, AV.ptr (Loc.own (List.length H)) 0)] (hnew H (AObj.row 51 11 [AV.int IntKind.i64 (Tk.id t), AV.int IntKind.i64 (Tk.e t), AV.int IntKind.i64 (Tk.p t), AV.bool (Tk.sp t), AV.bool (Tk.lv t), AV.bool (Tk.wt t), AV.bool (Tk.ac t), AV.int IntKind.i64 (Tk.rl t), AV.int IntKind.i64 (Tk.gt t), AV.bool (Tk.dn t), AV.int IntKind.i64 (Tk.ct t)]))) (by kernel_rfl) (D.sq (D.ks (.a <| .q (@hat_nn H (AObj.row 51 11 [AV.int IntKind.i64 (Tk.id t), AV.int IntKind.i64 (Tk.e t), AV.int IntKind.i64 (Tk.p t), AV.bool (Tk.sp t), AV.bool (Tk.lv t), AV.bool (Tk.wt t), AV.bool (Tk.ac t), AV.int IntKind.i64 (Tk.rl t), AV.int IntKind.i64 (Tk.gt t), AV.bool (Tk.dn t), AV.int IntKind.i64 (Tk.ct t)])) <| .y (show 1 ≤ Tk.e t by omega) <| .a <| .q (@hat_nn H (AObj.row 51 11 [AV.int IntKind.i64 (Tk.id t), AV.int IntKind.i64 (Tk.e t), AV.int IntKind.i64 (Tk.p t), AV.bool (Tk.sp t), AV.bool (Tk.lv t), AV.bool (Tk.wt t), AV.bool (Tk.ac t), AV.int IntKind.i64 (Tk.rl t), AV.int IntKind.i64 (Tk.gt t), AV.bool (Tk.dn t), AV.int IntKind.i64 (Tk.ct t)])) <| .a <| .q (@hat_nn H (AObj.row 51 11 [AV.int IntKind.i64 (Tk.id t), AV.int IntKind.i64 (Tk.e t), AV.int IntKind.i64 (Tk.p t), AV.bool (Tk.sp t), AV.bool (Tk.lv t), AV.bool (Tk.wt t), AV.bool (Tk.ac t), AV.int IntKind.i64 (Tk.rl t), AV.int IntKind.i64 (Tk.gt t), AV.bool (Tk.dn t), AV.int IntKind.i64 (Tk.ct t)])) <| .o (show ¬ (Tk.e t ≤ Tk.p t) by omega) <| .e [(2, AV.bool false)] (hnew H (AObj.row 51 11 [AV.int IntKind.i64 (Tk.id t), AV.int IntKind.i64 (Tk.e t), AV.int IntKind.i64 (Tk.p t), AV.bool (Tk.sp t), AV.bool (Tk.lv t), AV.bool (Tk.wt t), AV.bool (Tk.ac t), AV.int IntKind.i64 (Tk.rl t), AV.int IntKind.i64 (Tk.gt t), AV.bool (Tk.dn t), AV.int IntKind.i64 (Tk.ct t)]))) (by kernel_rfl) (D.ret (Kf_by (AV.bool false) (.r (AV.bool false)) (by kernel_rfl) ?_)))))
      exact ⟨by rw [decide_eq_false (show ¬ tmay t from fun h => h2 h.2.1)], Keep.new _ _⟩
  · refine D.sq (D.ks (.a <| .e [(2, AV.bool false), (1, AV.ptr (Loc.own (List.length H)) 0)] (hnew H (AObj.row 51 11 [AV.int IntKind.i64 (Tk.id t), AV.int IntKind.i64 (Tk.e t), AV.int IntKind.i64 (Tk.p t), AV.bool (Tk.sp t), AV.bool (Tk.lv t), AV.bool (Tk.wt t), AV.bool (Tk.ac t), AV.int IntKind.i64 (Tk.rl t), AV.int IntKind.i64 (Tk.gt t), AV.bool (Tk.dn t), AV.int IntKind.i64 (Tk.ct t)]))) (by kernel_rfl) (D.sq (D.ks (.a <| .q (@hat_nn H (AObj.row 51 11 [AV.int IntKind.i64 (Tk.id t), AV.int IntKind.i64 (Tk.e t), AV.int IntKind.i64 (Tk.p t), AV.bool (Tk.sp t), AV.bool (Tk.lv t), AV.bool (Tk.wt t), AV.bool (Tk.ac t), AV.int IntKind.i64 (Tk.rl t), AV.int IntKind.i64 (Tk.gt t), AV.bool (Tk.dn t), AV.int IntKind.i64 (Tk.ct t)])) <| .o (show ¬ (1 ≤ Tk.e t) by omega) <| .e [(2, AV.bool false)] (hnew H (AObj.row 51 11 [AV.int IntKind.i64 (Tk.id t), AV.int IntKind.i64 (Tk.e t), AV.int IntKind.i64 (Tk.p t), AV.bool (Tk.sp t), AV.bool (Tk.lv t), AV.bool (Tk.wt t), AV.bool (Tk.ac t), AV.int IntKind.i64 (Tk.rl t), AV.int IntKind.i64 (Tk.gt t), AV.bool (Tk.dn t), AV.int IntKind.i64 (Tk.ct t)]))) (by kernel_rfl) (D.ret (Kf_by (AV.bool false) (.r (AV.bool false)) (by kernel_rfl) ?_)))))
    exact ⟨by rw [decide_eq_false (show ¬ tmay t from fun h => h1 h.1)], Keep.new _ _⟩
theorem low_one (a : Nat) : low a 1 = (.tuple [rt a 1, .int .i64 0]) := by simp [low]
theorem length_p (t : Tk) (e p : Nat) (he : t.e = e) (hp : t.p = p) (h1 : 1 ≤ e) (h2 : e ≤ p) (h3 : p ≤ 1048575) (a b : Nat) (hab : a ≤ b) (hb : b < 1048576) :
    Pt (kn G base w0) 21 [.agg (encT t), .int .i64 a, .int .i64 b] H (low ((b - a) * (e / Nat.gcd e p)) (p / Nat.gcd e p)) H := by
  refine Pt.pure ?_ rfl
  refine Pt.fn (n := 37) (rs := [.cell 6 37, .tmp 7]) Try.func21 (b := _) rfl rfl rfl (by decide) ?_
  simp only [numbered, encT, he, hp]
  have p1 := fun H => sub_p (G := G) (base := base) (w0 := w0) (H := H) b 1 a 1 (by omega) (by omega) (by omega) (by omega) (by omega) (by omega) (Nat.gcd_one_right _) (Nat.gcd_one_right _) (by omega)
  simp only [Nat.mul_one, low_one] at p1
  have p2 := fun H => of_p (G := G) (base := base) (w0 := w0) (H := H) e p (by omega) (by omega) (by omega)
  have hg : 0 < Nat.gcd e p := Nat.gcd_pos_of_pos_left _ h1
  have q1 := div_lt e (Nat.gcd e p) 1048576 (by omega)
  have q2 := div_lt p (Nat.gcd e p) 1048576 (by omega)
  have q3 : 0 < p / Nat.gcd e p := Nat.div_pos (Nat.le_of_dvd (by omega) (Nat.gcd_dvd_right _ _)) hg
  have q4 : Nat.gcd (e / Nat.gcd e p) (p / Nat.gcd e p) = 1 := by
    rw [Nat.gcd_div (Nat.gcd_dvd_left _ _) (Nat.gcd_dvd_right _ _), Nat.div_self hg]
  generalize e / Nat.gcd e p = e' at *
  generalize p / Nat.gcd e p = p' at *
  have p3 := fun H => mul_p (G := G) (base := base) (w0 := w0) (H := H) (b - a) 1 e' p' (by omega) (by omega) (by omega) (by omega) (by omega) q3 (Nat.gcd_one_right _) q4
  simp only [Nat.one_mul] at p3
  refine D.sq (D.ks (.a <| .e [(7, AV.int IntKind.i64 0), (6, AV.ptr (Loc.own (List.length (hnew H (AObj.row 51 11 [AV.int IntKind.i64 (Tk.id t), AV.int IntKind.i64 (↑e : Int), AV.int IntKind.i64 (↑p : Int), AV.bool (Tk.sp t), AV.bool (Tk.lv t), AV.bool (Tk.wt t), AV.bool (Tk.ac t), AV.int IntKind.i64 (Tk.rl t), AV.int IntKind.i64 (Tk.gt t), AV.bool (Tk.dn t), AV.int IntKind.i64 (Tk.ct t)])))) 0), (3, AV.ptr (Loc.own (List.length H)) 0)] (hnew (hnew H (AObj.row 51 11 [AV.int IntKind.i64 (Tk.id t), AV.int IntKind.i64 (↑e : Int), AV.int IntKind.i64 (↑p : Int), AV.bool (Tk.sp t), AV.bool (Tk.lv t), AV.bool (Tk.wt t), AV.bool (Tk.ac t), AV.int IntKind.i64 (Tk.rl t), AV.int IntKind.i64 (Tk.gt t), AV.bool (Tk.dn t), AV.int IntKind.i64 (Tk.ct t)])) (AObj.row 37 2 [AV.int IntKind.i64 0, AV.int IntKind.i64 0]))) (by kernel_rfl) (D.sq (D.ks (.c (@p1 (hnew (hnew H (AObj.row 51 11 [AV.int IntKind.i64 (Tk.id t), AV.int IntKind.i64 (↑e : Int), AV.int IntKind.i64 (↑p : Int), AV.bool (Tk.sp t), AV.bool (Tk.lv t), AV.bool (Tk.wt t), AV.bool (Tk.ac t), AV.int IntKind.i64 (Tk.rl t), AV.int IntKind.i64 (Tk.gt t), AV.bool (Tk.dn t), AV.int IntKind.i64 (Tk.ct t)])) (AObj.row 37 2 [AV.int IntKind.i64 0, AV.int IntKind.i64 0]))) <| .h (st_top (H := hnew (hnew H (AObj.row 51 11 [AV.int IntKind.i64 (Tk.id t), AV.int IntKind.i64 (↑e : Int), AV.int IntKind.i64 (↑p : Int), AV.bool (Tk.sp t), AV.bool (Tk.lv t), AV.bool (Tk.wt t), AV.bool (Tk.ac t), AV.int IntKind.i64 (Tk.rl t), AV.int IntKind.i64 (Tk.gt t), AV.bool (Tk.dn t), AV.int IntKind.i64 (Tk.ct t)])) (AObj.row 37 2 [AV.int IntKind.i64 0, AV.int IntKind.i64 0])) (t := 37) (e := 2) (cs := [AV.int IntKind.i64 0, AV.int IntKind.i64 0]) (off := 0) (vs := [AV.int IntKind.i64 (↑(b - a) : Int), AV.int IntKind.i64 1]) (cs' := [AV.int IntKind.i64 (↑(b - a) : Int), AV.int IntKind.i64 1]) rfl rfl rfl) <| .e [(9, AV.int IntKind.i64 0), (8, AV.ptr (Loc.own (List.length (hnew (hnew H (AObj.row 51 11 [AV.int IntKind.i64 (Tk.id t), AV.int IntKind.i64 (↑e : Int), AV.int IntKind.i64 (↑p : Int), AV.bool (Tk.sp t), AV.bool (Tk.lv t), AV.bool (Tk.wt t), AV.bool (Tk.ac t), AV.int IntKind.i64 (Tk.rl t), AV.int IntKind.i64 (Tk.gt t), AV.bool (Tk.dn t), AV.int IntKind.i64 (Tk.ct t)])) (AObj.row 37 2 [AV.int IntKind.i64 0, AV.int IntKind.i64 0])))) 0)] (hnew (hnew (hnew H (AObj.row 51 11 [AV.int IntKind.i64 (Tk.id t), AV.int IntKind.i64 (↑e : Int), AV.int IntKind.i64 (↑p : Int), AV.bool (Tk.sp t), AV.bool (Tk.lv t), AV.bool (Tk.wt t), AV.bool (Tk.ac t), AV.int IntKind.i64 (Tk.rl t), AV.int IntKind.i64 (Tk.gt t), AV.bool (Tk.dn t), AV.int IntKind.i64 (Tk.ct t)])) (AObj.row 37 2 [AV.int IntKind.i64 0, AV.int IntKind.i64 0])) (AObj.row 37 2 [AV.int IntKind.i64 (↑(b - a) : Int), AV.int IntKind.i64 1]))) (by kernel_rfl) (D.sq (D.sq (D.ks (.a <| .e [(21, AV.bool false)] (hnew (hnew (hnew H (AObj.row 51 11 [AV.int IntKind.i64 (Tk.id t), AV.int IntKind.i64 (↑e : Int), AV.int IntKind.i64 (↑p : Int), AV.bool (Tk.sp t), AV.bool (Tk.lv t), AV.bool (Tk.wt t), AV.bool (Tk.ac t), AV.int IntKind.i64 (Tk.rl t), AV.int IntKind.i64 (Tk.gt t), AV.bool (Tk.dn t), AV.int IntKind.i64 (Tk.ct t)])) (AObj.row 37 2 [AV.int IntKind.i64 0, AV.int IntKind.i64 0])) (AObj.row 37 2 [AV.int IntKind.i64 (↑(b - a) : Int), AV.int IntKind.i64 1]))) (by kernel_rfl) (D.cf (by kernel_rfl) (D.skip (Ks_n' (D.sq (D.ks (.a <| .q (hat_up (hat_up (@hat_nn H (AObj.row 51 11 [AV.int IntKind.i64 (Tk.id t), AV.int IntKind.i64 (↑e : Int), AV.int IntKind.i64 (↑p : Int), AV.bool (Tk.sp t), AV.bool (Tk.lv t), AV.bool (Tk.wt t), AV.bool (Tk.ac t), AV.int IntKind.i64 (Tk.rl t), AV.int IntKind.i64 (Tk.gt t), AV.bool (Tk.dn t), AV.int IntKind.i64 (Tk.ct t)])) (AObj.row 37 2 [AV.int IntKind.i64 0, AV.int IntKind.i64 0])) (AObj.row 37 2 [AV.int IntKind.i64 (↑(b - a) : Int), AV.int IntKind.i64 1])) <| .a <| .q (hat_up (hat_up (@hat_nn H (AObj.row 51 11 [AV.int IntKind.i64 (Tk.id t), AV.int IntKind.i64 (↑e : Int), AV.int IntKind.i64 (↑p : Int), AV.bool (Tk.sp t), AV.bool (Tk.lv t), AV.bool (Tk.wt t), AV.bool (Tk.ac t), AV.int IntKind.i64 (Tk.rl t), AV.int IntKind.i64 (Tk.gt t), AV.bool (Tk.dn t), AV.int IntKind.i64 (Tk.ct t)])) (AObj.row 37 2 [AV.int IntKind.i64 0, AV.int IntKind.i64 0])) (AObj.row 37 2 [AV.int IntKind.i64 (↑(b - a) : Int), AV.int IntKind.i64 1])) <| .c (@p2 (hnew (hnew (hnew H (AObj.row 51 11 [AV.int IntKind.i64 (Tk.id t), AV.int IntKind.i64 (↑e : Int), AV.int IntKind.i64 (↑p : Int), AV.bool (Tk.sp t), AV.bool (Tk.lv t), AV.bool (Tk.wt t), AV.bool (Tk.ac t), AV.int IntKind.i64 (Tk.rl t), AV.int IntKind.i64 (Tk.gt t), AV.bool (Tk.dn t), AV.int IntKind.i64 (Tk.ct t)])) (AObj.row 37 2 [AV.int IntKind.i64 0, AV.int IntKind.i64 0])) (AObj.row 37 2 [AV.int IntKind.i64 (↑(b - a) : Int), AV.int IntKind.i64 1]))) <| .h (st_top (H := hnew (hnew (hnew H (AObj.row 51 11 [AV.int IntKind.i64 (Tk.id t), AV.int IntKind.i64 (↑e : Int), AV.int IntKind.i64 (↑p : Int), AV.bool (Tk.sp t), AV.bool (Tk.lv t), AV.bool (Tk.wt t), AV.bool (Tk.ac t), AV.int IntKind.i64 (Tk.rl t), AV.int IntKind.i64 (Tk.gt t), AV.bool (Tk.dn t), AV.int IntKind.i64 (Tk.ct t)])) (AObj.row 37 2 [AV.int IntKind.i64 0, AV.int IntKind.i64 0])) (AObj.row 37 2 [AV.int IntKind.i64 (↑(b - a) : Int), AV.int IntKind.i64 1])) (t := 37) (e := 2) (cs := [AV.int IntKind.i64 0, AV.int IntKind.i64 0]) (off := 0) (vs := [AV.int IntKind.i64 (↑e' : Int), AV.int IntKind.i64 (↑p' : Int)]) (cs' := [AV.int IntKind.i64 (↑e' : Int), AV.int IntKind.i64 (↑p' : Int)]) rfl rfl rfl) <| .e [(10, AV.ptr (Loc.own (List.length (hnew (hnew (hnew H (AObj.row 51 11 [AV.int IntKind.i64 (Tk.id t), AV.int IntKind.i64 (↑e : Int), AV.int IntKind.i64 (↑p : Int), AV.bool (Tk.sp t), AV.bool (Tk.lv t), AV.bool (Tk.wt t), AV.bool (Tk.ac t), AV.int IntKind.i64 (Tk.rl t), AV.int IntKind.i64 (Tk.gt t), AV.bool (Tk.dn t), AV.int IntKind.i64 (Tk.ct t)])) (AObj.row 37 2 [AV.int IntKind.i64 0, AV.int IntKind.i64 0])) (AObj.row 37 2 [AV.int IntKind.i64 (↑(b - a) : Int), AV.int IntKind.i64 1])))) 0)] (hnew (hnew (hnew (hnew H (AObj.row 51 11 [AV.int IntKind.i64 (Tk.id t), AV.int IntKind.i64 (↑e : Int), AV.int IntKind.i64 (↑p : Int), AV.bool (Tk.sp t), AV.bool (Tk.lv t), AV.bool (Tk.wt t), AV.bool (Tk.ac t), AV.int IntKind.i64 (Tk.rl t), AV.int IntKind.i64 (Tk.gt t), AV.bool (Tk.dn t), AV.int IntKind.i64 (Tk.ct t)])) (AObj.row 37 2 [AV.int IntKind.i64 0, AV.int IntKind.i64 0])) (AObj.row 37 2 [AV.int IntKind.i64 (↑(b - a) : Int), AV.int IntKind.i64 1])) (AObj.row 37 2 [AV.int IntKind.i64 (↑e' : Int), AV.int IntKind.i64 (↑p' : Int)]))) (by kernel_rfl) (D.sq (D.ks (.q (hat_up (@hat_nn (hnew (hnew H (AObj.row 51 11 [AV.int IntKind.i64 (Tk.id t), AV.int IntKind.i64 (↑e : Int), AV.int IntKind.i64 (↑p : Int), AV.bool (Tk.sp t), AV.bool (Tk.lv t), AV.bool (Tk.wt t), AV.bool (Tk.ac t), AV.int IntKind.i64 (Tk.rl t), AV.int IntKind.i64 (Tk.gt t), AV.bool (Tk.dn t), AV.int IntKind.i64 (Tk.ct t)])) (AObj.row 37 2 [AV.int IntKind.i64 0, AV.int IntKind.i64 0])) (AObj.row 37 2 [AV.int IntKind.i64 (↑(b - a) : Int), AV.int IntKind.i64 1])) (AObj.row 37 2 [AV.int IntKind.i64 (↑e' : Int), AV.int IntKind.i64 (↑p' : Int)])) <| .q (@hat_nn (hnew (hnew (hnew H (AObj.row 51 11 [AV.int IntKind.i64 (Tk.id t), AV.int IntKind.i64 (↑e : Int), AV.int IntKind.i64 (↑p : Int), AV.bool (Tk.sp t), AV.bool (Tk.lv t), AV.bool (Tk.wt t), AV.bool (Tk.ac t), AV.int IntKind.i64 (Tk.rl t), AV.int IntKind.i64 (Tk.gt t), AV.bool (Tk.dn t), AV.int IntKind.i64 (Tk.ct t)])) (AObj.row 37 2 [AV.int IntKind.i64 0, AV.int IntKind.i64 0])) (AObj.row 37 2 [AV.int IntKind.i64 (↑(b - a) : Int), AV.int IntKind.i64 1])) (AObj.row 37 2 [AV.int IntKind.i64 (↑e' : Int), AV.int IntKind.i64 (↑p' : Int)])) <| .c (@p3 (hnew (hnew (hnew (hnew H (AObj.row 51 11 [AV.int IntKind.i64 (Tk.id t), AV.int IntKind.i64 (↑e : Int), AV.int IntKind.i64 (↑p : Int), AV.bool (Tk.sp t), AV.bool (Tk.lv t), AV.bool (Tk.wt t), AV.bool (Tk.ac t), AV.int IntKind.i64 (Tk.rl t), AV.int IntKind.i64 (Tk.gt t), AV.bool (Tk.dn t), AV.int IntKind.i64 (Tk.ct t)])) (AObj.row 37 2 [AV.int IntKind.i64 0, AV.int IntKind.i64 0])) (AObj.row 37 2 [AV.int IntKind.i64 (↑(b - a) : Int), AV.int IntKind.i64 1])) (AObj.row 37 2 [AV.int IntKind.i64 (↑e' : Int), AV.int IntKind.i64 (↑p' : Int)]))) <| .h (st_up (st_up (st_top (H := hnew H (AObj.row 51 11 [AV.int IntKind.i64 (Tk.id t), AV.int IntKind.i64 (↑e : Int), AV.int IntKind.i64 (↑p : Int), AV.bool (Tk.sp t), AV.bool (Tk.lv t), AV.bool (Tk.wt t), AV.bool (Tk.ac t), AV.int IntKind.i64 (Tk.rl t), AV.int IntKind.i64 (Tk.gt t), AV.bool (Tk.dn t), AV.int IntKind.i64 (Tk.ct t)])) (t := 37) (e := 2) (cs := [AV.int IntKind.i64 0, AV.int IntKind.i64 0]) (off := 0) (vs := [AV.int IntKind.i64 (↑((b - a) * e' / Nat.gcd ((b - a) * e') p') : Int), AV.int IntKind.i64 (↑(p' / Nat.gcd ((b - a) * e') p') : Int)]) (cs' := [AV.int IntKind.i64 (↑((b - a) * e' / Nat.gcd ((b - a) * e') p') : Int), AV.int IntKind.i64 (↑(p' / Nat.gcd ((b - a) * e') p') : Int)]) rfl rfl rfl) (AObj.row 37 2 [AV.int IntKind.i64 (↑(b - a) : Int), AV.int IntKind.i64 1])) (AObj.row 37 2 [AV.int IntKind.i64 (↑e' : Int), AV.int IntKind.i64 (↑p' : Int)])) <| .e [(7, AV.int IntKind.i64 0)] (hnew (hnew (hnew (hnew H (AObj.row 51 11 [AV.int IntKind.i64 (Tk.id t), AV.int IntKind.i64 (↑e : Int), AV.int IntKind.i64 (↑p : Int), AV.bool (Tk.sp t), AV.bool (Tk.lv t), AV.bool (Tk.wt t), AV.bool (Tk.ac t), AV.int IntKind.i64 (Tk.rl t), AV.int IntKind.i64 (Tk.gt t), AV.bool (Tk.dn t), AV.int IntKind.i64 (Tk.ct t)])) (AObj.row 37 2 [AV.int IntKind.i64 (↑((b - a) * e' / Nat.gcd ((b - a) * e') p') : Int), AV.int IntKind.i64 (↑(p' / Nat.gcd ((b - a) * e') p') : Int)])) (AObj.row 37 2 [AV.int IntKind.i64 (↑(b - a) : Int), AV.int IntKind.i64 1])) (AObj.row 37 2 [AV.int IntKind.i64 (↑e' : Int), AV.int IntKind.i64 (↑p' : Int)]))) (by kernel_rfl) (D.ret (Kf_by (AV.tuple [AV.agg [AV.int IntKind.i64 (↑((b - a) * e' / Nat.gcd ((b - a) * e') p') : Int), AV.int IntKind.i64 (↑(p' / Nat.gcd ((b - a) * e') p') : Int)], AV.int IntKind.i64 0]) (.v (ld_ownA (c := (Kn.c (kn G base w0))) (t := 37) (hat_up (hat_up (@hat_nn (hnew H (AObj.row 51 11 [AV.int IntKind.i64 (Tk.id t), AV.int IntKind.i64 (↑e : Int), AV.int IntKind.i64 (↑p : Int), AV.bool (Tk.sp t), AV.bool (Tk.lv t), AV.bool (Tk.wt t), AV.bool (Tk.ac t), AV.int IntKind.i64 (Tk.rl t), AV.int IntKind.i64 (Tk.gt t), AV.bool (Tk.dn t), AV.int IntKind.i64 (Tk.ct t)])) (AObj.row 37 2 [AV.int IntKind.i64 (↑((b - a) * e' / Nat.gcd ((b - a) * e') p') : Int), AV.int IntKind.i64 (↑(p' / Nat.gcd ((b - a) * e') p') : Int)])) (AObj.row 37 2 [AV.int IntKind.i64 (↑(b - a) : Int), AV.int IntKind.i64 1])) (AObj.row 37 2 [AV.int IntKind.i64 (↑e' : Int), AV.int IntKind.i64 (↑p' : Int)])) (by kernel_rfl) (by kernel_rfl)) <| .r (AV.tuple [AV.agg [AV.int IntKind.i64 (↑((b - a) * e' / Nat.gcd ((b - a) * e') p') : Int), AV.int IntKind.i64 (↑(p' / Nat.gcd ((b - a) * e') p') : Int)], AV.int IntKind.i64 0])) (by kernel_rfl) ?_)))))))))))))))
  exact ⟨rfl, (((Keep.new _ _).trans (Keep.new _ _)).trans (Keep.new _ _)).trans (Keep.new _ _)⟩
end Go.Proofs.Ytcbholgcbjddjaa.sy

/- share.Sum (own work): the walk. -/
namespace Go.Proofs.Ytcbholgcbjddjaa.sy
open Go.AM Go.AM.Jb
set_option linter.unusedSimpArgs false
set_option linter.unusedVariables false
variable {G : List Nat → Option (List AV)} {base : Nat} {w0 : World}
set_option maxRecDepth 100000
set_option maxHeartbeats 8000000
variable {H : AHeap}
/-- a share -/
structure Sh where
  id : Int
  n : Nat
  d : Nat
  sl : Bool
def encS (s : Sh) : List AV := [.int .i64 s.id, .int .i64 s.n, .int .i64 s.d, .bool s.sl]
def wSh : Wd Sh := ⟨4, encS, by decide, fun _ => rfl, fun _ => rfl⟩
/-- a sum in lowest terms -/
def qadd (q : Nat × Nat) (s : Sh) : Nat × Nat := ((q.1 * s.d + s.n * q.2) / Nat.gcd (q.1 * s.d + s.n * q.2) (q.2 * s.d), (q.2 * s.d) / Nat.gcd (q.1 * s.d + s.n * q.2) (q.2 * s.d))
def qsum (l : List Sh) : Nat × Nat := l.foldl qadd (0, 1)
theorem qsum_take {l : List Sh} {i : Nat} (hi : i < l.length) : qsum (l.take (i + 1)) = qadd (qsum (l.take i)) l[i] := by
  rw [List.take_succ_eq_append_getElem hi, qsum, List.foldl_append]; rfl
theorem qadd_low {q : Nat × Nat} {s : Sh} (h1 : 0 < q.2) (h2 : 0 < s.d) : 0 < (qadd q s).2 ∧ Nat.gcd (qadd q s).1 (qadd q s).2 = 1 := by
  have hp : 0 < q.2 * s.d := Nat.mul_pos h1 h2
  have hg : 0 < Nat.gcd (q.1 * s.d + s.n * q.2) (q.2 * s.d) := Nat.gcd_pos_of_pos_right _ hp
  refine ⟨Nat.div_pos (Nat.le_of_dvd hp (Nat.gcd_dvd_right _ _)) hg, ?_⟩
  show Nat.gcd (_ / _) (_ / _) = 1
  rw [Nat.gcd_div (Nat.gcd_dvd_left _ _) (Nat.gcd_dvd_right _ _), Nat.div_self hg]
theorem qsum_low {l : List Sh} (h : ∀ s ∈ l, 0 < s.d) : ∀ i, 0 < (qsum (l.take i)).2 ∧ Nat.gcd (qsum (l.take i)).1 (qsum (l.take i)).2 = 1 := by
  intro i
  induction i with
  | zero => rw [List.take_zero]; exact ⟨Nat.one_pos, rfl⟩
  | succ i ih =>
    by_cases hi : i < l.length
    · rw [qsum_take hi]; exact qadd_low ih.1 (h _ (List.getElem_mem hi))
    · rw [List.take_of_length_le (by omega)]
      rw [List.take_of_length_le (by omega)] at ih
      exact ih
/-- small all the way -/
def QSmall (l : List Sh) : Prop := (∀ s ∈ l, s.n < 4294967296 ∧ s.d < 268435456 ∧ 0 < s.d ∧ Nat.gcd s.n s.d = 1) ∧ ∀ i, (qsum (l.take i)).1 < 4294967296 ∧ (qsum (l.take i)).2 < 268435456
theorem sum_p {v : AV} {l : List Sh} (hv : SlF (kn G base w0).c H wSh v l) (hva : ∀ b, v.at? = some b → b < H.length) (hl : l.length ≤ 1000) (hq : QSmall l) : Pt (kn G base w0) 10 [v] H (.tuple [rt (qsum l).1 (qsum l).2, .int .i64 0]) H := by
  refine Pt.pure ?_ rfl
  refine Pt.fn (n := 28) (rs := [.cell 2 37, .tmp 3]) Try.func10 (b := _) rfl rfl rfl (by decide) ?_
  simp only [numbered]
  have el := fun H (hv : SlF (kn G base w0).c H wSh v l) => hv.len (c := (kn G base w0).c) Try.underlying30
  have hvk : ∀ {K : AHeap}, Keep H K (fun _ => False) → SlF (kn G base w0).c K wSh v l := fun hk => hv.keep hk fun b hb => ⟨hva b hb, id⟩
  have k0 : Keep H (hnew (hnew H (.row 37 2 [.int .i64 0, .int .i64 0])) (.row 37 2 [.int .i64 0, .int .i64 1])) (fun _ => False) := (Keep.new _ _).trans (Keep.new _ _)
  have e0 := el _ (hvk k0)
  refine D.sq (D.ks (.e [(3, AV.int IntKind.i64 0), (2, AV.ptr (Loc.own (List.length H)) 0)] (hnew H (AObj.row 37 2 [AV.int IntKind.i64 0, AV.int IntKind.i64 0]))) (by kernel_rfl) (D.sq (D.ks (.h (st_top (H := hnew H (AObj.row 37 2 [AV.int IntKind.i64 0, AV.int IntKind.i64 0])) (t := 37) (e := 2) (cs := [AV.int IntKind.i64 0, AV.int IntKind.i64 0]) (off := 0) (vs := [AV.int IntKind.i64 0, AV.int IntKind.i64 1]) (cs' := [AV.int IntKind.i64 0, AV.int IntKind.i64 1]) rfl rfl rfl) <| .e [(4, AV.ptr (Loc.own (List.length (hnew H (AObj.row 37 2 [AV.int IntKind.i64 0, AV.int IntKind.i64 0])))) 0)] (hnew (hnew H (AObj.row 37 2 [AV.int IntKind.i64 0, AV.int IntKind.i64 0])) (AObj.row 37 2 [AV.int IntKind.i64 0, AV.int IntKind.i64 1]))) (by kernel_rfl) (D.sq (D.sq (D.ks (.v e0 <| .e [(11, AV.int IntKind.i64 0), (10, AV.int IntKind.i64 (↑(List.length l) : Int)), (9, v)] (hnew (hnew H (AObj.row 37 2 [AV.int IntKind.i64 0, AV.int IntKind.i64 0])) (AObj.row 37 2 [AV.int IntKind.i64 0, AV.int IntKind.i64 1]))) (by kernel_rfl) (D.bl ?_)))))))
  have h2 : hat (hnew (hnew H (.row 37 2 [.int .i64 0, .int .i64 0])) (.row 37 2 [.int .i64 0, .int .i64 1])) H.length = some (.row 37 2 [.int .i64 0, .int .i64 0]) := hat_up (hat_nn _) _
  have h4 : hat (hnew (hnew H (.row 37 2 [.int .i64 0, .int .i64 0])) (.row 37 2 [.int .i64 0, .int .i64 1])) (hnew H (.row 37 2 [.int .i64 0, .int .i64 0])).length = some (.row 37 2 [.int .i64 0, .int .i64 1]) := hat_nn _
  have n4 : (hnew H (.row 37 2 [.int .i64 0, .int .i64 0])).length = H.length + 1 := len_new _ _
  clear e0
  generalize hnew (hnew H (.row 37 2 [.int .i64 0, .int .i64 0])) (.row 37 2 [.int .i64 0, .int .i64 1]) = K at *
  generalize (hnew H (.row 37 2 [.int .i64 0, .int .i64 0])).length = b4 at *
  obtain ⟨b2, hb2⟩ : ∃ b2, b2 = H.length := ⟨_, rfl⟩
  rw [← hb2] at h2 n4 ⊢
  refine D.lp (fun m env H' => ∃ i : Nat, m = l.length - i ∧ i ≤ l.length ∧ hat H' b2 = some (.row 37 2 [.int .i64 0, .int .i64 0]) ∧ hat H' b4 = some (.row 37 2 [.int .i64 (qsum (l.take i)).1, .int .i64 (qsum (l.take i)).2]) ∧ Keep H H' (fun _ => False) ∧ ELe (E 28 [(11, .int .i64 i), (10, .int .i64 l.length), (9, v), (4, .ptr (.own b4) 0), (3, .int .i64 0), (2, .ptr (.own b2) 0)]) env) l.length
    ⟨0, by omega, by omega, h2, h4, k0, by exact E_le (by decide) (E_size _ _) (by simp only [List.forall_mem_cons, List.not_mem_nil, false_implies, implies_true, and_true, List.cons_append, List.nil_append, Nat.zero_add, Nat.reduceAdd, E_get, Nat.reduceEqDiff, Nat.reduceLT, Nat.reduceLeDiff, if_true, if_false, and_self, true_and] <;> first | rfl | exact ⟨rfl, rfl⟩)⟩ ?_
  clear h2 h4 k0
  rintro m env H3 ⟨i, rfl, hi, h2, h4, hk, he⟩
  refine D.forget he ?_
  clear he
  by_cases hin : i < l.length
  rotate_left
  · obtain rfl : i = l.length := by omega
    rw [List.take_length] at h4
    refine D.sq (D.ks (.o (show ¬ ((↑(List.length l) : Int) < (↑(List.length l) : Int)) by omega) <| .e [(12, AV.bool false)] H3) (by kernel_rfl) (D.sq (D.cf (by kernel_rfl) (D.exit (Ks_e' (Kl_e' (Kb_e' (Ks_n' (D.sq (D.ks (.q h4 <| .h (st_at (off := 0) (vs := [AV.int IntKind.i64 (↑(Prod.fst (qsum l)) : Int), AV.int IntKind.i64 (↑(Prod.snd (qsum l)) : Int)]) (cs' := [AV.int IntKind.i64 (↑(Prod.fst (qsum l)) : Int), AV.int IntKind.i64 (↑(Prod.snd (qsum l)) : Int)]) h2 rfl rfl rfl) <| .e [(3, AV.int IntKind.i64 0)] (List.set H3 b2 (some (AObj.row 37 2 [AV.int IntKind.i64 (↑(Prod.fst (qsum l)) : Int), AV.int IntKind.i64 (↑(Prod.snd (qsum l)) : Int)])))) (by kernel_rfl) (D.ret (Kf_by (AV.tuple [AV.agg [AV.int IntKind.i64 (↑(Prod.fst (qsum l)) : Int), AV.int IntKind.i64 (↑(Prod.snd (qsum l)) : Int)], AV.int IntKind.i64 0]) (.v (ld_ownA (c := (Kn.c (kn G base w0))) (t := 37) (hat_at h2 (AObj.row 37 2 [AV.int IntKind.i64 (↑(Prod.fst (qsum l)) : Int), AV.int IntKind.i64 (↑(Prod.snd (qsum l)) : Int)])) (by kernel_rfl) (by kernel_rfl)) <| .r (AV.tuple [AV.agg [AV.int IntKind.i64 (↑(Prod.fst (qsum l)) : Int), AV.int IntKind.i64 (↑(Prod.snd (qsum l)) : Int)], AV.int IntKind.i64 0])) (by kernel_rfl) ?_))))))))))))
    exact ⟨rfl, hk.trans' (Keep.set b2 _) fun j hj e => by omega⟩
  have hs := hq.1 l[i] (List.getElem_mem hin)
  have hn := qsum_take hin
  have hlo := qsum_low (fun s hs => (hq.1 s hs).2.2.1) i
  have hsm := hq.2 i
  have ia := (hvk hk).ia (t := 30) Try.underlying30 sz42 hin .i64
  have ld : aload (kn G base w0).c H3 42 (ptrF wSh v i) = some (.agg [.int .i64 l[i].id, .int .i64 l[i].n, .int .i64 l[i].d, .bool l[i].sl]) := (hvk hk).ldA (c := (kn G base w0).c) hin ag42 sz42
  generalize l[i] = s at *
  generalize qsum (l.take i) = q at *
  obtain ⟨N, M⟩ := q
  have p1 := fun H => add_p (G := G) (base := base) (w0 := w0) (H := H) N M s.n s.d hsm.1 hsm.2 hs.1 hs.2.1 hlo.1 hs.2.2.1 hlo.2 hs.2.2.2
  refine D.sq (D.ks (.y (show (↑i : Int) < (↑(List.length l) : Int) by omega) <| .e [(12, AV.bool true)] H3) (by kernel_rfl) (D.sq (D.ct (by kernel_rfl) (D.skip (Ks_n' (D.sq (D.bl (D.sq (D.ks (.v ia <| .v ld <| .h (st_top (H := H3) (t := 42) (e := 4) (cs := [AV.int IntKind.i64 0, AV.int IntKind.i64 0, AV.int IntKind.i64 0, AV.bool false]) (off := 0) (vs := [AV.int IntKind.i64 (Sh.id s), AV.int IntKind.i64 (↑(Sh.n s) : Int), AV.int IntKind.i64 (↑(Sh.d s) : Int), AV.bool (Sh.sl s)]) (cs' := [AV.int IntKind.i64 (Sh.id s), AV.int IntKind.i64 (↑(Sh.n s) : Int), AV.int IntKind.i64 (↑(Sh.d s) : Int), AV.bool (Sh.sl s)]) rfl rfl rfl) <| .e [(6, AV.ptr (Loc.own (List.length H3)) 0)] (hnew H3 (AObj.row 42 4 [AV.int IntKind.i64 (Sh.id s), AV.int IntKind.i64 (↑(Sh.n s) : Int), AV.int IntKind.i64 (↑(Sh.d s) : Int), AV.bool (Sh.sl s)]))) (by kernel_rfl) (D.sq (D.ks (.e [(7, AV.int IntKind.i64 0)] (hnew H3 (AObj.row 42 4 [AV.int IntKind.i64 (Sh.id s), AV.int IntKind.i64 (↑(Sh.n s) : Int), AV.int IntKind.i64 (↑(Sh.d s) : Int), AV.bool (Sh.sl s)]))) (by kernel_rfl) (D.sq (D.ks (.q (hat_up h4 (AObj.row 42 4 [AV.int IntKind.i64 (Sh.id s), AV.int IntKind.i64 (↑(Sh.n s) : Int), AV.int IntKind.i64 (↑(Sh.d s) : Int), AV.bool (Sh.sl s)])) <| .a <| .q (@hat_nn H3 (AObj.row 42 4 [AV.int IntKind.i64 (Sh.id s), AV.int IntKind.i64 (↑(Sh.n s) : Int), AV.int IntKind.i64 (↑(Sh.d s) : Int), AV.bool (Sh.sl s)])) <| .c (@p1 (hnew H3 (AObj.row 42 4 [AV.int IntKind.i64 (Sh.id s), AV.int IntKind.i64 (↑(Sh.n s) : Int), AV.int IntKind.i64 (↑(Sh.d s) : Int), AV.bool (Sh.sl s)]))) <| .h (st_up (st_at (off := 0) (vs := [AV.int IntKind.i64 (↑((N * Sh.d s + Sh.n s * M) / Nat.gcd (N * Sh.d s + Sh.n s * M) (M * Sh.d s)) : Int), AV.int IntKind.i64 (↑(M * Sh.d s / Nat.gcd (N * Sh.d s + Sh.n s * M) (M * Sh.d s)) : Int)]) (cs' := [AV.int IntKind.i64 (↑((N * Sh.d s + Sh.n s * M) / Nat.gcd (N * Sh.d s + Sh.n s * M) (M * Sh.d s)) : Int), AV.int IntKind.i64 (↑(M * Sh.d s / Nat.gcd (N * Sh.d s + Sh.n s * M) (M * Sh.d s)) : Int)]) h4 rfl rfl rfl) (AObj.row 42 4 [AV.int IntKind.i64 (Sh.id s), AV.int IntKind.i64 (↑(Sh.n s) : Int), AV.int IntKind.i64 (↑(Sh.d s) : Int), AV.bool (Sh.sl s)])) <| .e [(7, AV.int IntKind.i64 0)] (hnew (List.set H3 b4 (some (AObj.row 37 2 [AV.int IntKind.i64 (↑((N * Sh.d s + Sh.n s * M) / Nat.gcd (N * Sh.d s + Sh.n s * M) (M * Sh.d s)) : Int), AV.int IntKind.i64 (↑(M * Sh.d s / Nat.gcd (N * Sh.d s + Sh.n s * M) (M * Sh.d s)) : Int)]))) (AObj.row 42 4 [AV.int IntKind.i64 (Sh.id s), AV.int IntKind.i64 (↑(Sh.n s) : Int), AV.int IntKind.i64 (↑(Sh.d s) : Int), AV.bool (Sh.sl s)]))) (by kernel_rfl) (D.sq (D.ks (.a <| .e [(23, AV.bool false)] (hnew (List.set H3 b4 (some (AObj.row 37 2 [AV.int IntKind.i64 (↑((N * Sh.d s + Sh.n s * M) / Nat.gcd (N * Sh.d s + Sh.n s * M) (M * Sh.d s)) : Int), AV.int IntKind.i64 (↑(M * Sh.d s / Nat.gcd (N * Sh.d s + Sh.n s * M) (M * Sh.d s)) : Int)]))) (AObj.row 42 4 [AV.int IntKind.i64 (Sh.id s), AV.int IntKind.i64 (↑(Sh.n s) : Int), AV.int IntKind.i64 (↑(Sh.d s) : Int), AV.bool (Sh.sl s)]))) (by kernel_rfl) (D.cf (by kernel_rfl) (D.skip (Kb_n' (Ks_n' (D.kr (.n (@wrap_to ((↑i : Int) + 1) ((↑(i + 1) : Int)) (by omega) (by omega) (by omega)) <| .e [(11, AV.int IntKind.i64 (↑(i + 1) : Int))] (hnew (List.set H3 b4 (some (AObj.row 37 2 [AV.int IntKind.i64 (↑((N * Sh.d s + Sh.n s * M) / Nat.gcd (N * Sh.d s + Sh.n s * M) (M * Sh.d s)) : Int), AV.int IntKind.i64 (↑(M * Sh.d s / Nat.gcd (N * Sh.d s + Sh.n s * M) (M * Sh.d s)) : Int)]))) (AObj.row 42 4 [AV.int IntKind.i64 (Sh.id s), AV.int IntKind.i64 (↑(Sh.n s) : Int), AV.int IntKind.i64 (↑(Sh.d s) : Int), AV.bool (Sh.sl s)]))) (by kernel_rfl) ?_))))))))))))))))))))
  refine ⟨l.length - (i + 1), by omega, i + 1, (by first | exact rfl | exact True.intro), by omega, hat_up (hat_by h2 _ (by omega)) _, by rw [hn]; exact hat_up (hat_at h4 _) _, ?_, by exact E_le (by decide) (E_size _ _) (by simp only [List.forall_mem_cons, List.not_mem_nil, false_implies, implies_true, and_true, List.cons_append, List.nil_append, Nat.zero_add, Nat.reduceAdd, E_get, Nat.reduceEqDiff, Nat.reduceLT, Nat.reduceLeDiff, if_true, if_false, and_self, true_and] <;> first | rfl | exact ⟨rfl, rfl⟩)⟩
  exact (hk.trans' (Keep.set b4 _) fun j hj e => by omega).trans (Keep.new _ _)
end Go.Proofs.Ytcbholgcbjddjaa.sy

/- ref1's fractions (own work): Gcd, Of. -/
namespace Go.Proofs.Ytcbholgcbjddjaa.sy
open Go.AM Go.AM.Jb
set_option linter.unusedSimpArgs false
set_option linter.unusedVariables false
variable {G : List Nat → Option (List AV)} {base : Nat} {w0 : World}
set_option maxRecDepth 100000
set_option maxHeartbeats 8000000
variable {H : AHeap}
theorem quoI (x y : Nat) (hx : x < 9223372036854775808) (hy : 0 < y) (t : TypeId) : abin (kn G base w0).c .quo t (.int .i64 x) (.int .i64 y) = some (.int .i64 ((x / y : Nat) : Int)) := by
  simp only [abin, if_true, aint]
  rw [if_neg (by omega)]
  congr 2
  have h1 : x / y ≤ x := Nat.div_le_self _ _
  show IntKind.i64.wrap ((x / y : Nat) : Int) = _
  generalize x / y = q at *
  exact wrap_to rfl (by omega) (by omega)
theorem remI (x y : Nat) (hy : 0 < y) (t : TypeId) : abin (kn G base w0).c .rem t (.int .i64 x) (.int .i64 y) = some (.int .i64 ((x % y : Nat) : Int)) := by
  simp only [abin, if_true, aint]
  rw [if_neg (by omega)]
  rfl
theorem negI (x : Nat) (hx : x < 4611686018427387904) : aun .neg (.int .i64 x) = some (.int .i64 (-(x : Int))) := by
  show some (AV.int .i64 (IntKind.i64.wrap (0 - (x : Int)))) = _
  rw [wrap_to (z := -(x : Int)) (by omega) (by omega) (by omega)]
theorem maxI (x : Nat) : aminmax true [.int .i64 x, .int .i64 (-(x : Int))] = some (.int .i64 x) := by
  simp only [aminmax, List.foldlM, if_true]
  rw [if_neg (by omega)]
  rfl
theorem fgcd_p (a b : Nat) (ha : a < 4611686018427387904) (hb : b < 4611686018427387904) : Pt (kn G base w0) 25 [.int .i64 a, .int .i64 b] H (.int .i64 (Nat.gcd a b)) H := by
  refine Pt.pure ?_ rfl
  refine Pt.fn (n := 20) (rs := [.tmp 4]) Try.func25 (b := _) rfl rfl rfl (by decide) ?_
  simp only [numbered]
  have n1 := negI a ha
  have n2 := negI b hb
  have m1 := maxI a
  have m2 := maxI b
  refine D.sq (D.ks (.e [(4, AV.int IntKind.i64 0)] H) (by kernel_rfl) (D.sq (D.ks (.v n1 <| .v m1 <| .v n2 <| .v m2 <| .e [(1, AV.int IntKind.i64 (↑b : Int)), (0, AV.int IntKind.i64 (↑a : Int))] H) (by kernel_rfl) (D.sq (D.bl ?_)))))
  clear n1 n2 m1 m2
  refine D.lp (fun m env H' => ∃ (a' b' : Nat), b' = m ∧ Nat.gcd a' b' = Nat.gcd a b ∧ a' < 4611686018427387904 ∧ b' < 4611686018427387904 ∧ H = H' ∧ ELe (E 20 [(4, .int .i64 0), (1, .int .i64 b'), (0, .int .i64 a')]) env) b
    ⟨a, b, rfl, rfl, ha, hb, rfl, by exact E_le (by decide) (E_size _ _) (by simp only [List.forall_mem_cons, List.not_mem_nil, false_implies, implies_true, and_true, List.cons_append, List.nil_append, Nat.zero_add, Nat.reduceAdd, E_get, Nat.reduceEqDiff, Nat.reduceLT, Nat.reduceLeDiff, if_true, if_false, and_self, true_and] <;> first | rfl | exact ⟨rfl, rfl⟩)⟩ ?_
  rintro m env H3 ⟨a', b', rfl, hg, ha', hb', rfl, he⟩
  refine D.forget he ?_
  clear he
  by_cases h0 : b' = 0
  · have hr : a' = Nat.gcd a b := by rw [← hg, h0, Nat.gcd_zero_right]
    rw [← hr]
    refine D.sq (D.sq (D.ks (.o (show (↑b' : Int) = 0 by omega) <| .e [(14, AV.bool false)] H) (by kernel_rfl) (D.cf (by kernel_rfl) (D.exit (Ks_e' (Kl_e' (Kb_e' (Ks_n' (D.sq (D.ks (.e [(4, AV.int IntKind.i64 (↑a' : Int))] H) (by kernel_rfl) (D.ret (Kf_by (AV.int IntKind.i64 (↑a' : Int)) (.r (AV.int IntKind.i64 (↑a' : Int))) (by kernel_rfl) ?_))))))))))))
    exact ⟨rfl, Keep.refl _⟩
  have q := remI (G := G) (base := base) (w0 := w0) a' b' (by omega)
  refine D.sq (D.sq (D.ks (.y (show ¬ ((↑b' : Int) = 0) by omega) <| .e [(14, AV.bool true)] H) (by kernel_rfl) (D.ct (by kernel_rfl) (D.skip (Ks_n' (D.bl (D.kr (.v (@q 2) <| .e [(1, AV.int IntKind.i64 (↑(a' % b') : Int)), (0, AV.int IntKind.i64 (↑b' : Int))] H) (by kernel_rfl) (Kb_n' ?_))))))))
  exact ⟨a' % b', Nat.mod_lt _ (by omega), b', a' % b', rfl, by rw [← hg, Nat.gcd_comm a' b', Nat.gcd_rec b' a']; exact Nat.gcd_comm _ _, hb', by have := Nat.mod_lt a' (show 0 < b' by omega); omega, rfl, by exact E_le (by decide) (E_size _ _) (by simp only [List.forall_mem_cons, List.not_mem_nil, false_implies, implies_true, and_true, List.cons_append, List.nil_append, Nat.zero_add, Nat.reduceAdd, E_get, Nat.reduceEqDiff, Nat.reduceLT, Nat.reduceLeDiff, if_true, if_false, and_self, true_and] <;> first | rfl | exact ⟨rfl, rfl⟩)⟩
theorem fof_p (a b : Nat) (ha : a < 4611686018427387904) (hb : b < 4611686018427387904) (h0 : 0 < b) : Pt (kn G base w0) 26 [.int .i64 a, .int .i64 b] H (rt (a / Nat.gcd a b) (b / Nat.gcd a b)) H := by
  refine Pt.pure ?_ rfl
  refine Pt.fn (n := 22) (rs := [.cell 4 37]) Try.func26 (b := _) rfl rfl rfl (by decide) ?_
  simp only [numbered]
  have p1 := fun H => fgcd_p (G := G) (base := base) (w0 := w0) (H := H) a b ha hb
  have hg : 0 < Nat.gcd a b := Nat.gcd_pos_of_pos_right _ h0
  have q1 := quoI (G := G) (base := base) (w0 := w0) a (Nat.gcd a b) (by omega) hg
  have q2 := quoI (G := G) (base := base) (w0 := w0) b (Nat.gcd a b) (by omega) hg
  generalize a / Nat.gcd a b = u at *
  generalize b / Nat.gcd a b = v at *
  refine D.sq (D.ks (.e [(4, AV.ptr (Loc.own (List.length H)) 0)] (hnew H (AObj.row 37 2 [AV.int IntKind.i64 0, AV.int IntKind.i64 0]))) (by kernel_rfl) (D.sq (D.sq (D.ks (.o (show ¬ ((↑b : Int) < 0) by omega) <| .e [(7, AV.bool false)] (hnew H (AObj.row 37 2 [AV.int IntKind.i64 0, AV.int IntKind.i64 0]))) (by kernel_rfl) (D.cf (by kernel_rfl) (D.skip (Ks_n' (D.sq (D.ks (.c (@p1 (hnew H (AObj.row 37 2 [AV.int IntKind.i64 0, AV.int IntKind.i64 0]))) <| .e [(5, AV.int IntKind.i64 (↑(Nat.gcd a b) : Int))] (hnew H (AObj.row 37 2 [AV.int IntKind.i64 0, AV.int IntKind.i64 0]))) (by kernel_rfl) (D.sq (D.ks (.v (@q1 2) <| .v (@q2 2) <| .h (st_top (H := H) (t := 37) (e := 2) (cs := [AV.int IntKind.i64 0, AV.int IntKind.i64 0]) (off := 0) (vs := [AV.int IntKind.i64 (↑u : Int), AV.int IntKind.i64 (↑v : Int)]) (cs' := [AV.int IntKind.i64 (↑u : Int), AV.int IntKind.i64 (↑v : Int)]) rfl rfl rfl) <| .e [] (hnew H (AObj.row 37 2 [AV.int IntKind.i64 (↑u : Int), AV.int IntKind.i64 (↑v : Int)]))) (by kernel_rfl) (D.ret (Kf_by (AV.agg [AV.int IntKind.i64 (↑u : Int), AV.int IntKind.i64 (↑v : Int)]) (.v (ld_ownA (c := (Kn.c (kn G base w0))) (t := 37) (@hat_nn H (AObj.row 37 2 [AV.int IntKind.i64 (↑u : Int), AV.int IntKind.i64 (↑v : Int)])) (by kernel_rfl) (by kernel_rfl)) <| .r (AV.agg [AV.int IntKind.i64 (↑u : Int), AV.int IntKind.i64 (↑v : Int)])) (by kernel_rfl) ?_)))))))))))))
  exact ⟨rfl, Keep.new _ _⟩
end Go.Proofs.Ytcbholgcbjddjaa.sy

/- ref1's fractions (own work): products held against each other. -/
namespace Go.Proofs.Ytcbholgcbjddjaa.sy
open Go.AM Go.AM.Jb
set_option linter.unusedSimpArgs false
set_option linter.unusedVariables false
variable {G : List Nat → Option (List AV)} {base : Nat} {w0 : World}
set_option maxRecDepth 100000
set_option maxHeartbeats 8000000
variable {H : AHeap}
theorem mag_p (a : Nat) (ha : a < 4611686018427387904) : Pt (kn G base w0) 57 [.int .i64 a] H (.int .u64 a) H := by
  refine Pt.pure ?_ rfl
  refine Pt.fn (n := 12) (rs := [.tmp 2]) Try.func57 (b := _) rfl rfl rfl (by decide) ?_
  simp only [numbered]
  refine D.sq (D.ks (.e [(2, AV.int IntKind.u64 0)] H) (by kernel_rfl) (D.sq (D.sq (D.ks (.o (show ¬ ((↑a : Int) < 0) by omega) <| .e [(4, AV.bool false)] H) (by kernel_rfl) (D.cf (by kernel_rfl) (D.skip (Ks_n' (D.sq (D.ks (.n (@wrap_tou ((↑a : Int)) ((↑a : Int)) (by omega) (by omega) (by omega)) <| .e [(2, AV.int IntKind.u64 (↑a : Int))] H) (by kernel_rfl) (D.ret (Kf_by (AV.int IntKind.u64 (↑a : Int)) (.r (AV.int IntKind.u64 (↑a : Int))) (by kernel_rfl) ?_)))))))))))
  exact ⟨rfl, Keep.refl _⟩
/-- a long product -/
abbrev lg (s p : Nat) : AV := .agg [.int .i64 s, .int .u64 0, .int .u64 p]
def sg (p : Nat) : Nat := if p = 0 then 0 else 1
theorem product_p (a b : Nat) (ha : a < 4294967296) (hb : b < 4294967296) : Pt (kn G base w0) 37 [.int .i64 a, .int .i64 b] H (lg (sg (a * b)) (a * b)) H := by
  refine Pt.pure ?_ rfl
  refine Pt.fn (n := 32) (rs := [.cell 4 75]) Try.func37 (b := _) rfl rfl rfl (by decide) ?_
  simp only [numbered]
  by_cases h1 : a = 0
  · subst h1
    rw [Nat.zero_mul]
    refine D.sq (D.ks (.e [(4, AV.ptr (Loc.own (List.length H)) 0)] (hnew H (AObj.row 75 3 [AV.int IntKind.i64 0, AV.int IntKind.u64 0, AV.int IntKind.u64 0]))) (by kernel_rfl) (D.sq (D.sq (D.ks (.a <| .e [(13, AV.bool true)] (hnew H (AObj.row 75 3 [AV.int IntKind.i64 0, AV.int IntKind.u64 0, AV.int IntKind.u64 0]))) (by kernel_rfl) (D.ct (by kernel_rfl) (D.sq (D.ks (.h (st_top (H := H) (t := 75) (e := 3) (cs := [AV.int IntKind.i64 0, AV.int IntKind.u64 0, AV.int IntKind.u64 0]) (off := 0) (vs := [AV.int IntKind.i64 0, AV.int IntKind.u64 0, AV.int IntKind.u64 0]) (cs' := [AV.int IntKind.i64 0, AV.int IntKind.u64 0, AV.int IntKind.u64 0]) rfl rfl rfl) <| .e [] (hnew H (AObj.row 75 3 [AV.int IntKind.i64 0, AV.int IntKind.u64 0, AV.int IntKind.u64 0]))) (by kernel_rfl) (D.ret (Ks_r' (Kf_by (AV.agg [AV.int IntKind.i64 0, AV.int IntKind.u64 0, AV.int IntKind.u64 0]) (.v (ld_ownA (c := (Kn.c (kn G base w0))) (t := 75) (@hat_nn H (AObj.row 75 3 [AV.int IntKind.i64 0, AV.int IntKind.u64 0, AV.int IntKind.u64 0])) (by kernel_rfl) (by kernel_rfl)) <| .r (AV.agg [AV.int IntKind.i64 0, AV.int IntKind.u64 0, AV.int IntKind.u64 0])) (by kernel_rfl) ?_))))))))))
    exact ⟨rfl, Keep.new _ _⟩
  by_cases h2 : b = 0
  · subst h2
    rw [Nat.mul_zero]
    refine D.sq (D.ks (.e [(4, AV.ptr (Loc.own (List.length H)) 0)] (hnew H (AObj.row 75 3 [AV.int IntKind.i64 0, AV.int IntKind.u64 0, AV.int IntKind.u64 0]))) (by kernel_rfl) (D.sq (D.sq (D.ks (.o (show ¬ ((↑a : Int) = 0) by omega) <| .a <| .e [(13, AV.bool true)] (hnew H (AObj.row 75 3 [AV.int IntKind.i64 0, AV.int IntKind.u64 0, AV.int IntKind.u64 0]))) (by kernel_rfl) (D.ct (by kernel_rfl) (D.sq (D.ks (.h (st_top (H := H) (t := 75) (e := 3) (cs := [AV.int IntKind.i64 0, AV.int IntKind.u64 0, AV.int IntKind.u64 0]) (off := 0) (vs := [AV.int IntKind.i64 0, AV.int IntKind.u64 0, AV.int IntKind.u64 0]) (cs' := [AV.int IntKind.i64 0, AV.int IntKind.u64 0, AV.int IntKind.u64 0]) rfl rfl rfl) <| .e [] (hnew H (AObj.row 75 3 [AV.int IntKind.i64 0, AV.int IntKind.u64 0, AV.int IntKind.u64 0]))) (by kernel_rfl) (D.ret (Ks_r' (Kf_by (AV.agg [AV.int IntKind.i64 0, AV.int IntKind.u64 0, AV.int IntKind.u64 0]) (.v (ld_ownA (c := (Kn.c (kn G base w0))) (t := 75) (@hat_nn H (AObj.row 75 3 [AV.int IntKind.i64 0, AV.int IntKind.u64 0, AV.int IntKind.u64 0])) (by kernel_rfl) (by kernel_rfl)) <| .r (AV.agg [AV.int IntKind.i64 0, AV.int IntKind.u64 0, AV.int IntKind.u64 0])) (by kernel_rfl) ?_))))))))))
    exact ⟨rfl, Keep.new _ _⟩
  have hs : sg (a * b) = 1 := by unfold sg; rw [if_neg (Nat.ne_of_gt (Nat.mul_pos (by omega) (by omega)))]
  rw [hs]
  have p1 := fun H => mag_p (G := G) (base := base) (w0 := w0) (H := H) a (by omega)
  have p2 := fun H => mag_p (G := G) (base := base) (w0 := w0) (H := H) b (by omega)
  have p3 := fun H => mul64_p (G := G) (base := base) (w0 := w0) (H := H) a b ha hb
  refine D.sq (D.ks (.e [(4, AV.ptr (Loc.own (List.length H)) 0)] (hnew H (AObj.row 75 3 [AV.int IntKind.i64 0, AV.int IntKind.u64 0, AV.int IntKind.u64 0]))) (by kernel_rfl) (D.sq (D.sq (D.ks (.o (show ¬ ((↑a : Int) = 0) by omega) <| .o (show ¬ ((↑b : Int) = 0) by omega) <| .e [(13, AV.bool false)] (hnew H (AObj.row 75 3 [AV.int IntKind.i64 0, AV.int IntKind.u64 0, AV.int IntKind.u64 0]))) (by kernel_rfl) (D.cf (by kernel_rfl) (D.skip (Ks_n' (D.sq (D.ks (.c (@p1 (hnew H (AObj.row 75 3 [AV.int IntKind.i64 0, AV.int IntKind.u64 0, AV.int IntKind.u64 0]))) <| .c (@p2 (hnew H (AObj.row 75 3 [AV.int IntKind.i64 0, AV.int IntKind.u64 0, AV.int IntKind.u64 0]))) <| .c (@p3 (hnew H (AObj.row 75 3 [AV.int IntKind.i64 0, AV.int IntKind.u64 0, AV.int IntKind.u64 0]))) <| .e [(6, AV.int IntKind.u64 (↑(a * b) : Int)), (5, AV.int IntKind.u64 0)] (hnew H (AObj.row 75 3 [AV.int IntKind.i64 0, AV.int IntKind.u64 0, AV.int IntKind.u64 0]))) (by kernel_rfl) (D.sq (D.ks (.e [(7, AV.int IntKind.i64 1)] (hnew H (AObj.row 75 3 [AV.int IntKind.i64 0, AV.int IntKind.u64 0, AV.int IntKind.u64 0]))) (by kernel_rfl) (D.sq (D.sq (D.ks (.o (show ¬ ((↑a : Int) < 0) by omega) <| .o (show ¬ ((↑b : Int) < 0) by omega) <| .a <| .e [(27, AV.bool false)] (hnew H (AObj.row 75 3 [AV.int IntKind.i64 0, AV.int IntKind.u64 0, AV.int IntKind.u64 0]))) (by kernel_rfl) (D.cf (by kernel_rfl) (D.skip (Ks_n' (D.sq (D.ks (.h (st_top (H := H) (t := 75) (e := 3) (cs := [AV.int IntKind.i64 0, AV.int IntKind.u64 0, AV.int IntKind.u64 0]) (off := 0) (vs := [AV.int IntKind.i64 1, AV.int IntKind.u64 0, AV.int IntKind.u64 (↑(a * b) : Int)]) (cs' := [AV.int IntKind.i64 1, AV.int IntKind.u64 0, AV.int IntKind.u64 (↑(a * b) : Int)]) rfl rfl rfl) <| .e [] (hnew H (AObj.row 75 3 [AV.int IntKind.i64 1, AV.int IntKind.u64 0, AV.int IntKind.u64 (↑(a * b) : Int)]))) (by kernel_rfl) (D.ret (Kf_by (AV.agg [AV.int IntKind.i64 1, AV.int IntKind.u64 0, AV.int IntKind.u64 (↑(a * b) : Int)]) (.v (ld_ownA (c := (Kn.c (kn G base w0))) (t := 75) (@hat_nn H (AObj.row 75 3 [AV.int IntKind.i64 1, AV.int IntKind.u64 0, AV.int IntKind.u64 (↑(a * b) : Int)])) (by kernel_rfl) (by kernel_rfl)) <| .r (AV.agg [AV.int IntKind.i64 1, AV.int IntKind.u64 0, AV.int IntKind.u64 (↑(a * b) : Int)])) (by kernel_rfl) ?_)))))))))))))))))))))
  exact ⟨rfl, Keep.new _ _⟩
end Go.Proofs.Ytcbholgcbjddjaa.sy

/- ref1's fractions (own work): Cross, Less. -/
namespace Go.Proofs.Ytcbholgcbjddjaa.sy
open Go.AM Go.AM.Jb
set_option linter.unusedSimpArgs false
set_option linter.unusedVariables false
variable {G : List Nat → Option (List AV)} {base : Nat} {w0 : World}
set_option maxRecDepth 100000
set_option maxHeartbeats 8000000
variable {H : AHeap}
def crs (x y : Nat) : Int := if x < y then -1 else if x = y then 0 else 1
theorem wr2 {o1 o1' : AObj} (p q : AV) (h : [p, .int .u64 0, q].all AV.one = true) : wr (hnew (hnew H o1') (.row 75 3 [.int .i64 0, .int .u64 0, .int .u64 0])) (.own (hnew H o1).length) 0 [p, .int .u64 0, q] = some (hnew (hnew H o1') (.row 75 3 [p, .int .u64 0, q])) := by
  rw [len_new, ← len_new H o1']
  exact st_top rfl h rfl
theorem hat2 {o1 o1' o : AObj} : hat (hnew (hnew H o1') o) (hnew H o1).length = some o := by
  rw [len_new, ← len_new H o1']
  exact hat_nn _
theorem cross_p (a b c d : Nat) (ha : a < 4294967296) (hb : b < 4294967296) (hc : c < 4294967296) (hd : d < 4294967296) : Pt (kn G base w0) 24 [.int .i64 a, .int .i64 b, .int .i64 c, .int .i64 d] H (.int .i64 (crs (a * b) (c * d))) H := by
  refine Pt.pure ?_ rfl
  refine Pt.fn (n := 65) (rs := [.tmp 8]) Try.func24 (b := _) rfl rfl rfl (by decide) ?_
  simp only [numbered]
  have p1 := fun H => product_p (G := G) (base := base) (w0 := w0) (H := H) a b ha hb
  have p2 := fun H => product_p (G := G) (base := base) (w0 := w0) (H := H) c d hc hd
  generalize a * b = x at *
  generalize c * d = y at *
  by_cases hx : x = 0
  · have s1 : sg x = 0 := by unfold sg; rw [if_pos hx]
    rw [s1] at p1
    subst hx
    by_cases hy : y = 0
    · have s2 : sg y = 0 := by unfold sg; rw [if_pos hy]
      rw [s2] at p2
      subst hy
      have hr : crs 0 0 = 0 := rfl
      rw [hr]
      refine D.sq (D.ks (.e [(8, AV.int IntKind.i64 0)] H) (by kernel_rfl) (D.sq (D.ks (.c (@p1 H) <| .c (@p2 H) <| .h (st_up (st_top (H := H) (t := 75) (e := 3) (cs := [AV.int IntKind.i64 0, AV.int IntKind.u64 0, AV.int IntKind.u64 0]) (off := 0) (vs := [AV.int IntKind.i64 (↑0 : Int), AV.int IntKind.u64 0, AV.int IntKind.u64 (↑0 : Int)]) (cs' := [AV.int IntKind.i64 0, AV.int IntKind.u64 0, AV.int IntKind.u64 0]) rfl rfl rfl) (AObj.row 75 3 [AV.int IntKind.i64 0, AV.int IntKind.u64 0, AV.int IntKind.u64 0])) <| .h (st_top (H := hnew H (AObj.row 75 3 [AV.int IntKind.i64 0, AV.int IntKind.u64 0, AV.int IntKind.u64 0])) (t := 75) (e := 3) (cs := [AV.int IntKind.i64 0, AV.int IntKind.u64 0, AV.int IntKind.u64 0]) (off := 0) (vs := [AV.int IntKind.i64 (↑0 : Int), AV.int IntKind.u64 0, AV.int IntKind.u64 (↑0 : Int)]) (cs' := [AV.int IntKind.i64 0, AV.int IntKind.u64 0, AV.int IntKind.u64 0]) rfl rfl rfl) <| .e [(10, AV.ptr (Loc.own (List.length (hnew H (AObj.row 75 3 [AV.int IntKind.i64 0, AV.int IntKind.u64 0, AV.int IntKind.u64 0])))) 0), (9, AV.ptr (Loc.own (List.length H)) 0)] (hnew (hnew H (AObj.row 75 3 [AV.int IntKind.i64 0, AV.int IntKind.u64 0, AV.int IntKind.u64 0])) (AObj.row 75 3 [AV.int IntKind.i64 0, AV.int IntKind.u64 0, AV.int IntKind.u64 0]))) (by kernel_rfl) (D.sq (D.sq (D.ks (.a <| .q (hat_up (@hat_nn H (AObj.row 75 3 [AV.int IntKind.i64 0, AV.int IntKind.u64 0, AV.int IntKind.u64 0])) (AObj.row 75 3 [AV.int IntKind.i64 0, AV.int IntKind.u64 0, AV.int IntKind.u64 0])) <| .a <| .q (@hat_nn (hnew H (AObj.row 75 3 [AV.int IntKind.i64 0, AV.int IntKind.u64 0, AV.int IntKind.u64 0])) (AObj.row 75 3 [AV.int IntKind.i64 0, AV.int IntKind.u64 0, AV.int IntKind.u64 0])) <| .a <| .e [(22, AV.bool false)] (hnew (hnew H (AObj.row 75 3 [AV.int IntKind.i64 0, AV.int IntKind.u64 0, AV.int IntKind.u64 0])) (AObj.row 75 3 [AV.int IntKind.i64 0, AV.int IntKind.u64 0, AV.int IntKind.u64 0]))) (by kernel_rfl) (D.cf (by kernel_rfl) (D.skip (Ks_n' (D.sq (D.ks (.e [(11, AV.int IntKind.i64 0)] (hnew (hnew H (AObj.row 75 3 [AV.int IntKind.i64 0, AV.int IntKind.u64 0, AV.int IntKind.u64 0])) (AObj.row 75 3 [AV.int IntKind.i64 0, AV.int IntKind.u64 0, AV.int IntKind.u64 0]))) (by kernel_rfl) (D.sq (D.bl (D.sq (D.ks (.a <| .q (hat_up (@hat_nn H (AObj.row 75 3 [AV.int IntKind.i64 0, AV.int IntKind.u64 0, AV.int IntKind.u64 0])) (AObj.row 75 3 [AV.int IntKind.i64 0, AV.int IntKind.u64 0, AV.int IntKind.u64 0])) <| .a <| .q (@hat_nn (hnew H (AObj.row 75 3 [AV.int IntKind.i64 0, AV.int IntKind.u64 0, AV.int IntKind.u64 0])) (AObj.row 75 3 [AV.int IntKind.i64 0, AV.int IntKind.u64 0, AV.int IntKind.u64 0])) <| .a <| .a <| .q (hat_up (@hat_nn H (AObj.row 75 3 [AV.int IntKind.i64 0, AV.int IntKind.u64 0, AV.int IntKind.u64 0])) (AObj.row 75 3 [AV.int IntKind.i64 0, AV.int IntKind.u64 0, AV.int IntKind.u64 0])) <| .a <| .q (@hat_nn (hnew H (AObj.row 75 3 [AV.int IntKind.i64 0, AV.int IntKind.u64 0, AV.int IntKind.u64 0])) (AObj.row 75 3 [AV.int IntKind.i64 0, AV.int IntKind.u64 0, AV.int IntKind.u64 0])) <| .a <| .a <| .q (hat_up (@hat_nn H (AObj.row 75 3 [AV.int IntKind.i64 0, AV.int IntKind.u64 0, AV.int IntKind.u64 0])) (AObj.row 75 3 [AV.int IntKind.i64 0, AV.int IntKind.u64 0, AV.int IntKind.u64 0])) <| .a <| .q (@hat_nn (hnew H (AObj.row 75 3 [AV.int IntKind.i64 0, AV.int IntKind.u64 0, AV.int IntKind.u64 0])) (AObj.row 75 3 [AV.int IntKind.i64 0, AV.int IntKind.u64 0, AV.int IntKind.u64 0])) <| .a <| .e [(28, AV.bool false)] (hnew (hnew H (AObj.row 75 3 [AV.int IntKind.i64 0, AV.int IntKind.u64 0, AV.int IntKind.u64 0])) (AObj.row 75 3 [AV.int IntKind.i64 0, AV.int IntKind.u64 0, AV.int IntKind.u64 0]))) (by kernel_rfl) (D.cf (by kernel_rfl) (D.sq (D.ks (.a <| .q (hat_up (@hat_nn H (AObj.row 75 3 [AV.int IntKind.i64 0, AV.int IntKind.u64 0, AV.int IntKind.u64 0])) (AObj.row 75 3 [AV.int IntKind.i64 0, AV.int IntKind.u64 0, AV.int IntKind.u64 0])) <| .a <| .q (@hat_nn (hnew H (AObj.row 75 3 [AV.int IntKind.i64 0, AV.int IntKind.u64 0, AV.int IntKind.u64 0])) (AObj.row 75 3 [AV.int IntKind.i64 0, AV.int IntKind.u64 0, AV.int IntKind.u64 0])) <| .a <| .a <| .q (hat_up (@hat_nn H (AObj.row 75 3 [AV.int IntKind.i64 0, AV.int IntKind.u64 0, AV.int IntKind.u64 0])) (AObj.row 75 3 [AV.int IntKind.i64 0, AV.int IntKind.u64 0, AV.int IntKind.u64 0])) <| .a <| .q (@hat_nn (hnew H (AObj.row 75 3 [AV.int IntKind.i64 0, AV.int IntKind.u64 0, AV.int IntKind.u64 0])) (AObj.row 75 3 [AV.int IntKind.i64 0, AV.int IntKind.u64 0, AV.int IntKind.u64 0])) <| .a <| .e [(48, AV.bool false)] (hnew (hnew H (AObj.row 75 3 [AV.int IntKind.i64 0, AV.int IntKind.u64 0, AV.int IntKind.u64 0])) (AObj.row 75 3 [AV.int IntKind.i64 0, AV.int IntKind.u64 0, AV.int IntKind.u64 0]))) (by kernel_rfl) (D.cf (by kernel_rfl) (D.skip (Kb_n' (Ks_n' (D.sq (D.ks (.a <| .q (hat_up (@hat_nn H (AObj.row 75 3 [AV.int IntKind.i64 0, AV.int IntKind.u64 0, AV.int IntKind.u64 0])) (AObj.row 75 3 [AV.int IntKind.i64 0, AV.int IntKind.u64 0, AV.int IntKind.u64 0])) <| .a <| .e [(8, AV.int IntKind.i64 0)] (hnew (hnew H (AObj.row 75 3 [AV.int IntKind.i64 0, AV.int IntKind.u64 0, AV.int IntKind.u64 0])) (AObj.row 75 3 [AV.int IntKind.i64 0, AV.int IntKind.u64 0, AV.int IntKind.u64 0]))) (by kernel_rfl) (D.ret (Kf_by (AV.int IntKind.i64 0) (.r (AV.int IntKind.i64 0)) (by kernel_rfl) ?_))))))))))))))))))))))))))
      exact ⟨rfl, (Keep.new _ _).trans (Keep.new _ _)⟩
    have s2 : sg y = 1 := by unfold sg; rw [if_neg hy]
    rw [s2] at p2
    have hr : crs 0 y = -1 := by unfold crs; rw [if_pos (by omega)]
    rw [hr]
    refine D.sq (D.ks (.e [(8, AV.int IntKind.i64 0)] H) (by kernel_rfl) (D.sq (D.ks (.c (@p1 H) <| .c (@p2 H) <| .h (st_up (st_top (H := H) (t := 75) (e := 3) (cs := [AV.int IntKind.i64 0, AV.int IntKind.u64 0, AV.int IntKind.u64 0]) (off := 0) (vs := [AV.int IntKind.i64 (↑0 : Int), AV.int IntKind.u64 0, AV.int IntKind.u64 (↑0 : Int)]) (cs' := [AV.int IntKind.i64 0, AV.int IntKind.u64 0, AV.int IntKind.u64 0]) rfl rfl rfl) (AObj.row 75 3 [AV.int IntKind.i64 0, AV.int IntKind.u64 0, AV.int IntKind.u64 0])) <| .h (st_top (H := hnew H (AObj.row 75 3 [AV.int IntKind.i64 0, AV.int IntKind.u64 0, AV.int IntKind.u64 0])) (t := 75) (e := 3) (cs := [AV.int IntKind.i64 0, AV.int IntKind.u64 0, AV.int IntKind.u64 0]) (off := 0) (vs := [AV.int IntKind.i64 (↑1 : Int), AV.int IntKind.u64 0, AV.int IntKind.u64 (↑y : Int)]) (cs' := [AV.int IntKind.i64 1, AV.int IntKind.u64 0, AV.int IntKind.u64 (↑y : Int)]) rfl rfl rfl) <| .e [(10, AV.ptr (Loc.own (List.length (hnew H (AObj.row 75 3 [AV.int IntKind.i64 0, AV.int IntKind.u64 0, AV.int IntKind.u64 0])))) 0), (9, AV.ptr (Loc.own (List.length H)) 0)] (hnew (hnew H (AObj.row 75 3 [AV.int IntKind.i64 0, AV.int IntKind.u64 0, AV.int IntKind.u64 0])) (AObj.row 75 3 [AV.int IntKind.i64 1, AV.int IntKind.u64 0, AV.int IntKind.u64 (↑y : Int)]))) (by kernel_rfl) (D.sq (D.sq (D.ks (.a <| .q (hat_up (@hat_nn H (AObj.row 75 3 [AV.int IntKind.i64 0, AV.int IntKind.u64 0, AV.int IntKind.u64 0])) (AObj.row 75 3 [AV.int IntKind.i64 1, AV.int IntKind.u64 0, AV.int IntKind.u64 (↑y : Int)])) <| .a <| .q (@hat_nn (hnew H (AObj.row 75 3 [AV.int IntKind.i64 0, AV.int IntKind.u64 0, AV.int IntKind.u64 0])) (AObj.row 75 3 [AV.int IntKind.i64 1, AV.int IntKind.u64 0, AV.int IntKind.u64 (↑y : Int)])) <| .a <| .e [(22, AV.bool true)] (hnew (hnew H (AObj.row 75 3 [AV.int IntKind.i64 0, AV.int IntKind.u64 0, AV.int IntKind.u64 0])) (AObj.row 75 3 [AV.int IntKind.i64 1, AV.int IntKind.u64 0, AV.int IntKind.u64 (↑y : Int)]))) (by kernel_rfl) (D.ct (by kernel_rfl) (D.sq (D.sq (D.ks (.a <| .q (hat_up (@hat_nn H (AObj.row 75 3 [AV.int IntKind.i64 0, AV.int IntKind.u64 0, AV.int IntKind.u64 0])) (AObj.row 75 3 [AV.int IntKind.i64 1, AV.int IntKind.u64 0, AV.int IntKind.u64 (↑y : Int)])) <| .a <| .q (@hat_nn (hnew H (AObj.row 75 3 [AV.int IntKind.i64 0, AV.int IntKind.u64 0, AV.int IntKind.u64 0])) (AObj.row 75 3 [AV.int IntKind.i64 1, AV.int IntKind.u64 0, AV.int IntKind.u64 (↑y : Int)])) <| .a <| .e [(27, AV.bool true)] (hnew (hnew H (AObj.row 75 3 [AV.int IntKind.i64 0, AV.int IntKind.u64 0, AV.int IntKind.u64 0])) (AObj.row 75 3 [AV.int IntKind.i64 1, AV.int IntKind.u64 0, AV.int IntKind.u64 (↑y : Int)]))) (by kernel_rfl) (D.ct (by kernel_rfl) (D.sq (D.ks (.e [(8, AV.int IntKind.i64 (-1))] (hnew (hnew H (AObj.row 75 3 [AV.int IntKind.i64 0, AV.int IntKind.u64 0, AV.int IntKind.u64 0])) (AObj.row 75 3 [AV.int IntKind.i64 1, AV.int IntKind.u64 0, AV.int IntKind.u64 (↑y : Int)]))) (by kernel_rfl) (D.ret (Ks_r' (Ks_r' (Kf_by (AV.int IntKind.i64 (-1)) (.r (AV.int IntKind.i64 (-1))) (by kernel_rfl) ?_)))))))))))))))))
    exact ⟨rfl, (Keep.new _ _).trans (Keep.new _ _)⟩
  have s1 : sg x = 1 := by unfold sg; rw [if_neg hx]
  rw [s1] at p1
  have w := fun (s q : Nat) => wr2 (H := H) (o1 := .row 75 3 [.int .i64 0, .int .u64 0, .int .u64 0]) (o1' := .row 75 3 [.int .i64 1, .int .u64 0, .int .u64 x]) (.int .i64 s) (.int .u64 q) rfl
  have g := fun (o : AObj) => hat2 (H := H) (o1 := .row 75 3 [.int .i64 0, .int .u64 0, .int .u64 0]) (o1' := .row 75 3 [.int .i64 1, .int .u64 0, .int .u64 x]) (o := o)
  by_cases hy : y = 0
  · have s2 : sg y = 0 := by unfold sg; rw [if_pos hy]
    rw [s2] at p2
    subst hy
    have hr : crs x 0 = 1 := by unfold crs; rw [if_neg (by omega), if_neg hx]
    rw [hr]
    refine D.sq (D.ks (.e [(8, AV.int IntKind.i64 0)] H) (by kernel_rfl) (D.sq (D.ks (.c (@p1 H) <| .c (@p2 H) <| .h (st_up (st_top (H := H) (t := 75) (e := 3) (cs := [AV.int IntKind.i64 0, AV.int IntKind.u64 0, AV.int IntKind.u64 0]) (off := 0) (vs := [AV.int IntKind.i64 (↑1 : Int), AV.int IntKind.u64 0, AV.int IntKind.u64 (↑x : Int)]) (cs' := [AV.int IntKind.i64 1, AV.int IntKind.u64 0, AV.int IntKind.u64 (↑x : Int)]) rfl rfl rfl) (AObj.row 75 3 [AV.int IntKind.i64 0, AV.int IntKind.u64 0, AV.int IntKind.u64 0])) <| .h (@w 0 0) <| .e [(10, AV.ptr (Loc.own (List.length (hnew H (AObj.row 75 3 [AV.int IntKind.i64 0, AV.int IntKind.u64 0, AV.int IntKind.u64 0])))) 0), (9, AV.ptr (Loc.own (List.length H)) 0)] (hnew (hnew H (AObj.row 75 3 [AV.int IntKind.i64 1, AV.int IntKind.u64 0, AV.int IntKind.u64 (↑x : Int)])) (AObj.row 75 3 [AV.int IntKind.i64 (↑0 : Int), AV.int IntKind.u64 0, AV.int IntKind.u64 (↑0 : Int)]))) (by kernel_rfl) (D.sq (D.sq (D.ks (.a <| .q (hat_up (@hat_nn H (AObj.row 75 3 [AV.int IntKind.i64 1, AV.int IntKind.u64 0, AV.int IntKind.u64 (↑x : Int)])) (AObj.row 75 3 [AV.int IntKind.i64 0, AV.int IntKind.u64 0, AV.int IntKind.u64 0])) <| .a <| .q (@g (AObj.row 75 3 [AV.int IntKind.i64 0, AV.int IntKind.u64 0, AV.int IntKind.u64 0])) <| .a <| .e [(22, AV.bool true)] (hnew (hnew H (AObj.row 75 3 [AV.int IntKind.i64 1, AV.int IntKind.u64 0, AV.int IntKind.u64 (↑x : Int)])) (AObj.row 75 3 [AV.int IntKind.i64 0, AV.int IntKind.u64 0, AV.int IntKind.u64 0]))) (by kernel_rfl) (D.ct (by kernel_rfl) (D.sq (D.sq (D.ks (.a <| .q (hat_up (@hat_nn H (AObj.row 75 3 [AV.int IntKind.i64 1, AV.int IntKind.u64 0, AV.int IntKind.u64 (↑x : Int)])) (AObj.row 75 3 [AV.int IntKind.i64 0, AV.int IntKind.u64 0, AV.int IntKind.u64 0])) <| .a <| .q (@g (AObj.row 75 3 [AV.int IntKind.i64 0, AV.int IntKind.u64 0, AV.int IntKind.u64 0])) <| .a <| .e [(27, AV.bool false)] (hnew (hnew H (AObj.row 75 3 [AV.int IntKind.i64 1, AV.int IntKind.u64 0, AV.int IntKind.u64 (↑x : Int)])) (AObj.row 75 3 [AV.int IntKind.i64 0, AV.int IntKind.u64 0, AV.int IntKind.u64 0]))) (by kernel_rfl) (D.cf (by kernel_rfl) (D.skip (Ks_n' (D.sq (D.ks (.e [(8, AV.int IntKind.i64 1)] (hnew (hnew H (AObj.row 75 3 [AV.int IntKind.i64 1, AV.int IntKind.u64 0, AV.int IntKind.u64 (↑x : Int)])) (AObj.row 75 3 [AV.int IntKind.i64 0, AV.int IntKind.u64 0, AV.int IntKind.u64 0]))) (by kernel_rfl) (D.ret (Ks_r' (Kf_by (AV.int IntKind.i64 1) (.r (AV.int IntKind.i64 1)) (by kernel_rfl) ?_))))))))))))))))))
    exact ⟨rfl, (Keep.new _ _).trans (Keep.new _ _)⟩
  have s2 : sg y = 1 := by unfold sg; rw [if_neg hy]
  rw [s2] at p2
  by_cases h1 : x < y
  · have hr : crs x y = -1 := by unfold crs; rw [if_pos h1]
    rw [hr]
    refine D.sq (D.ks (.e [(8, AV.int IntKind.i64 0)] H) (by kernel_rfl) (D.sq (D.ks (.c (@p1 H) <| .c (@p2 H) <| .h (st_up (st_top (H := H) (t := 75) (e := 3) (cs := [AV.int IntKind.i64 0, AV.int IntKind.u64 0, AV.int IntKind.u64 0]) (off := 0) (vs := [AV.int IntKind.i64 (↑1 : Int), AV.int IntKind.u64 0, AV.int IntKind.u64 (↑x : Int)]) (cs' := [AV.int IntKind.i64 1, AV.int IntKind.u64 0, AV.int IntKind.u64 (↑x : Int)]) rfl rfl rfl) (AObj.row 75 3 [AV.int IntKind.i64 0, AV.int IntKind.u64 0, AV.int IntKind.u64 0])) <| .h (@w 1 y) <| .e [(10, AV.ptr (Loc.own (List.length (hnew H (AObj.row 75 3 [AV.int IntKind.i64 0, AV.int IntKind.u64 0, AV.int IntKind.u64 0])))) 0), (9, AV.ptr (Loc.own (List.length H)) 0)] (hnew (hnew H (AObj.row 75 3 [AV.int IntKind.i64 1, AV.int IntKind.u64 0, AV.int IntKind.u64 (↑x : Int)])) (AObj.row 75 3 [AV.int IntKind.i64 (↑1 : Int), AV.int IntKind.u64 0, AV.int IntKind.u64 (↑y : Int)]))) (by kernel_rfl) (D.sq (D.sq (D.ks (.a <| .q (hat_up (@hat_nn H (AObj.row 75 3 [AV.int IntKind.i64 1, AV.int IntKind.u64 0, AV.int IntKind.u64 (↑x : Int)])) (AObj.row 75 3 [AV.int IntKind.i64 1, AV.int IntKind.u64 0, AV.int IntKind.u64 (↑y : Int)])) <| .a <| .q (@g (AObj.row 75 3 [AV.int IntKind.i64 1, AV.int IntKind.u64 0, AV.int IntKind.u64 (↑y : Int)])) <| .a <| .e [(22, AV.bool false)] (hnew (hnew H (AObj.row 75 3 [AV.int IntKind.i64 1, AV.int IntKind.u64 0, AV.int IntKind.u64 (↑x : Int)])) (AObj.row 75 3 [AV.int IntKind.i64 1, AV.int IntKind.u64 0, AV.int IntKind.u64 (↑y : Int)]))) (by kernel_rfl) (D.cf (by kernel_rfl) (D.skip (Ks_n' (D.sq (D.ks (.e [(11, AV.int IntKind.i64 0)] (hnew (hnew H (AObj.row 75 3 [AV.int IntKind.i64 1, AV.int IntKind.u64 0, AV.int IntKind.u64 (↑x : Int)])) (AObj.row 75 3 [AV.int IntKind.i64 1, AV.int IntKind.u64 0, AV.int IntKind.u64 (↑y : Int)]))) (by kernel_rfl) (D.sq (D.bl (D.sq (D.ks (.a <| .q (hat_up (@hat_nn H (AObj.row 75 3 [AV.int IntKind.i64 1, AV.int IntKind.u64 0, AV.int IntKind.u64 (↑x : Int)])) (AObj.row 75 3 [AV.int IntKind.i64 1, AV.int IntKind.u64 0, AV.int IntKind.u64 (↑y : Int)])) <| .a <| .q (@g (AObj.row 75 3 [AV.int IntKind.i64 1, AV.int IntKind.u64 0, AV.int IntKind.u64 (↑y : Int)])) <| .a <| .a <| .q (hat_up (@hat_nn H (AObj.row 75 3 [AV.int IntKind.i64 1, AV.int IntKind.u64 0, AV.int IntKind.u64 (↑x : Int)])) (AObj.row 75 3 [AV.int IntKind.i64 1, AV.int IntKind.u64 0, AV.int IntKind.u64 (↑y : Int)])) <| .a <| .q (@g (AObj.row 75 3 [AV.int IntKind.i64 1, AV.int IntKind.u64 0, AV.int IntKind.u64 (↑y : Int)])) <| .a <| .a <| .q (hat_up (@hat_nn H (AObj.row 75 3 [AV.int IntKind.i64 1, AV.int IntKind.u64 0, AV.int IntKind.u64 (↑x : Int)])) (AObj.row 75 3 [AV.int IntKind.i64 1, AV.int IntKind.u64 0, AV.int IntKind.u64 (↑y : Int)])) <| .a <| .q (@g (AObj.row 75 3 [AV.int IntKind.i64 1, AV.int IntKind.u64 0, AV.int IntKind.u64 (↑y : Int)])) <| .y (show (↑x : Int) < (↑y : Int) by omega) <| .e [(28, AV.bool true)] (hnew (hnew H (AObj.row 75 3 [AV.int IntKind.i64 1, AV.int IntKind.u64 0, AV.int IntKind.u64 (↑x : Int)])) (AObj.row 75 3 [AV.int IntKind.i64 1, AV.int IntKind.u64 0, AV.int IntKind.u64 (↑y : Int)]))) (by kernel_rfl) (D.ct (by kernel_rfl) (D.kr (.e [(11, AV.int IntKind.i64 (-1))] (hnew (hnew H (AObj.row 75 3 [AV.int IntKind.i64 1, AV.int IntKind.u64 0, AV.int IntKind.u64 (↑x : Int)])) (AObj.row 75 3 [AV.int IntKind.i64 1, AV.int IntKind.u64 0, AV.int IntKind.u64 (↑y : Int)]))) (by kernel_rfl) (Kb_n' (Ks_n' (D.sq (D.ks (.a <| .q (hat_up (@hat_nn H (AObj.row 75 3 [AV.int IntKind.i64 1, AV.int IntKind.u64 0, AV.int IntKind.u64 (↑x : Int)])) (AObj.row 75 3 [AV.int IntKind.i64 1, AV.int IntKind.u64 0, AV.int IntKind.u64 (↑y : Int)])) <| .a <| .e [(8, AV.int IntKind.i64 (-1))] (hnew (hnew H (AObj.row 75 3 [AV.int IntKind.i64 1, AV.int IntKind.u64 0, AV.int IntKind.u64 (↑x : Int)])) (AObj.row 75 3 [AV.int IntKind.i64 1, AV.int IntKind.u64 0, AV.int IntKind.u64 (↑y : Int)]))) (by kernel_rfl) (D.ret (Kf_by (AV.int IntKind.i64 (-1)) (.r (AV.int IntKind.i64 (-1))) (by kernel_rfl) ?_)))))))))))))))))))))))
    exact ⟨rfl, (Keep.new _ _).trans (Keep.new _ _)⟩
  by_cases h2 : x = y
  · subst h2
    have hr : crs x x = 0 := by unfold crs; rw [if_neg (by omega), if_pos rfl]
    rw [hr]
    refine D.sq (D.ks (.e [(8, AV.int IntKind.i64 0)] H) (by kernel_rfl) (D.sq (D.ks (.c (@p1 H) <| .c (@p2 H) <| .h (st_up (st_top (H := H) (t := 75) (e := 3) (cs := [AV.int IntKind.i64 0, AV.int IntKind.u64 0, AV.int IntKind.u64 0]) (off := 0) (vs := [AV.int IntKind.i64 (↑1 : Int), AV.int IntKind.u64 0, AV.int IntKind.u64 (↑x : Int)]) (cs' := [AV.int IntKind.i64 1, AV.int IntKind.u64 0, AV.int IntKind.u64 (↑x : Int)]) rfl rfl rfl) (AObj.row 75 3 [AV.int IntKind.i64 0, AV.int IntKind.u64 0, AV.int IntKind.u64 0])) <| .h (@w 1 x) <| .e [(10, AV.ptr (Loc.own (List.length (hnew H (AObj.row 75 3 [AV.int IntKind.i64 0, AV.int IntKind.u64 0, AV.int IntKind.u64 0])))) 0), (9, AV.ptr (Loc.own (List.length H)) 0)] (hnew (hnew H (AObj.row 75 3 [AV.int IntKind.i64 1, AV.int IntKind.u64 0, AV.int IntKind.u64 (↑x : Int)])) (AObj.row 75 3 [AV.int IntKind.i64 (↑1 : Int), AV.int IntKind.u64 0, AV.int IntKind.u64 (↑x : Int)]))) (by kernel_rfl) (D.sq (D.sq (D.ks (.a <| .q (hat_up (@hat_nn H (AObj.row 75 3 [AV.int IntKind.i64 1, AV.int IntKind.u64 0, AV.int IntKind.u64 (↑x : Int)])) (AObj.row 75 3 [AV.int IntKind.i64 1, AV.int IntKind.u64 0, AV.int IntKind.u64 (↑x : Int)])) <| .a <| .q (@g (AObj.row 75 3 [AV.int IntKind.i64 1, AV.int IntKind.u64 0, AV.int IntKind.u64 (↑x : Int)])) <| .a <| .e [(22, AV.bool false)] (hnew (hnew H (AObj.row 75 3 [AV.int IntKind.i64 1, AV.int IntKind.u64 0, AV.int IntKind.u64 (↑x : Int)])) (AObj.row 75 3 [AV.int IntKind.i64 1, AV.int IntKind.u64 0, AV.int IntKind.u64 (↑x : Int)]))) (by kernel_rfl) (D.cf (by kernel_rfl) (D.skip (Ks_n' (D.sq (D.ks (.e [(11, AV.int IntKind.i64 0)] (hnew (hnew H (AObj.row 75 3 [AV.int IntKind.i64 1, AV.int IntKind.u64 0, AV.int IntKind.u64 (↑x : Int)])) (AObj.row 75 3 [AV.int IntKind.i64 1, AV.int IntKind.u64 0, AV.int IntKind.u64 (↑x : Int)]))) (by kernel_rfl) (D.sq (D.bl (D.sq (D.ks (.a <| .q (hat_up (@hat_nn H (AObj.row 75 3 [AV.int IntKind.i64 1, AV.int IntKind.u64 0, AV.int IntKind.u64 (↑x : Int)])) (AObj.row 75 3 [AV.int IntKind.i64 1, AV.int IntKind.u64 0, AV.int IntKind.u64 (↑x : Int)])) <| .a <| .q (@g (AObj.row 75 3 [AV.int IntKind.i64 1, AV.int IntKind.u64 0, AV.int IntKind.u64 (↑x : Int)])) <| .a <| .a <| .q (hat_up (@hat_nn H (AObj.row 75 3 [AV.int IntKind.i64 1, AV.int IntKind.u64 0, AV.int IntKind.u64 (↑x : Int)])) (AObj.row 75 3 [AV.int IntKind.i64 1, AV.int IntKind.u64 0, AV.int IntKind.u64 (↑x : Int)])) <| .a <| .q (@g (AObj.row 75 3 [AV.int IntKind.i64 1, AV.int IntKind.u64 0, AV.int IntKind.u64 (↑x : Int)])) <| .a <| .a <| .q (hat_up (@hat_nn H (AObj.row 75 3 [AV.int IntKind.i64 1, AV.int IntKind.u64 0, AV.int IntKind.u64 (↑x : Int)])) (AObj.row 75 3 [AV.int IntKind.i64 1, AV.int IntKind.u64 0, AV.int IntKind.u64 (↑x : Int)])) <| .a <| .q (@g (AObj.row 75 3 [AV.int IntKind.i64 1, AV.int IntKind.u64 0, AV.int IntKind.u64 (↑x : Int)])) <| .o (show ¬ ((↑x : Int) < (↑x : Int)) by omega) <| .e [(28, AV.bool false)] (hnew (hnew H (AObj.row 75 3 [AV.int IntKind.i64 1, AV.int IntKind.u64 0, AV.int IntKind.u64 (↑x : Int)])) (AObj.row 75 3 [AV.int IntKind.i64 1, AV.int IntKind.u64 0, AV.int IntKind.u64 (↑x : Int)]))) (by kernel_rfl) (D.cf (by kernel_rfl) (D.sq (D.ks (.a <| .q (hat_up (@hat_nn H (AObj.row 75 3 [AV.int IntKind.i64 1, AV.int IntKind.u64 0, AV.int IntKind.u64 (↑x : Int)])) (AObj.row 75 3 [AV.int IntKind.i64 1, AV.int IntKind.u64 0, AV.int IntKind.u64 (↑x : Int)])) <| .a <| .q (@g (AObj.row 75 3 [AV.int IntKind.i64 1, AV.int IntKind.u64 0, AV.int IntKind.u64 (↑x : Int)])) <| .a <| .a <| .q (hat_up (@hat_nn H (AObj.row 75 3 [AV.int IntKind.i64 1, AV.int IntKind.u64 0, AV.int IntKind.u64 (↑x : Int)])) (AObj.row 75 3 [AV.int IntKind.i64 1, AV.int IntKind.u64 0, AV.int IntKind.u64 (↑x : Int)])) <| .a <| .q (@g (AObj.row 75 3 [AV.int IntKind.i64 1, AV.int IntKind.u64 0, AV.int IntKind.u64 (↑x : Int)])) <| .o (show (↑x : Int) = (↑x : Int) by omega) <| .e [(48, AV.bool false)] (hnew (hnew H (AObj.row 75 3 [AV.int IntKind.i64 1, AV.int IntKind.u64 0, AV.int IntKind.u64 (↑x : Int)])) (AObj.row 75 3 [AV.int IntKind.i64 1, AV.int IntKind.u64 0, AV.int IntKind.u64 (↑x : Int)]))) (by kernel_rfl) (D.cf (by kernel_rfl) (D.skip (Kb_n' (Ks_n' (D.sq (D.ks (.a <| .q (hat_up (@hat_nn H (AObj.row 75 3 [AV.int IntKind.i64 1, AV.int IntKind.u64 0, AV.int IntKind.u64 (↑x : Int)])) (AObj.row 75 3 [AV.int IntKind.i64 1, AV.int IntKind.u64 0, AV.int IntKind.u64 (↑x : Int)])) <| .a <| .e [(8, AV.int IntKind.i64 0)] (hnew (hnew H (AObj.row 75 3 [AV.int IntKind.i64 1, AV.int IntKind.u64 0, AV.int IntKind.u64 (↑x : Int)])) (AObj.row 75 3 [AV.int IntKind.i64 1, AV.int IntKind.u64 0, AV.int IntKind.u64 (↑x : Int)]))) (by kernel_rfl) (D.ret (Kf_by (AV.int IntKind.i64 0) (.r (AV.int IntKind.i64 0)) (by kernel_rfl) ?_))))))))))))))))))))))))))
    exact ⟨rfl, (Keep.new _ _).trans (Keep.new _ _)⟩
  have hr : crs x y = 1 := by unfold crs; rw [if_neg h1, if_neg h2]
  rw [hr]
  refine D.sq (D.ks (.e [(8, AV.int IntKind.i64 0)] H) (by kernel_rfl) (D.sq (D.ks (.c (@p1 H) <| .c (@p2 H) <| .h (st_up (st_top (H := H) (t := 75) (e := 3) (cs := [AV.int IntKind.i64 0, AV.int IntKind.u64 0, AV.int IntKind.u64 0]) (off := 0) (vs := [AV.int IntKind.i64 (↑1 : Int), AV.int IntKind.u64 0, AV.int IntKind.u64 (↑x : Int)]) (cs' := [AV.int IntKind.i64 1, AV.int IntKind.u64 0, AV.int IntKind.u64 (↑x : Int)]) rfl rfl rfl) (AObj.row 75 3 [AV.int IntKind.i64 0, AV.int IntKind.u64 0, AV.int IntKind.u64 0])) <| .h (@w 1 y) <| .e [(10, AV.ptr (Loc.own (List.length (hnew H (AObj.row 75 3 [AV.int IntKind.i64 0, AV.int IntKind.u64 0, AV.int IntKind.u64 0])))) 0), (9, AV.ptr (Loc.own (List.length H)) 0)] (hnew (hnew H (AObj.row 75 3 [AV.int IntKind.i64 1, AV.int IntKind.u64 0, AV.int IntKind.u64 (↑x : Int)])) (AObj.row 75 3 [AV.int IntKind.i64 (↑1 : Int), AV.int IntKind.u64 0, AV.int IntKind.u64 (↑y : Int)]))) (by kernel_rfl) (D.sq (D.sq (D.ks (.a <| .q (hat_up (@hat_nn H (AObj.row 75 3 [AV.int IntKind.i64 1, AV.int IntKind.u64 0, AV.int IntKind.u64 (↑x : Int)])) (AObj.row 75 3 [AV.int IntKind.i64 1, AV.int IntKind.u64 0, AV.int IntKind.u64 (↑y : Int)])) <| .a <| .q (@g (AObj.row 75 3 [AV.int IntKind.i64 1, AV.int IntKind.u64 0, AV.int IntKind.u64 (↑y : Int)])) <| .a <| .e [(22, AV.bool false)] (hnew (hnew H (AObj.row 75 3 [AV.int IntKind.i64 1, AV.int IntKind.u64 0, AV.int IntKind.u64 (↑x : Int)])) (AObj.row 75 3 [AV.int IntKind.i64 1, AV.int IntKind.u64 0, AV.int IntKind.u64 (↑y : Int)]))) (by kernel_rfl) (D.cf (by kernel_rfl) (D.skip (Ks_n' (D.sq (D.ks (.e [(11, AV.int IntKind.i64 0)] (hnew (hnew H (AObj.row 75 3 [AV.int IntKind.i64 1, AV.int IntKind.u64 0, AV.int IntKind.u64 (↑x : Int)])) (AObj.row 75 3 [AV.int IntKind.i64 1, AV.int IntKind.u64 0, AV.int IntKind.u64 (↑y : Int)]))) (by kernel_rfl) (D.sq (D.bl (D.sq (D.ks (.a <| .q (hat_up (@hat_nn H (AObj.row 75 3 [AV.int IntKind.i64 1, AV.int IntKind.u64 0, AV.int IntKind.u64 (↑x : Int)])) (AObj.row 75 3 [AV.int IntKind.i64 1, AV.int IntKind.u64 0, AV.int IntKind.u64 (↑y : Int)])) <| .a <| .q (@g (AObj.row 75 3 [AV.int IntKind.i64 1, AV.int IntKind.u64 0, AV.int IntKind.u64 (↑y : Int)])) <| .a <| .a <| .q (hat_up (@hat_nn H (AObj.row 75 3 [AV.int IntKind.i64 1, AV.int IntKind.u64 0, AV.int IntKind.u64 (↑x : Int)])) (AObj.row 75 3 [AV.int IntKind.i64 1, AV.int IntKind.u64 0, AV.int IntKind.u64 (↑y : Int)])) <| .a <| .q (@g (AObj.row 75 3 [AV.int IntKind.i64 1, AV.int IntKind.u64 0, AV.int IntKind.u64 (↑y : Int)])) <| .a <| .a <| .q (hat_up (@hat_nn H (AObj.row 75 3 [AV.int IntKind.i64 1, AV.int IntKind.u64 0, AV.int IntKind.u64 (↑x : Int)])) (AObj.row 75 3 [AV.int IntKind.i64 1, AV.int IntKind.u64 0, AV.int IntKind.u64 (↑y : Int)])) <| .a <| .q (@g (AObj.row 75 3 [AV.int IntKind.i64 1, AV.int IntKind.u64 0, AV.int IntKind.u64 (↑y : Int)])) <| .o (show ¬ ((↑x : Int) < (↑y : Int)) by omega) <| .e [(28, AV.bool false)] (hnew (hnew H (AObj.row 75 3 [AV.int IntKind.i64 1, AV.int IntKind.u64 0, AV.int IntKind.u64 (↑x : Int)])) (AObj.row 75 3 [AV.int IntKind.i64 1, AV.int IntKind.u64 0, AV.int IntKind.u64 (↑y : Int)]))) (by kernel_rfl) (D.cf (by kernel_rfl) (D.sq (D.ks (.a <| .q (hat_up (@hat_nn H (AObj.row 75 3 [AV.int IntKind.i64 1, AV.int IntKind.u64 0, AV.int IntKind.u64 (↑x : Int)])) (AObj.row 75 3 [AV.int IntKind.i64 1, AV.int IntKind.u64 0, AV.int IntKind.u64 (↑y : Int)])) <| .a <| .q (@g (AObj.row 75 3 [AV.int IntKind.i64 1, AV.int IntKind.u64 0, AV.int IntKind.u64 (↑y : Int)])) <| .a <| .a <| .q (hat_up (@hat_nn H (AObj.row 75 3 [AV.int IntKind.i64 1, AV.int IntKind.u64 0, AV.int IntKind.u64 (↑x : Int)])) (AObj.row 75 3 [AV.int IntKind.i64 1, AV.int IntKind.u64 0, AV.int IntKind.u64 (↑y : Int)])) <| .a <| .q (@g (AObj.row 75 3 [AV.int IntKind.i64 1, AV.int IntKind.u64 0, AV.int IntKind.u64 (↑y : Int)])) <| .y (show ¬ ((↑x : Int) = (↑y : Int)) by omega) <| .e [(48, AV.bool true)] (hnew (hnew H (AObj.row 75 3 [AV.int IntKind.i64 1, AV.int IntKind.u64 0, AV.int IntKind.u64 (↑x : Int)])) (AObj.row 75 3 [AV.int IntKind.i64 1, AV.int IntKind.u64 0, AV.int IntKind.u64 (↑y : Int)]))) (by kernel_rfl) (D.ct (by kernel_rfl) (D.kr (.e [(11, AV.int IntKind.i64 1)] (hnew (hnew H (AObj.row 75 3 [AV.int IntKind.i64 1, AV.int IntKind.u64 0, AV.int IntKind.u64 (↑x : Int)])) (AObj.row 75 3 [AV.int IntKind.i64 1, AV.int IntKind.u64 0, AV.int IntKind.u64 (↑y : Int)]))) (by kernel_rfl) (Kb_n' (Ks_n' (D.sq (D.ks (.a <| .q (hat_up (@hat_nn H (AObj.row 75 3 [AV.int IntKind.i64 1, AV.int IntKind.u64 0, AV.int IntKind.u64 (↑x : Int)])) (AObj.row 75 3 [AV.int IntKind.i64 1, AV.int IntKind.u64 0, AV.int IntKind.u64 (↑y : Int)])) <| .a <| .e [(8, AV.int IntKind.i64 1)] (hnew (hnew H (AObj.row 75 3 [AV.int IntKind.i64 1, AV.int IntKind.u64 0, AV.int IntKind.u64 (↑x : Int)])) (AObj.row 75 3 [AV.int IntKind.i64 1, AV.int IntKind.u64 0, AV.int IntKind.u64 (↑y : Int)]))) (by kernel_rfl) (D.ret (Kf_by (AV.int IntKind.i64 1) (.r (AV.int IntKind.i64 1)) (by kernel_rfl) ?_))))))))))))))))))))))))))
  exact ⟨rfl, (Keep.new _ _).trans (Keep.new _ _)⟩
theorem fless_p (a b c d : Nat) (ha : a < 4294967296) (hb : b < 4294967296) (hc : c < 4294967296) (hd : d < 4294967296) : Pt (kn G base w0) 11 [rt a b, rt c d] H (.bool (decide (a * d < c * b))) H := by
  refine Pt.pure ?_ rfl
  refine Pt.fn (n := 15) (rs := [.tmp 4]) Try.func11 (b := _) rfl rfl rfl (by decide) ?_
  simp only [numbered]
  have p1 := fun H => cross_p (G := G) (base := base) (w0 := w0) (H := H) a d c b ha hd hc hb
  by_cases h1 : a * d < c * b
  · have hr : crs (a * d) (c * b) = -1 := by unfold crs; rw [if_pos h1]
    rw [hr] at p1
    rw [decide_eq_true h1]
    refine D.sq (D.ks (.a <| .a <| .e [(4, AV.bool false), (3, AV.ptr (Loc.own (List.length (hnew H (AObj.row 37 2 [AV.int IntKind.i64 (↑a : Int), AV.int IntKind.i64 (↑b : Int)])))) 0), (2, AV.ptr (Loc.own (List.length H)) 0)] (hnew (hnew H (AObj.row 37 2 [AV.int IntKind.i64 (↑a : Int), AV.int IntKind.i64 (↑b : Int)])) (AObj.row 37 2 [AV.int IntKind.i64 (↑c : Int), AV.int IntKind.i64 (↑d : Int)]))) (by kernel_rfl) (D.sq (D.ks (.a <| .q (hat_up (@hat_nn H (AObj.row 37 2 [AV.int IntKind.i64 (↑a : Int), AV.int IntKind.i64 (↑b : Int)])) (AObj.row 37 2 [AV.int IntKind.i64 (↑c : Int), AV.int IntKind.i64 (↑d : Int)])) <| .a <| .q (@hat_nn (hnew H (AObj.row 37 2 [AV.int IntKind.i64 (↑a : Int), AV.int IntKind.i64 (↑b : Int)])) (AObj.row 37 2 [AV.int IntKind.i64 (↑c : Int), AV.int IntKind.i64 (↑d : Int)])) <| .a <| .q (@hat_nn (hnew H (AObj.row 37 2 [AV.int IntKind.i64 (↑a : Int), AV.int IntKind.i64 (↑b : Int)])) (AObj.row 37 2 [AV.int IntKind.i64 (↑c : Int), AV.int IntKind.i64 (↑d : Int)])) <| .a <| .q (hat_up (@hat_nn H (AObj.row 37 2 [AV.int IntKind.i64 (↑a : Int), AV.int IntKind.i64 (↑b : Int)])) (AObj.row 37 2 [AV.int IntKind.i64 (↑c : Int), AV.int IntKind.i64 (↑d : Int)])) <| .c (@p1 (hnew (hnew H (AObj.row 37 2 [AV.int IntKind.i64 (↑a : Int), AV.int IntKind.i64 (↑b : Int)])) (AObj.row 37 2 [AV.int IntKind.i64 (↑c : Int), AV.int IntKind.i64 (↑d : Int)]))) <| .a <| .e [(4, AV.bool true)] (hnew (hnew H (AObj.row 37 2 [AV.int IntKind.i64 (↑a : Int), AV.int IntKind.i64 (↑b : Int)])) (AObj.row 37 2 [AV.int IntKind.i64 (↑c : Int), AV.int IntKind.i64 (↑d : Int)]))) (by kernel_rfl) (D.ret (Kf_by (AV.bool true) (.r (AV.bool true)) (by kernel_rfl) ?_)))))
    exact ⟨rfl, (Keep.new _ _).trans (Keep.new _ _)⟩
  have hr : crs (a * d) (c * b) = 0 ∨ crs (a * d) (c * b) = 1 := by unfold crs; rw [if_neg h1]; split <;> simp
  rw [decide_eq_false h1]
  rcases hr with hr | hr
  · rw [hr] at p1
    refine D.sq (D.ks (.a <| .a <| .e [(4, AV.bool false), (3, AV.ptr (Loc.own (List.length (hnew H (AObj.row 37 2 [AV.int IntKind.i64 (↑a : Int), AV.int IntKind.i64 (↑b : Int)])))) 0), (2, AV.ptr (Loc.own (List.length H)) 0)] (hnew (hnew H (AObj.row 37 2 [AV.int IntKind.i64 (↑a : Int), AV.int IntKind.i64 (↑b : Int)])) (AObj.row 37 2 [AV.int IntKind.i64 (↑c : Int), AV.int IntKind.i64 (↑d : Int)]))) (by kernel_rfl) (D.sq (D.ks (.a <| .q (hat_up (@hat_nn H (AObj.row 37 2 [AV.int IntKind.i64 (↑a : Int), AV.int IntKind.i64 (↑b : Int)])) (AObj.row 37 2 [AV.int IntKind.i64 (↑c : Int), AV.int IntKind.i64 (↑d : Int)])) <| .a <| .q (@hat_nn (hnew H (AObj.row 37 2 [AV.int IntKind.i64 (↑a : Int), AV.int IntKind.i64 (↑b : Int)])) (AObj.row 37 2 [AV.int IntKind.i64 (↑c : Int), AV.int IntKind.i64 (↑d : Int)])) <| .a <| .q (@hat_nn (hnew H (AObj.row 37 2 [AV.int IntKind.i64 (↑a : Int), AV.int IntKind.i64 (↑b : Int)])) (AObj.row 37 2 [AV.int IntKind.i64 (↑c : Int), AV.int IntKind.i64 (↑d : Int)])) <| .a <| .q (hat_up (@hat_nn H (AObj.row 37 2 [AV.int IntKind.i64 (↑a : Int), AV.int IntKind.i64 (↑b : Int)])) (AObj.row 37 2 [AV.int IntKind.i64 (↑c : Int), AV.int IntKind.i64 (↑d : Int)])) <| .c (@p1 (hnew (hnew H (AObj.row 37 2 [AV.int IntKind.i64 (↑a : Int), AV.int IntKind.i64 (↑b : Int)])) (AObj.row 37 2 [AV.int IntKind.i64 (↑c : Int), AV.int IntKind.i64 (↑d : Int)]))) <| .a <| .e [(4, AV.bool false)] (hnew (hnew H (AObj.row 37 2 [AV.int IntKind.i64 (↑a : Int), AV.int IntKind.i64 (↑b : Int)])) (AObj.row 37 2 [AV.int IntKind.i64 (↑c : Int), AV.int IntKind.i64 (↑d : Int)]))) (by kernel_rfl) (D.ret (Kf_by (AV.bool false) (.r (AV.bool false)) (by kernel_rfl) ?_)))))
    exact ⟨rfl, (Keep.new _ _).trans (Keep.new _ _)⟩
  · rw [hr] at p1
    refine D.sq (D.ks (.a <| .a <| .e [(4, AV.bool false), (3, AV.ptr (Loc.own (List.length (hnew H (AObj.row 37 2 [AV.int IntKind.i64 (↑a : Int), AV.int IntKind.i64 (↑b : Int)])))) 0), (2, AV.ptr (Loc.own (List.length H)) 0)] (hnew (hnew H (AObj.row 37 2 [AV.int IntKind.i64 (↑a : Int), AV.int IntKind.i64 (↑b : Int)])) (AObj.row 37 2 [AV.int IntKind.i64 (↑c : Int), AV.int IntKind.i64 (↑d : Int)]))) (by kernel_rfl) (D.sq (D.ks (.a <| .q (hat_up (@hat_nn H (AObj.row 37 2 [AV.int IntKind.i64 (↑a : Int), AV.int IntKind.i64 (↑b : Int)])) (AObj.row 37 2 [AV.int IntKind.i64 (↑c : Int), AV.int IntKind.i64 (↑d : Int)])) <| .a <| .q (@hat_nn (hnew H (AObj.row 37 2 [AV.int IntKind.i64 (↑a : Int), AV.int IntKind.i64 (↑b : Int)])) (AObj.row 37 2 [AV.int IntKind.i64 (↑c : Int), AV.int IntKind.i64 (↑d : Int)])) <| .a <| .q (@hat_nn (hnew H (AObj.row 37 2 [AV.int IntKind.i64 (↑a : Int), AV.int IntKind.i64 (↑b : Int)])) (AObj.row 37 2 [AV.int IntKind.i64 (↑c : Int), AV.int IntKind.i64 (↑d : Int)])) <| .a <| .q (hat_up (@hat_nn H (AObj.row 37 2 [AV.int IntKind.i64 (↑a : Int), AV.int IntKind.i64 (↑b : Int)])) (AObj.row 37 2 [AV.int IntKind.i64 (↑c : Int), AV.int IntKind.i64 (↑d : Int)])) <| .c (@p1 (hnew (hnew H (AObj.row 37 2 [AV.int IntKind.i64 (↑a : Int), AV.int IntKind.i64 (↑b : Int)])) (AObj.row 37 2 [AV.int IntKind.i64 (↑c : Int), AV.int IntKind.i64 (↑d : Int)]))) <| .a <| .e [(4, AV.bool false)] (hnew (hnew H (AObj.row 37 2 [AV.int IntKind.i64 (↑a : Int), AV.int IntKind.i64 (↑b : Int)])) (AObj.row 37 2 [AV.int IntKind.i64 (↑c : Int), AV.int IntKind.i64 (↑d : Int)]))) (by kernel_rfl) (D.ret (Kf_by (AV.bool false) (.r (AV.bool false)) (by kernel_rfl) ?_)))))
    exact ⟨rfl, (Keep.new _ _).trans (Keep.new _ _)⟩
end Go.Proofs.Ytcbholgcbjddjaa.sy

/- ref1's fractions (own work): Plus, TaskMay. -/
namespace Go.Proofs.Ytcbholgcbjddjaa.sy
open Go.AM Go.AM.Jb
set_option linter.unusedSimpArgs false
set_option linter.unusedVariables false
variable {G : List Nat → Option (List AV)} {base : Nat} {w0 : World}
set_option maxRecDepth 100000
set_option maxHeartbeats 8000000
variable {H : AHeap}
def RF : FuncId → List AV → AV → Prop
  | 25, l, v => ∃ a b : Nat, l = [.int .i64 a, .int .i64 b] ∧ v = .int .i64 (Nat.gcd a b)
  | 26, l, v => ∃ a b : Nat, l = [.int .i64 a, .int .i64 b] ∧ v = rt (a / Nat.gcd a b) (b / Nat.gcd a b)
  | _, _, _ => False
theorem c26 (a b : Nat) (ha : a < 4611686018427387904) (hb : b < 4611686018427387904) (h0 : 0 < b) (H : AHeap) : callT (kn G base w0) (pureT RF) 26 [.int .i64 a, .int .i64 b] H = some (rt (a / Nat.gcd a b) (b / Nat.gcd a b), H) :=
  pureT_call (fof_p a b ha hb h0) ⟨a, b, rfl, rfl⟩ (by
    rintro v' ⟨a', b', h, rfl⟩
    simp at h
    obtain ⟨h1, h2⟩ := h
    obtain rfl : a = a' := by omega
    obtain rfl : b = b' := by omega
    rfl)
theorem c25 (a b : Nat) (ha : a < 4611686018427387904) (hb : b < 4611686018427387904) (H : AHeap) : callT (kn G base w0) (pureT RF) 25 [.int .i64 a, .int .i64 b] H = some (.int .i64 (Nat.gcd a b), H) :=
  pureT_call (fgcd_p a b ha hb) ⟨a, b, rfl, rfl⟩ (by
    rintro v' ⟨a', b', h, rfl⟩
    simp at h
    obtain ⟨h1, h2⟩ := h
    obtain rfl : a = a' := by omega
    obtain rfl : b = b' := by omega
    rfl)
theorem mulI (x y : Nat) (h : x * y < 9223372036854775808) (t : TypeId) : abin (kn G base w0).c .mul t (.int .i64 x) (.int .i64 y) = some (.int .i64 ((x * y : Nat) : Int)) := by
  simp only [abin, if_true, aint]
  congr 2
  exact wrap_to (by rw [Int.natCast_mul]) (by omega) (by omega)
theorem addI (x y : Nat) (h : x + y < 9223372036854775808) (t : TypeId) : abin (kn G base w0).c .add t (.int .i64 x) (.int .i64 y) = some (.int .i64 ((x + y : Nat) : Int)) := by
  simp only [abin, if_true, aint]
  congr 2
  exact wrap_to (by rw [Int.natCast_add]) (by omega) (by omega)
theorem fplus_p (a b c d : Nat) (ha : a < 2147483648) (hb : b < 1073741824) (hc : c < 2147483648) (hd : d < 1073741824) (hb0 : 0 < b) (hd0 : 0 < d) :
    Pt (kn G base w0) 12 [rt a b, rt c d] H (rt ((a * (d / Nat.gcd b d) + c * (b / Nat.gcd b d)) / Nat.gcd (a * (d / Nat.gcd b d) + c * (b / Nat.gcd b d)) (b / Nat.gcd b d * d)) ((b / Nat.gcd b d * d) / Nat.gcd (a * (d / Nat.gcd b d) + c * (b / Nat.gcd b d)) (b / Nat.gcd b d * d))) H := by
  refine Pt.pure ?_ rfl
  refine Pt.fn (n := 34) (rs := [.cell 4 37]) Try.func12 (b := _) rfl rfl rfl (by decide) ?_
  simp only [numbered]
  have p1 := fun H => fgcd_p (G := G) (base := base) (w0 := w0) (H := H) b d (by omega) (by omega)
  have hg : 0 < Nat.gcd b d := Nat.gcd_pos_of_pos_right _ hd0
  have i1 : 0 < b / Nat.gcd b d := Nat.div_pos (Nat.le_of_dvd hb0 (Nat.gcd_dvd_left _ _)) hg
  have q1 := quoI (G := G) (base := base) (w0 := w0) b (Nat.gcd b d) (by omega) hg
  have q2 := quoI (G := G) (base := base) (w0 := w0) d (Nat.gcd b d) (by omega) hg
  have j1 := div_lt b (Nat.gcd b d) _ hb
  have j2 := div_lt d (Nat.gcd b d) _ hd
  generalize b / Nat.gcd b d = u at *
  generalize d / Nat.gcd b d = v at *
  have k1 : a * v < 2305843009213693952 := by have := Nat.mul_lt_mul'' ha j2; omega
  have k2 : c * u < 2305843009213693952 := by have := Nat.mul_lt_mul'' hc j1; omega
  have k3 : u * d < 2305843009213693952 := by have := Nat.mul_lt_mul'' j1 hd; omega
  have m1 := mulI (G := G) (base := base) (w0 := w0) a v (by omega)
  have m2 := mulI (G := G) (base := base) (w0 := w0) c u (by omega)
  have m3 := mulI (G := G) (base := base) (w0 := w0) u d (by omega)
  have m4 := addI (G := G) (base := base) (w0 := w0) (a * v) (c * u) (by omega)
  have c1 := fun H => c26 (G := G) (base := base) (w0 := w0) (a * v + c * u) (u * d) (by omega) (by omega) (Nat.mul_pos i1 hd0) H
  refine D.sq (D.ks (.a <| .a <| .e [(4, AV.ptr (Loc.own (List.length (hnew (hnew H (AObj.row 37 2 [AV.int IntKind.i64 (↑a : Int), AV.int IntKind.i64 (↑b : Int)])) (AObj.row 37 2 [AV.int IntKind.i64 (↑c : Int), AV.int IntKind.i64 (↑d : Int)])))) 0), (3, AV.ptr (Loc.own (List.length (hnew H (AObj.row 37 2 [AV.int IntKind.i64 (↑a : Int), AV.int IntKind.i64 (↑b : Int)])))) 0), (2, AV.ptr (Loc.own (List.length H)) 0)] (hnew (hnew (hnew H (AObj.row 37 2 [AV.int IntKind.i64 (↑a : Int), AV.int IntKind.i64 (↑b : Int)])) (AObj.row 37 2 [AV.int IntKind.i64 (↑c : Int), AV.int IntKind.i64 (↑d : Int)])) (AObj.row 37 2 [AV.int IntKind.i64 0, AV.int IntKind.i64 0]))) (by kernel_rfl) (D.sq (D.ks (.a <| .q (hat_up (hat_up (@hat_nn H (AObj.row 37 2 [AV.int IntKind.i64 (↑a : Int), AV.int IntKind.i64 (↑b : Int)])) (AObj.row 37 2 [AV.int IntKind.i64 (↑c : Int), AV.int IntKind.i64 (↑d : Int)])) (AObj.row 37 2 [AV.int IntKind.i64 0, AV.int IntKind.i64 0])) <| .a <| .q (hat_up (@hat_nn (hnew H (AObj.row 37 2 [AV.int IntKind.i64 (↑a : Int), AV.int IntKind.i64 (↑b : Int)])) (AObj.row 37 2 [AV.int IntKind.i64 (↑c : Int), AV.int IntKind.i64 (↑d : Int)])) (AObj.row 37 2 [AV.int IntKind.i64 0, AV.int IntKind.i64 0])) <| .c (@p1 (hnew (hnew (hnew H (AObj.row 37 2 [AV.int IntKind.i64 (↑a : Int), AV.int IntKind.i64 (↑b : Int)])) (AObj.row 37 2 [AV.int IntKind.i64 (↑c : Int), AV.int IntKind.i64 (↑d : Int)])) (AObj.row 37 2 [AV.int IntKind.i64 0, AV.int IntKind.i64 0]))) <| .e [(5, AV.int IntKind.i64 (↑(Nat.gcd b d) : Int))] (hnew (hnew (hnew H (AObj.row 37 2 [AV.int IntKind.i64 (↑a : Int), AV.int IntKind.i64 (↑b : Int)])) (AObj.row 37 2 [AV.int IntKind.i64 (↑c : Int), AV.int IntKind.i64 (↑d : Int)])) (AObj.row 37 2 [AV.int IntKind.i64 0, AV.int IntKind.i64 0]))) (by kernel_rfl) (D.sq (D.kws (pureT RF) [22] (.a <| .q (hat_up (hat_up (@hat_nn H (AObj.row 37 2 [AV.int IntKind.i64 (↑a : Int), AV.int IntKind.i64 (↑b : Int)])) (AObj.row 37 2 [AV.int IntKind.i64 (↑c : Int), AV.int IntKind.i64 (↑d : Int)])) (AObj.row 37 2 [AV.int IntKind.i64 0, AV.int IntKind.i64 0])) <| .a <| .q (hat_up (@hat_nn (hnew H (AObj.row 37 2 [AV.int IntKind.i64 (↑a : Int), AV.int IntKind.i64 (↑b : Int)])) (AObj.row 37 2 [AV.int IntKind.i64 (↑c : Int), AV.int IntKind.i64 (↑d : Int)])) (AObj.row 37 2 [AV.int IntKind.i64 0, AV.int IntKind.i64 0])) <| .v (@q2 2) <| .n (@wrap_to ((↑a : Int) * (↑v : Int)) ((↑(a * v) : Int)) (by omega) (by omega) (by omega)) <| .a <| .q (hat_up (@hat_nn (hnew H (AObj.row 37 2 [AV.int IntKind.i64 (↑a : Int), AV.int IntKind.i64 (↑b : Int)])) (AObj.row 37 2 [AV.int IntKind.i64 (↑c : Int), AV.int IntKind.i64 (↑d : Int)])) (AObj.row 37 2 [AV.int IntKind.i64 0, AV.int IntKind.i64 0])) <| .a <| .q (hat_up (hat_up (@hat_nn H (AObj.row 37 2 [AV.int IntKind.i64 (↑a : Int), AV.int IntKind.i64 (↑b : Int)])) (AObj.row 37 2 [AV.int IntKind.i64 (↑c : Int), AV.int IntKind.i64 (↑d : Int)])) (AObj.row 37 2 [AV.int IntKind.i64 0, AV.int IntKind.i64 0])) <| .v (@q1 2) <| .n (@wrap_to ((↑c : Int) * (↑u : Int)) ((↑(c * u) : Int)) (by omega) (by omega) (by omega)) <| .n (@wrap_to ((↑(a * v) : Int) + (↑(c * u) : Int)) ((↑(a * v + c * u) : Int)) (by omega) (by omega) (by omega)) <| .a <| .q (hat_up (hat_up (@hat_nn H (AObj.row 37 2 [AV.int IntKind.i64 (↑a : Int), AV.int IntKind.i64 (↑b : Int)])) (AObj.row 37 2 [AV.int IntKind.i64 (↑c : Int), AV.int IntKind.i64 (↑d : Int)])) (AObj.row 37 2 [AV.int IntKind.i64 0, AV.int IntKind.i64 0])) <| .v (@q1 2) <| .a <| .q (hat_up (@hat_nn (hnew H (AObj.row 37 2 [AV.int IntKind.i64 (↑a : Int), AV.int IntKind.i64 (↑b : Int)])) (AObj.row 37 2 [AV.int IntKind.i64 (↑c : Int), AV.int IntKind.i64 (↑d : Int)])) (AObj.row 37 2 [AV.int IntKind.i64 0, AV.int IntKind.i64 0])) <| .n (@wrap_to ((↑u : Int) * (↑d : Int)) ((↑(u * d) : Int)) (by omega) (by omega) (by omega)) <| .vh (@c1 (hnew (hnew (hnew H (AObj.row 37 2 [AV.int IntKind.i64 (↑a : Int), AV.int IntKind.i64 (↑b : Int)])) (AObj.row 37 2 [AV.int IntKind.i64 (↑c : Int), AV.int IntKind.i64 (↑d : Int)])) (AObj.row 37 2 [AV.int IntKind.i64 0, AV.int IntKind.i64 0]))) <| .h (st_top (H := hnew (hnew H (AObj.row 37 2 [AV.int IntKind.i64 (↑a : Int), AV.int IntKind.i64 (↑b : Int)])) (AObj.row 37 2 [AV.int IntKind.i64 (↑c : Int), AV.int IntKind.i64 (↑d : Int)])) (t := 37) (e := 2) (cs := [AV.int IntKind.i64 0, AV.int IntKind.i64 0]) (off := 0) (vs := [AV.int IntKind.i64 (↑((a * v + c * u) / Nat.gcd (a * v + c * u) (u * d)) : Int), AV.int IntKind.i64 (↑(u * d / Nat.gcd (a * v + c * u) (u * d)) : Int)]) (cs' := [AV.int IntKind.i64 (↑((a * v + c * u) / Nat.gcd (a * v + c * u) (u * d)) : Int), AV.int IntKind.i64 (↑(u * d / Nat.gcd (a * v + c * u) (u * d)) : Int)]) rfl rfl rfl) <| .e [] (hnew (hnew (hnew H (AObj.row 37 2 [AV.int IntKind.i64 (↑a : Int), AV.int IntKind.i64 (↑b : Int)])) (AObj.row 37 2 [AV.int IntKind.i64 (↑c : Int), AV.int IntKind.i64 (↑d : Int)])) (AObj.row 37 2 [AV.int IntKind.i64 (↑((a * v + c * u) / Nat.gcd (a * v + c * u) (u * d)) : Int), AV.int IntKind.i64 (↑(u * d / Nat.gcd (a * v + c * u) (u * d)) : Int)]))) (by kernel_rfl) (D.ret (Kf_by (AV.agg [AV.int IntKind.i64 (↑((a * v + c * u) / Nat.gcd (a * v + c * u) (u * d)) : Int), AV.int IntKind.i64 (↑(u * d / Nat.gcd (a * v + c * u) (u * d)) : Int)]) (.v (ld_ownA (c := (Kn.c (kn G base w0))) (t := 37) (@hat_nn (hnew (hnew H (AObj.row 37 2 [AV.int IntKind.i64 (↑a : Int), AV.int IntKind.i64 (↑b : Int)])) (AObj.row 37 2 [AV.int IntKind.i64 (↑c : Int), AV.int IntKind.i64 (↑d : Int)])) (AObj.row 37 2 [AV.int IntKind.i64 (↑((a * v + c * u) / Nat.gcd (a * v + c * u) (u * d)) : Int), AV.int IntKind.i64 (↑(u * d / Nat.gcd (a * v + c * u) (u * d)) : Int)])) (by kernel_rfl) (by kernel_rfl)) <| .r (AV.agg [AV.int IntKind.i64 (↑((a * v + c * u) / Nat.gcd (a * v + c * u) (u * d)) : Int), AV.int IntKind.i64 (↑(u * d / Nat.gcd (a * v + c * u) (u * d)) : Int)])) (by kernel_rfl) ?_)))))))
  exact ⟨rfl, ((Keep.new _ _).trans (Keep.new _ _)).trans (Keep.new _ _)⟩
/-- may a task be, by its numbers -/
def fmay (e p : Int) : Prop := 1 ≤ e ∧ e ≤ p ∧ p ≤ 1048575
instance (e p : Int) : Decidable (fmay e p) := by unfold fmay; infer_instance
theorem tmay_p (e p : Int) : Pt (kn G base w0) 13 [.int .i64 e, .int .i64 p] H (.bool (decide (fmay e p))) H := by
  refine Pt.pure ?_ rfl
  refine Pt.fn (n := 20) (rs := [.tmp 4]) Try.func13 (b := _) rfl rfl rfl (by decide) ?_
  simp only [numbered]
  by_cases h0 : 1 ≤ p
  · by_cases h3 : p ≤ 1048575
    · by_cases h1 : 1 ≤ e
      · by_cases h2 : e ≤ p
        · refine D.sq (D.ks (.e [(4, AV.bool false)] H) (by kernel_rfl) (D.sq (D.ks (.y (show 1 ≤ p by omega) <| .y (show p ≤ 1048575 by omega) <| .y (show 1 ≤ e by omega) <| .y (show e ≤ p by omega) <| .e [(4, AV.bool true)] H) (by kernel_rfl) (D.ret (Kf_by (AV.bool true) (.r (AV.bool true)) (by kernel_rfl) ?_)))))
          exact ⟨by rw [decide_eq_true (show fmay e p from ⟨h1, h2, h3⟩)], Keep.refl _⟩
        · refine D.sq (D.ks (.e [(4, AV.bool false)] H) (by kernel_rfl) (D.sq (D.ks (.y (show 1 ≤ p by omega) <| .y (show p ≤ 1048575 by omega) <| .y (show 1 ≤ e by omega) <| .o (show ¬ (e ≤ p) by omega) <| .e [(4, AV.bool false)] H) (by kernel_rfl) (D.ret (Kf_by (AV.bool false) (.r (AV.bool false)) (by kernel_rfl) ?_)))))
          exact ⟨by rw [decide_eq_false (show ¬ fmay e p from fun h => h2 h.2.1)], Keep.refl _⟩
      · refine D.sq (D.ks (.e [(4, AV.bool false)] H) (by kernel_rfl) (D.sq (D.ks (.y (show 1 ≤ p by omega) <| .y (show p ≤ 1048575 by omega) <| .o (show ¬ (1 ≤ e) by omega) <| .e [(4, AV.bool false)] H) (by kernel_rfl) (D.ret (Kf_by (AV.bool false) (.r (AV.bool false)) (by kernel_rfl) ?_)))))
        exact ⟨by rw [decide_eq_false (show ¬ fmay e p from fun h => h1 h.1)], Keep.refl _⟩
    · refine D.sq (D.ks (.e [(4, AV.bool false)] H) (by kernel_rfl) (D.sq (D.ks (.y (show 1 ≤ p by omega) <| .o (show ¬ (p ≤ 1048575) by omega) <| .e [(4, AV.bool false)] H) (by kernel_rfl) (D.ret (Kf_by (AV.bool false) (.r (AV.bool false)) (by kernel_rfl) ?_)))))
      exact ⟨by rw [decide_eq_false (show ¬ fmay e p from fun h => h3 h.2.2)], Keep.refl _⟩
  · refine D.sq (D.ks (.e [(4, AV.bool false)] H) (by kernel_rfl) (D.sq (D.ks (.o (show ¬ (1 ≤ p) by omega) <| .e [(4, AV.bool false)] H) (by kernel_rfl) (D.ret (Kf_by (AV.bool false) (.r (AV.bool false)) (by kernel_rfl) ?_)))))
    exact ⟨by rw [decide_eq_false (show ¬ fmay e p from fun h => h0 (Int.le_trans h.1 h.2.1))], Keep.refl _⟩
end Go.Proofs.Ytcbholgcbjddjaa.sy

/- ref1's least common multiple (own work). -/
namespace Go.Proofs.Ytcbholgcbjddjaa.sy
open Go.AM Go.AM.Jb
set_option linter.unusedSimpArgs false
set_option linter.unusedVariables false
variable {G : List Nat → Option (List AV)} {base : Nat} {w0 : World}
set_option maxRecDepth 100000
set_option maxHeartbeats 8000000
variable {H : AHeap}
/-- a task of ref1's -/
structure R3 where
  id : Int
  e : Nat
  p : Nat
def encR (s : R3) : List AV := [.int .i64 s.id, .int .i64 s.e, .int .i64 s.p]
def wR : Wd R3 := ⟨3, encR, by decide, fun _ => rfl, fun _ => rfl⟩
def lcmF : Nat → List R3 → Nat
  | n, [] => n
  | n, t :: l => if 16777216 < n / Nat.gcd n t.p * t.p then 16777217 else lcmF (n / Nat.gcd n t.p * t.p) l
theorem lcm_p {v : AV} {l : List R3} (hv : SlF (kn G base w0).c H wR v l) (hva : ∀ b, v.at? = some b → b < H.length) (hl : l.length ≤ 1000) (hq : ∀ t ∈ l, 0 < t.p ∧ t.p < 1048576) : Pt (kn G base w0) 14 [v] H (.int .i64 (lcmF 1 l)) H := by
  refine Pt.pure ?_ rfl
  refine Pt.fn (n := 29) (rs := [.tmp 2]) Try.func14 (b := _) rfl rfl rfl (by decide) ?_
  simp only [numbered]
  have e0 := hv.len (c := (kn G base w0).c) Try.underlying24
  refine D.sq (D.ks (.e [(2, AV.int IntKind.i64 0)] H) (by kernel_rfl) (D.sq (D.ks (.e [(3, AV.int IntKind.i64 1)] H) (by kernel_rfl) (D.sq (D.sq (D.ks (.e [(4, AV.int IntKind.i64 0)] H) (by kernel_rfl) (D.bl ?_)))))))
  refine D.lp (fun m env H' => ∃ (i n : Nat), m = l.length - i ∧ i ≤ l.length ∧ lcmF 1 l = lcmF n (l.drop i) ∧ 0 < n ∧ n ≤ 16777216 ∧ H = H' ∧ ELe (E 29 [(4, .int .i64 i), (3, .int .i64 n), (2, .int .i64 0), (0, v)]) env) l.length
    ⟨0, 1, by omega, by omega, rfl, by omega, by omega, rfl, by exact E_le (by decide) (E_size _ _) (by simp only [List.forall_mem_cons, List.not_mem_nil, false_implies, implies_true, and_true, List.cons_append, List.nil_append, Nat.zero_add, Nat.reduceAdd, E_get, Nat.reduceEqDiff, Nat.reduceLT, Nat.reduceLeDiff, if_true, if_false, and_self, true_and] <;> first | rfl | exact ⟨rfl, rfl⟩)⟩ ?_
  rintro m env H3 ⟨i, n, rfl, hi, hF, hn0, hn, rfl, he⟩
  refine D.forget he ?_
  clear he
  by_cases hin : i < l.length
  rotate_left
  · obtain rfl : i = l.length := by omega
    rw [List.drop_length] at hF
    rw [hF]
    simp only [lcmF]
    refine D.sq (D.sq (D.ks (.v e0 <| .o (show ¬ ((↑(List.length l) : Int) < (↑(List.length l) : Int)) by omega) <| .e [(8, AV.bool false)] H) (by kernel_rfl) (D.cf (by kernel_rfl) (D.exit (Ks_e' (Kl_e' (Kb_e' (Ks_n' (D.sq (D.ks (.e [(2, AV.int IntKind.i64 (↑n : Int))] H) (by kernel_rfl) (D.ret (Kf_by (AV.int IntKind.i64 (↑n : Int)) (.r (AV.int IntKind.i64 (↑n : Int))) (by kernel_rfl) ?_))))))))))))
    exact ⟨rfl, Keep.refl _⟩
  rw [List.drop_eq_getElem_cons hin] at hF
  have hs := hq l[i] (List.getElem_mem hin)
  have ia := hv.ia (t := 24) Try.underlying24 sz29 hin .i64
  have fa : afieldAddr (kn G base w0).c 29 (ptrF wR v i) 2 = some (ptrJ wR v i 2) := hv.fa (c := (kn G base w0).c) hin (s := 29) Try.underlying29 (f := 2) rfl sz3 (by decide)
  have ld := hv.ld (c := (kn G base w0).c) hin (j := 2) (by decide) (t := 3) (u := .int .i64 l[i].p) rfl ag3
  generalize l[i] = s at *
  simp only [lcmF] at hF
  have c1 := fun H => c25 (G := G) (base := base) (w0 := w0) n s.p (by omega) (by omega) H
  have hg : 0 < Nat.gcd n s.p := Nat.gcd_pos_of_pos_left _ hn0
  have q1 := quoI (G := G) (base := base) (w0 := w0) n (Nat.gcd n s.p) (by omega) hg
  have j1 := div_lt n (Nat.gcd n s.p) 16777217 (by omega)
  have i1 : 0 < n / Nat.gcd n s.p := Nat.div_pos (Nat.le_of_dvd hn0 (Nat.gcd_dvd_left _ _)) hg
  generalize n / Nat.gcd n s.p = u at *
  have k1 : u * s.p < 1152921504606846976 := by have := Nat.mul_lt_mul'' j1 hs.2; omega
  have k0 : 0 < u * s.p := Nat.mul_pos i1 hs.1
  have m1 := mulI (G := G) (base := base) (w0 := w0) u s.p (by omega)
  by_cases hb : 16777216 < u * s.p
  · rw [if_pos hb] at hF
    rw [hF]
    refine D.sq (D.sq (D.ks (.v e0 <| .y (show (↑i : Int) < (↑(List.length l) : Int) by omega) <| .e [(8, AV.bool true)] H) (by kernel_rfl) (D.ct (by kernel_rfl) (D.skip (Ks_n' (D.sq (D.bl (D.sq (D.kws (pureT RF) [7] (.v ia <| .v fa <| .v ld <| .vh (@c1 H) <| .v (@q1 3) <| .v ia <| .v fa <| .v ld <| .n (@wrap_to ((↑u : Int) * (↑(R3.p s) : Int)) ((↑(u * R3.p s) : Int)) (by omega) (by omega) (by omega)) <| .e [(3, AV.int IntKind.i64 (↑(u * R3.p s) : Int))] H) (by kernel_rfl) (D.sq (D.ks (.y (show 16777216 < (↑(u * R3.p s) : Int) by omega) <| .e [(27, AV.bool true)] H) (by kernel_rfl) (D.ct (by kernel_rfl) (D.sq (D.ks (.e [(2, AV.int IntKind.i64 16777217)] H) (by kernel_rfl) (D.ret (Kb_r' (Ks_r' (Kl_r' (Kb_r' (Ks_r' (Kf_by (AV.int IntKind.i64 16777217) (.r (AV.int IntKind.i64 16777217)) (by kernel_rfl) ?_)))))))))))))))))))))
    exact ⟨rfl, Keep.refl _⟩
  rw [if_neg hb] at hF
  refine D.sq (D.sq (D.ks (.v e0 <| .y (show (↑i : Int) < (↑(List.length l) : Int) by omega) <| .e [(8, AV.bool true)] H) (by kernel_rfl) (D.ct (by kernel_rfl) (D.skip (Ks_n' (D.sq (D.bl (D.sq (D.kws (pureT RF) [7] (.v ia <| .v fa <| .v ld <| .vh (@c1 H) <| .v (@q1 3) <| .v ia <| .v fa <| .v ld <| .n (@wrap_to ((↑u : Int) * (↑(R3.p s) : Int)) ((↑(u * R3.p s) : Int)) (by omega) (by omega) (by omega)) <| .e [(3, AV.int IntKind.i64 (↑(u * R3.p s) : Int))] H) (by kernel_rfl) (D.sq (D.ks (.o (show ¬ (16777216 < (↑(u * R3.p s) : Int)) by omega) <| .e [(27, AV.bool false)] H) (by kernel_rfl) (D.cf (by kernel_rfl) (D.skip (Kb_n' (Ks_n' (D.kr (.n (@wrap_to ((↑i : Int) + 1) ((↑(i + 1) : Int)) (by omega) (by omega) (by omega)) <| .e [(4, AV.int IntKind.i64 (↑(i + 1) : Int))] H) (by kernel_rfl) ?_))))))))))))))))
  exact ⟨l.length - (i + 1), by omega, i + 1, u * s.p, (by first | exact rfl | exact True.intro), by omega, hF, k0, by omega, rfl, by exact E_le (by decide) (E_size _ _) (by simp only [List.forall_mem_cons, List.not_mem_nil, false_implies, implies_true, and_true, List.cons_append, List.nil_append, Nat.zero_add, Nat.reduceAdd, E_get, Nat.reduceEqDiff, Nat.reduceLT, Nat.reduceLeDiff, if_true, if_false, and_self, true_and] <;> first | rfl | exact ⟨rfl, rfl⟩)⟩
end Go.Proofs.Ytcbholgcbjddjaa.sy

/- ref1's sum (own work). -/
namespace Go.Proofs.Ytcbholgcbjddjaa.sy
open Go.AM Go.AM.Jb
set_option linter.unusedSimpArgs false
set_option linter.unusedVariables false
variable {G : List Nat → Option (List AV)} {base : Nat} {w0 : World}
set_option maxRecDepth 100000
set_option maxHeartbeats 8000000
variable {H : AHeap}
theorem lcmF_le : ∀ {l : List R3} {n : Nat}, n ≤ 16777216 → lcmF n l ≤ 16777217
  | [], n, h => by simp only [lcmF]; omega
  | t :: l, n, h => by
    simp only [lcmF]
    split
    · exact Nat.le_refl _
    · exact lcmF_le (by omega)
theorem lcmF_pos : ∀ {l : List R3} {n : Nat}, 0 < n → (∀ t ∈ l, 0 < t.p) → 0 < lcmF n l
  | [], n, h, _ => h
  | t :: l, n, h, hp => by
    simp only [lcmF]
    split
    · omega
    · exact lcmF_pos (Nat.mul_pos (Nat.div_pos (Nat.le_of_dvd h (Nat.gcd_dvd_left _ _)) (Nat.gcd_pos_of_pos_left _ h)) (hp t (List.mem_cons_self ..))) fun t h => hp t (List.mem_cons_of_mem _ h)
def nF (m : Nat) (l : List R3) : Nat := l.foldl (fun n t => n + t.e * (m / t.p)) 0
theorem nF_take {m : Nat} {l : List R3} {i : Nat} (hi : i < l.length) : nF m (l.take (i + 1)) = nF m (l.take i) + l[i].e * (m / l[i].p) := by
  rw [List.take_succ_eq_append_getElem hi, nF, List.foldl_append]; rfl
theorem nF_le {m : Nat} {l : List R3} (h : ∀ t ∈ l, t.e ≤ t.p) : ∀ i, nF m (l.take i) ≤ i * m := by
  intro i
  induction i with
  | zero => rw [List.take_zero]; exact Nat.zero_le _
  | succ i ih =>
    by_cases hi : i < l.length
    · rw [nF_take hi, Nat.succ_mul]
      have h1 := Nat.mul_le_mul_right (m / l[i].p) (h _ (List.getElem_mem hi))
      have h2 := Nat.mul_div_le m l[i].p
      omega
    · rw [List.take_of_length_le (by omega)]
      rw [List.take_of_length_le (by omega)] at ih
      rw [Nat.succ_mul]; omega
theorem fsum_p {v : AV} {l : List R3} (hv : SlF (kn G base w0).c H wR v l) (hva : ∀ b, v.at? = some b → b < H.length) (hl : l.length ≤ 1000) (hq : ∀ t ∈ l, 0 < t.p ∧ t.p < 1048576 ∧ t.e ≤ t.p) :
    Pt (kn G base w0) 15 [v] H (rt (nF (lcmF 1 l) l / Nat.gcd (nF (lcmF 1 l) l) (lcmF 1 l)) (lcmF 1 l / Nat.gcd (nF (lcmF 1 l) l) (lcmF 1 l))) H := by
  refine Pt.pure ?_ rfl
  refine Pt.fn (n := 32) (rs := [.cell 2 37]) Try.func15 (b := _) rfl rfl rfl (by decide) ?_
  simp only [numbered]
  have k0 : Keep H (hnew H (.row 37 2 [.int .i64 0, .int .i64 0])) (fun _ => False) := Keep.new _ _
  have hv1 := hv.keep k0 fun b hb => ⟨hva b hb, id⟩
  have p1 := lcm_p (G := G) (base := base) (w0 := w0) hv1 (fun b hb => Nat.lt_of_lt_of_le (hva b hb) k0.1) hl fun t ht => ⟨(hq t ht).1, (hq t ht).2.1⟩
  have e0 := hv1.len (c := (kn G base w0).c) Try.underlying24
  have b1 : lcmF 1 l ≤ 16777217 := lcmF_le (by omega)
  have b0 : 0 < lcmF 1 l := lcmF_pos (by omega) fun t ht => (hq t ht).1
  have b2 := fun i => nF_le (m := lcmF 1 l) (l := l) (fun t ht => (hq t ht).2.2) i
  have b3 := fun i (h : i ≤ l.length) => Nat.le_trans (b2 i) (Nat.mul_le_mul (Nat.le_trans h hl) b1)
  clear b2
  generalize lcmF 1 l = M at *
  refine D.sq (D.ks (.e [(2, AV.ptr (Loc.own (List.length H)) 0)] (hnew H (AObj.row 37 2 [AV.int IntKind.i64 0, AV.int IntKind.i64 0]))) (by kernel_rfl) (D.sq (D.ks (.c p1 <| .e [(3, AV.int IntKind.i64 (↑M : Int))] (hnew H (AObj.row 37 2 [AV.int IntKind.i64 0, AV.int IntKind.i64 0]))) (by kernel_rfl) (D.sq (D.ks (.e [(4, AV.int IntKind.i64 0)] (hnew H (AObj.row 37 2 [AV.int IntKind.i64 0, AV.int IntKind.i64 0]))) (by kernel_rfl) (D.sq (D.sq (D.ks (.e [(5, AV.int IntKind.i64 0)] (hnew H (AObj.row 37 2 [AV.int IntKind.i64 0, AV.int IntKind.i64 0]))) (by kernel_rfl) (D.bl ?_)))))))))
  have h2 : hat (hnew H (.row 37 2 [.int .i64 0, .int .i64 0])) H.length = some (.row 37 2 [.int .i64 0, .int .i64 0]) := hat_nn _
  generalize hnew H (.row 37 2 [.int .i64 0, .int .i64 0]) = K at *
  obtain ⟨b, hb⟩ : ∃ b, b = H.length := ⟨_, rfl⟩
  rw [← hb] at h2 ⊢
  refine D.lp (fun m env H' => ∃ i : Nat, m = l.length - i ∧ i ≤ l.length ∧ K = H' ∧ ELe (E 32 [(5, .int .i64 i), (4, .int .i64 (nF M (l.take i))), (3, .int .i64 M), (2, .ptr (.own b) 0), (0, v)]) env) l.length
    ⟨0, by omega, by omega, rfl, by exact E_le (by decide) (E_size _ _) (by simp only [List.forall_mem_cons, List.not_mem_nil, false_implies, implies_true, and_true, List.cons_append, List.nil_append, Nat.zero_add, Nat.reduceAdd, E_get, Nat.reduceEqDiff, Nat.reduceLT, Nat.reduceLeDiff, if_true, if_false, and_self, true_and] <;> first | rfl | exact ⟨rfl, rfl⟩)⟩ ?_
  rintro m env H3 ⟨i, rfl, hi, rfl, he⟩
  refine D.forget he ?_
  clear he p1
  have b4 := b3 i hi
  by_cases hin : i < l.length
  rotate_left
  · obtain rfl : i = l.length := by omega
    rw [List.take_length] at b4 ⊢
    have p1 := fun H => fof_p (G := G) (base := base) (w0 := w0) (H := H) (nF M l) M (by omega) (by omega) b0
    clear b3
    refine D.sq (D.sq (D.ks (.v e0 <| .o (show ¬ ((↑(List.length l) : Int) < (↑(List.length l) : Int)) by omega) <| .e [(11, AV.bool false)] K) (by kernel_rfl) (D.cf (by kernel_rfl) (D.exit (Ks_e' (Kl_e' (Kb_e' (Ks_n' (D.sq (D.ks (.c (@p1 K) <| .h (st_at (off := 0) (vs := [AV.int IntKind.i64 (↑(nF M l / Nat.gcd (nF M l) M) : Int), AV.int IntKind.i64 (↑(M / Nat.gcd (nF M l) M) : Int)]) (cs' := [AV.int IntKind.i64 (↑(nF M l / Nat.gcd (nF M l) M) : Int), AV.int IntKind.i64 (↑(M / Nat.gcd (nF M l) M) : Int)]) h2 rfl rfl rfl) <| .e [] (List.set K b (some (AObj.row 37 2 [AV.int IntKind.i64 (↑(nF M l / Nat.gcd (nF M l) M) : Int), AV.int IntKind.i64 (↑(M / Nat.gcd (nF M l) M) : Int)])))) (by kernel_rfl) (D.ret (Kf_by (AV.agg [AV.int IntKind.i64 (↑(nF M l / Nat.gcd (nF M l) M) : Int), AV.int IntKind.i64 (↑(M / Nat.gcd (nF M l) M) : Int)]) (.v (ld_ownA (c := (Kn.c (kn G base w0))) (t := 37) (hat_at h2 (AObj.row 37 2 [AV.int IntKind.i64 (↑(nF M l / Nat.gcd (nF M l) M) : Int), AV.int IntKind.i64 (↑(M / Nat.gcd (nF M l) M) : Int)])) (by kernel_rfl) (by kernel_rfl)) <| .r (AV.agg [AV.int IntKind.i64 (↑(nF M l / Nat.gcd (nF M l) M) : Int), AV.int IntKind.i64 (↑(M / Nat.gcd (nF M l) M) : Int)])) (by kernel_rfl) ?_))))))))))))
    exact ⟨rfl, k0.trans' (Keep.set b _) fun j hj e => by omega⟩
  have b5 := b3 (i + 1) hin
  clear b3
  rw [nF_take hin] at b5
  have hn := nF_take (m := M) hin
  have hs := hq l[i] (List.getElem_mem hin)
  have ia := hv1.ia (t := 24) Try.underlying24 sz29 hin .i64
  have fa2 : afieldAddr (kn G base w0).c 29 (ptrF wR v i) 2 = some (ptrJ wR v i 2) := hv1.fa (c := (kn G base w0).c) hin (s := 29) Try.underlying29 (f := 2) rfl sz3 (by decide)
  have ld2 := hv1.ld (c := (kn G base w0).c) hin (j := 2) (by decide) (t := 3) (u := .int .i64 l[i].p) rfl ag3
  have fa1 : afieldAddr (kn G base w0).c 29 (ptrF wR v i) 1 = some (ptrJ wR v i 1) := hv1.fa (c := (kn G base w0).c) hin (s := 29) Try.underlying29 (f := 1) rfl sz3 (by decide)
  have ld1 := hv1.ld (c := (kn G base w0).c) hin (j := 1) (by decide) (t := 3) (u := .int .i64 l[i].e) rfl ag3
  generalize l[i] = s at *
  have q1 := quoI (G := G) (base := base) (w0 := w0) M s.p (by omega) hs.1
  generalize M / s.p = z at *
  have m1 := mulI (G := G) (base := base) (w0 := w0) s.e z (by omega)
  have m2 := addI (G := G) (base := base) (w0 := w0) (nF M (l.take i)) (s.e * z) (by omega)
  refine D.sq (D.sq (D.ks (.v e0 <| .y (show (↑i : Int) < (↑(List.length l) : Int) by omega) <| .e [(11, AV.bool true)] K) (by kernel_rfl) (D.ct (by kernel_rfl) (D.skip (Ks_n' (D.sq (D.bl (D.kr (.v ia <| .v fa1 <| .v ld1 <| .v ia <| .v fa2 <| .v ld2 <| .v (@q1 3) <| .n (@wrap_to ((↑(R3.e s) : Int) * (↑z : Int)) ((↑(R3.e s * z) : Int)) (by omega) (by omega) (by omega)) <| .n (@wrap_to ((↑(nF M (List.take i l)) : Int) + (↑(R3.e s * z) : Int)) ((↑(nF M (List.take i l) + R3.e s * z) : Int)) (by omega) (by omega) (by omega)) <| .e [(4, AV.int IntKind.i64 (↑(nF M (List.take i l) + R3.e s * z) : Int))] K) (by kernel_rfl) (Kb_n' (Ks_n' (D.kr (.n (@wrap_to ((↑i : Int) + 1) ((↑(i + 1) : Int)) (by omega) (by omega) (by omega)) <| .e [(5, AV.int IntKind.i64 (↑(i + 1) : Int))] K) (by kernel_rfl) ?_)))))))))))
  exact ⟨l.length - (i + 1), by omega, i + 1, (by first | exact rfl | exact True.intro), by omega, rfl, by rw [hn]; exact E_le (by decide) (E_size _ _) (by simp only [List.forall_mem_cons, List.not_mem_nil, false_implies, implies_true, and_true, List.cons_append, List.nil_append, Nat.zero_add, Nat.reduceAdd, E_get, Nat.reduceEqDiff, Nat.reduceLT, Nat.reduceLeDiff, if_true, if_false, and_self, true_and] <;> first | rfl | exact ⟨rfl, rfl⟩)⟩
end Go.Proofs.Ytcbholgcbjddjaa.sy

/- ref1's Can (own work). -/
namespace Go.Proofs.Ytcbholgcbjddjaa.sy
open Go.AM Go.AM.Jb
set_option linter.unusedSimpArgs false
set_option linter.unusedVariables false
variable {G : List Nat → Option (List AV)} {base : Nat} {w0 : World}
set_option maxRecDepth 100000
set_option maxHeartbeats 8000000
variable {H : AHeap}
def canF (l : List R3) (cores : Nat) (e p : Nat) : Nat :=
  let l' := l ++ [⟨0, e, p⟩]
  let m := lcmF 1 l'
  if 16777216 < m then 7 else
  if cores * (m / Nat.gcd (nF m l') m) < nF m l' / Nat.gcd (nF m l') m then 8 else 0
theorem can_bad_p {v : AV} (cores e p : Int) (h : ¬ fmay e p) : Pt (kn G base w0) 7 [v, .int .i64 cores, .int .i64 e, .int .i64 p] H (.int .i64 2) H := by
  refine Pt.pure ?_ rfl
  refine Pt.fn (n := 34) (rs := [.tmp 8]) Try.func7 (b := _) rfl rfl rfl (by decide) ?_
  simp only [numbered]
  have p1 := fun H => tmay_p (G := G) (base := base) (w0 := w0) (H := H) e p
  rw [decide_eq_false h] at p1
  refine D.sq (D.ks (.e [(8, AV.int IntKind.i64 0)] H) (by kernel_rfl) (D.sq (D.sq (D.ks (.c (@p1 H) <| .a <| .e [(14, AV.bool true)] H) (by kernel_rfl) (D.ct (by kernel_rfl) (D.sq (D.ks (.e [(8, AV.int IntKind.i64 2)] H) (by kernel_rfl) (D.ret (Ks_r' (Kf_by (AV.int IntKind.i64 2) (.r (AV.int IntKind.i64 2)) (by kernel_rfl) ?_))))))))))
  exact ⟨rfl, Keep.refl _⟩
theorem clone_own {v : AV} {l : List R3} (hv : SlF (kn G base w0).c H wR v l) (hl : l.length ≤ 1000) : ∃ u K, aappend (kn G base w0).c H 24 .nilslice v = some (u, K) ∧ OwnF K wR u 29 l ∧ Keep H K (fun _ => False) ∧ ∀ b, u.at? = some b → H.length ≤ b := by
  have h := app_nil (c := (kn G base w0).c) (w := wR) (t := 24) Try.underlying24 in29 zc29 rfl (by decide) hv (by omega)
  by_cases h0 : l = []
  · rw [if_pos h0] at h
    exact ⟨_, _, h, .inl ⟨rfl, h0⟩, Keep.refl _, by simp [AV.at?]⟩
  · rw [if_neg h0] at h
    exact ⟨_, _, h, .inr ⟨H.length, rfl, hat_nn _⟩, Keep.new _ _, by simp [AV.at?, fresh]⟩
theorem can_p {v : AV} {l : List R3} (cores e p : Nat) (hc : cores ≤ 100) (hv : SlF (kn G base w0).c H wR v l) (hva : ∀ b, v.at? = some b → b < H.length) (hl : l.length ≤ 900) (hq : ∀ t ∈ l, 0 < t.p ∧ t.p < 1048576 ∧ t.e ≤ t.p) (h1 : 1 ≤ e) (h2 : e ≤ p) (h3 : p ≤ 1048575) :
    Pt (kn G base w0) 7 [v, .int .i64 cores, .int .i64 e, .int .i64 p] H (.int .i64 (canF l cores e p)) H := by
  refine Pt.pure ?_ rfl
  refine Pt.fn (n := 34) (rs := [.tmp 8]) Try.func7 (b := _) rfl rfl rfl (by decide) ?_
  simp only [numbered]
  have p1 := fun H => tmay_p (G := G) (base := base) (w0 := w0) (H := H) e p
  rw [decide_eq_true (show fmay e p from ⟨by omega, by omega, by omega⟩)] at p1
  obtain ⟨u, K1, f1, o1, k1, u1⟩ := clone_own (G := G) (base := base) (w0 := w0) hv (by omega)
  have k2 : Keep K1 (hnew K1 (.row 29 3 [.int .i64 0, .int .i64 e, .int .i64 p])) (fun _ => False) := Keep.new _ _
  obtain ⟨v', K3, f2, o3, k3, _, _⟩ := (o1.keep fun b hb => k2.2 b (o1.lt hb) id).app (c := (kn G base w0).c) (t := 24) Try.underlying24 in29 zc29 rfl (by decide) (SlF.single (H := K1) (w := wR) (x := ⟨0, e, p⟩) (e := 29)) (by simp) (by simp; omega)
  replace f2 : aappend (kn G base w0).c (hnew K1 (.row 29 3 [.int .i64 0, .int .i64 e, .int .i64 p])) 24 u (.slice (.own K1.length) 3 0 1) = some (v', K3) := f2
  have k4 : Keep H K3 (fun _ => False) := (k1.trans k2).trans' k3 fun j hj e => by have := u1 j e; omega
  have hl' : (l ++ [(⟨0, e, p⟩ : R3)]).length ≤ 1000 := by simp; omega
  have hq' : ∀ t ∈ l ++ [(⟨0, e, p⟩ : R3)], 0 < t.p ∧ t.p < 1048576 ∧ t.e ≤ t.p := by
    intro t ht
    rcases List.mem_append.1 ht with ht | ht
    · exact hq t ht
    · obtain rfl := List.mem_singleton.1 ht
      show 0 < p ∧ p < 1048576 ∧ e ≤ p
      exact ⟨by omega, by omega, h2⟩
  have hcan : canF l cores e p = (if 16777216 < lcmF 1 (l ++ [⟨0, e, p⟩]) then 7 else if cores * (lcmF 1 (l ++ [⟨0, e, p⟩]) / Nat.gcd (nF (lcmF 1 (l ++ [⟨0, e, p⟩])) (l ++ [⟨0, e, p⟩])) (lcmF 1 (l ++ [⟨0, e, p⟩]))) < nF (lcmF 1 (l ++ [⟨0, e, p⟩])) (l ++ [⟨0, e, p⟩]) / Nat.gcd (nF (lcmF 1 (l ++ [⟨0, e, p⟩])) (l ++ [⟨0, e, p⟩])) (lcmF 1 (l ++ [⟨0, e, p⟩])) then 8 else 0) := rfl
  generalize canF l cores e p = r at *
  have s3 := o3.sl (c := (kn G base w0).c)
  have a3 : ∀ b, v'.at? = some b → b < K3.length := fun b hb => o3.lt hb
  generalize l ++ [(⟨0, e, p⟩ : R3)] = L at *
  have c1 := lcm_p (G := G) (base := base) (w0 := w0) s3 a3 hl' fun t ht => ⟨(hq' t ht).1, (hq' t ht).2.1⟩
  have c2 := fsum_p (G := G) (base := base) (w0 := w0) s3 a3 hl' hq'
  have b1 : lcmF 1 L ≤ 16777217 := lcmF_le (by omega)
  have b2 := nF_le (m := lcmF 1 L) (l := L) (fun t ht => (hq' t ht).2.2) L.length
  rw [List.take_length] at b2
  have b3 := Nat.le_trans b2 (Nat.mul_le_mul hl' b1)
  clear b2
  generalize lcmF 1 L = M at *
  generalize nF M L = N at *
  have j1 : M / Nat.gcd N M ≤ M := Nat.div_le_self _ _
  have j2 : N / Nat.gcd N M ≤ N := Nat.div_le_self _ _
  generalize M / Nat.gcd N M = x at *
  generalize N / Nat.gcd N M = y at *
  have kx : cores * x ≤ 100 * 16777217 := Nat.mul_le_mul hc (by omega)
  have m1 := mulI (G := G) (base := base) (w0 := w0) cores x (by omega)
  clear o1 o3 s3 hv k1 k2 k3
  by_cases g1 : 16777216 < M
  · rw [if_pos g1] at hcan
    rw [hcan]
    refine D.sq (D.ks (.e [(8, AV.int IntKind.i64 0)] H) (by kernel_rfl) (D.sq (D.sq (D.ks (.c (@p1 H) <| .a <| .e [(14, AV.bool false)] H) (by kernel_rfl) (D.cf (by kernel_rfl) (D.skip (Ks_n' (D.sq (D.ks (.vh f1 <| .vh f2 <| .e [(9, v')] K3) (by kernel_rfl) (D.sq (D.sq (D.ks (.c c1 <| .y (show 16777216 < (↑M : Int) by omega) <| .e [(24, AV.bool true)] K3) (by kernel_rfl) (D.ct (by kernel_rfl) (D.sq (D.ks (.e [(8, AV.int IntKind.i64 7)] K3) (by kernel_rfl) (D.ret (Ks_r' (Kf_by (AV.int IntKind.i64 7) (.r (AV.int IntKind.i64 7)) (by kernel_rfl) ?_))))))))))))))))))
    exact ⟨rfl, k4⟩
  rw [if_neg g1] at hcan
  by_cases g2 : cores * x < y
  · rw [if_pos g2] at hcan
    rw [hcan]
    refine D.sq (D.ks (.e [(8, AV.int IntKind.i64 0)] H) (by kernel_rfl) (D.sq (D.sq (D.ks (.c (@p1 H) <| .a <| .e [(14, AV.bool false)] H) (by kernel_rfl) (D.cf (by kernel_rfl) (D.skip (Ks_n' (D.sq (D.ks (.vh f1 <| .vh f2 <| .e [(9, v')] K3) (by kernel_rfl) (D.sq (D.sq (D.ks (.c c1 <| .o (show ¬ (16777216 < (↑M : Int)) by omega) <| .e [(24, AV.bool false)] K3) (by kernel_rfl) (D.cf (by kernel_rfl) (D.skip (Ks_n' (D.sq (D.ks (.c c2 <| .h (st_top (H := K3) (t := 37) (e := 2) (cs := [AV.int IntKind.i64 0, AV.int IntKind.i64 0]) (off := 0) (vs := [AV.int IntKind.i64 (↑y : Int), AV.int IntKind.i64 (↑x : Int)]) (cs' := [AV.int IntKind.i64 (↑y : Int), AV.int IntKind.i64 (↑x : Int)]) rfl rfl rfl) <| .e [(10, AV.ptr (Loc.own (List.length K3)) 0)] (hnew K3 (AObj.row 37 2 [AV.int IntKind.i64 (↑y : Int), AV.int IntKind.i64 (↑x : Int)]))) (by kernel_rfl) (D.sq (D.sq (D.ks (.a <| .q (@hat_nn K3 (AObj.row 37 2 [AV.int IntKind.i64 (↑y : Int), AV.int IntKind.i64 (↑x : Int)])) <| .a <| .q (@hat_nn K3 (AObj.row 37 2 [AV.int IntKind.i64 (↑y : Int), AV.int IntKind.i64 (↑x : Int)])) <| .n (@wrap_to ((↑cores : Int) * (↑x : Int)) ((↑(cores * x) : Int)) (by omega) (by omega) (by omega)) <| .y (show (↑(cores * x) : Int) < (↑y : Int) by omega) <| .e [(33, AV.bool true)] (hnew K3 (AObj.row 37 2 [AV.int IntKind.i64 (↑y : Int), AV.int IntKind.i64 (↑x : Int)]))) (by kernel_rfl) (D.ct (by kernel_rfl) (D.sq (D.ks (.e [(8, AV.int IntKind.i64 8)] (hnew K3 (AObj.row 37 2 [AV.int IntKind.i64 (↑y : Int), AV.int IntKind.i64 (↑x : Int)]))) (by kernel_rfl) (D.ret (Ks_r' (Kf_by (AV.int IntKind.i64 8) (.r (AV.int IntKind.i64 8)) (by kernel_rfl) ?_))))))))))))))))))))))))))
    exact ⟨rfl, k4.trans (Keep.new _ _)⟩
  rw [if_neg g2] at hcan
  rw [hcan]
  refine D.sq (D.ks (.e [(8, AV.int IntKind.i64 0)] H) (by kernel_rfl) (D.sq (D.sq (D.ks (.c (@p1 H) <| .a <| .e [(14, AV.bool false)] H) (by kernel_rfl) (D.cf (by kernel_rfl) (D.skip (Ks_n' (D.sq (D.ks (.vh f1 <| .vh f2 <| .e [(9, v')] K3) (by kernel_rfl) (D.sq (D.sq (D.ks (.c c1 <| .o (show ¬ (16777216 < (↑M : Int)) by omega) <| .e [(24, AV.bool false)] K3) (by kernel_rfl) (D.cf (by kernel_rfl) (D.skip (Ks_n' (D.sq (D.ks (.c c2 <| .h (st_top (H := K3) (t := 37) (e := 2) (cs := [AV.int IntKind.i64 0, AV.int IntKind.i64 0]) (off := 0) (vs := [AV.int IntKind.i64 (↑y : Int), AV.int IntKind.i64 (↑x : Int)]) (cs' := [AV.int IntKind.i64 (↑y : Int), AV.int IntKind.i64 (↑x : Int)]) rfl rfl rfl) <| .e [(10, AV.ptr (Loc.own (List.length K3)) 0)] (hnew K3 (AObj.row 37 2 [AV.int IntKind.i64 (↑y : Int), AV.int IntKind.i64 (↑x : Int)]))) (by kernel_rfl) (D.sq (D.sq (D.ks (.a <| .q (@hat_nn K3 (AObj.row 37 2 [AV.int IntKind.i64 (↑y : Int), AV.int IntKind.i64 (↑x : Int)])) <| .a <| .q (@hat_nn K3 (AObj.row 37 2 [AV.int IntKind.i64 (↑y : Int), AV.int IntKind.i64 (↑x : Int)])) <| .n (@wrap_to ((↑cores : Int) * (↑x : Int)) ((↑(cores * x) : Int)) (by omega) (by omega) (by omega)) <| .o (show ¬ ((↑(cores * x) : Int) < (↑y : Int)) by omega) <| .e [(33, AV.bool false)] (hnew K3 (AObj.row 37 2 [AV.int IntKind.i64 (↑y : Int), AV.int IntKind.i64 (↑x : Int)]))) (by kernel_rfl) (D.cf (by kernel_rfl) (D.skip (Ks_n' (D.sq (D.ks (.e [(8, AV.int IntKind.i64 0)] (hnew K3 (AObj.row 37 2 [AV.int IntKind.i64 (↑y : Int), AV.int IntKind.i64 (↑x : Int)]))) (by kernel_rfl) (D.ret (Kf_by (AV.int IntKind.i64 0) (.r (AV.int IntKind.i64 0)) (by kernel_rfl) ?_)))))))))))))))))))))))))))
  exact ⟨rfl, k4.trans (Keep.new _ _)⟩
end Go.Proofs.Ytcbholgcbjddjaa.sy

/- law12's Made and Rows (own work). -/
namespace Go.Proofs.Ytcbholgcbjddjaa.sy
open Go.AM Go.AM.Jb
set_option linter.unusedSimpArgs false
set_option linter.unusedVariables false
variable {G : List Nat → Option (List AV)} {base : Nat} {w0 : World}
set_option maxRecDepth 100000
set_option maxHeartbeats 8000000
variable {H : AHeap}
theorem made22_p (t : Tk) : Pt (kn G base w0) 22 [.agg (encT t)] H (.agg (encT t)) H := by
  refine Pt.pure ?_ rfl
  refine Pt.fn (n := 26) (rs := [.cell 2 51]) Try.func22 (b := _) rfl rfl rfl (by decide) ?_
  simp only [numbered, encT]
  refine D.sq (D.ks (.a <| .e [(2, AV.ptr (Loc.own (List.length (hnew H (AObj.row 26 11 [AV.int IntKind.i64 (Tk.id t), AV.int IntKind.i64 (Tk.e t), AV.int IntKind.i64 (Tk.p t), AV.bool (Tk.sp t), AV.bool (Tk.lv t), AV.bool (Tk.wt t), AV.bool (Tk.ac t), AV.int IntKind.i64 (Tk.rl t), AV.int IntKind.i64 (Tk.gt t), AV.bool (Tk.dn t), AV.int IntKind.i64 (Tk.ct t)])))) 0), (1, AV.ptr (Loc.own (List.length H)) 0)] (hnew (hnew H (AObj.row 26 11 [AV.int IntKind.i64 (Tk.id t), AV.int IntKind.i64 (Tk.e t), AV.int IntKind.i64 (Tk.p t), AV.bool (Tk.sp t), AV.bool (Tk.lv t), AV.bool (Tk.wt t), AV.bool (Tk.ac t), AV.int IntKind.i64 (Tk.rl t), AV.int IntKind.i64 (Tk.gt t), AV.bool (Tk.dn t), AV.int IntKind.i64 (Tk.ct t)])) (AObj.row 51 11 [AV.int IntKind.i64 0, AV.int IntKind.i64 0, AV.int IntKind.i64 0, AV.bool false, AV.bool false, AV.bool false, AV.bool false, AV.int IntKind.i64 0, AV.int IntKind.i64 0, AV.bool false, AV.int IntKind.i64 0]))) (by kernel_rfl) (D.sq (D.ks (.a <| .q (hat_up (@hat_nn H (AObj.row 26 11 [AV.int IntKind.i64 (Tk.id t), AV.int IntKind.i64 (Tk.e t), AV.int IntKind.i64 (Tk.p t), AV.bool (Tk.sp t), AV.bool (Tk.lv t), AV.bool (Tk.wt t), AV.bool (Tk.ac t), AV.int IntKind.i64 (Tk.rl t), AV.int IntKind.i64 (Tk.gt t), AV.bool (Tk.dn t), AV.int IntKind.i64 (Tk.ct t)])) (AObj.row 51 11 [AV.int IntKind.i64 0, AV.int IntKind.i64 0, AV.int IntKind.i64 0, AV.bool false, AV.bool false, AV.bool false, AV.bool false, AV.int IntKind.i64 0, AV.int IntKind.i64 0, AV.bool false, AV.int IntKind.i64 0])) <| .a <| .q (hat_up (@hat_nn H (AObj.row 26 11 [AV.int IntKind.i64 (Tk.id t), AV.int IntKind.i64 (Tk.e t), AV.int IntKind.i64 (Tk.p t), AV.bool (Tk.sp t), AV.bool (Tk.lv t), AV.bool (Tk.wt t), AV.bool (Tk.ac t), AV.int IntKind.i64 (Tk.rl t), AV.int IntKind.i64 (Tk.gt t), AV.bool (Tk.dn t), AV.int IntKind.i64 (Tk.ct t)])) (AObj.row 51 11 [AV.int IntKind.i64 0, AV.int IntKind.i64 0, AV.int IntKind.i64 0, AV.bool false, AV.bool false, AV.bool false, AV.bool false, AV.int IntKind.i64 0, AV.int IntKind.i64 0, AV.bool false, AV.int IntKind.i64 0])) <| .a <| .q (hat_up (@hat_nn H (AObj.row 26 11 [AV.int IntKind.i64 (Tk.id t), AV.int IntKind.i64 (Tk.e t), AV.int IntKind.i64 (Tk.p t), AV.bool (Tk.sp t), AV.bool (Tk.lv t), AV.bool (Tk.wt t), AV.bool (Tk.ac t), AV.int IntKind.i64 (Tk.rl t), AV.int IntKind.i64 (Tk.gt t), AV.bool (Tk.dn t), AV.int IntKind.i64 (Tk.ct t)])) (AObj.row 51 11 [AV.int IntKind.i64 0, AV.int IntKind.i64 0, AV.int IntKind.i64 0, AV.bool false, AV.bool false, AV.bool false, AV.bool false, AV.int IntKind.i64 0, AV.int IntKind.i64 0, AV.bool false, AV.int IntKind.i64 0])) <| .a <| .q (hat_up (@hat_nn H (AObj.row 26 11 [AV.int IntKind.i64 (Tk.id t), AV.int IntKind.i64 (Tk.e t), AV.int IntKind.i64 (Tk.p t), AV.bool (Tk.sp t), AV.bool (Tk.lv t), AV.bool (Tk.wt t), AV.bool (Tk.ac t), AV.int IntKind.i64 (Tk.rl t), AV.int IntKind.i64 (Tk.gt t), AV.bool (Tk.dn t), AV.int IntKind.i64 (Tk.ct t)])) (AObj.row 51 11 [AV.int IntKind.i64 0, AV.int IntKind.i64 0, AV.int IntKind.i64 0, AV.bool false, AV.bool false, AV.bool false, AV.bool false, AV.int IntKind.i64 0, AV.int IntKind.i64 0, AV.bool false, AV.int IntKind.i64 0])) <| .a <| .q (hat_up (@hat_nn H (AObj.row 26 11 [AV.int IntKind.i64 (Tk.id t), AV.int IntKind.i64 (Tk.e t), AV.int IntKind.i64 (Tk.p t), AV.bool (Tk.sp t), AV.bool (Tk.lv t), AV.bool (Tk.wt t), AV.bool (Tk.ac t), AV.int IntKind.i64 (Tk.rl t), AV.int IntKind.i64 (Tk.gt t), AV.bool (Tk.dn t), AV.int IntKind.i64 (Tk.ct t)])) (AObj.row 51 11 [AV.int IntKind.i64 0, AV.int IntKind.i64 0, AV.int IntKind.i64 0, AV.bool false, AV.bool false, AV.bool false, AV.bool false, AV.int IntKind.i64 0, AV.int IntKind.i64 0, AV.bool false, AV.int IntKind.i64 0])) <| .a <| .q (hat_up (@hat_nn H (AObj.row 26 11 [AV.int IntKind.i64 (Tk.id t), AV.int IntKind.i64 (Tk.e t), AV.int IntKind.i64 (Tk.p t), AV.bool (Tk.sp t), AV.bool (Tk.lv t), AV.bool (Tk.wt t), AV.bool (Tk.ac t), AV.int IntKind.i64 (Tk.rl t), AV.int IntKind.i64 (Tk.gt t), AV.bool (Tk.dn t), AV.int IntKind.i64 (Tk.ct t)])) (AObj.row 51 11 [AV.int IntKind.i64 0, AV.int IntKind.i64 0, AV.int IntKind.i64 0, AV.bool false, AV.bool false, AV.bool false, AV.bool false, AV.int IntKind.i64 0, AV.int IntKind.i64 0, AV.bool false, AV.int IntKind.i64 0])) <| .a <| .q (hat_up (@hat_nn H (AObj.row 26 11 [AV.int IntKind.i64 (Tk.id t), AV.int IntKind.i64 (Tk.e t), AV.int IntKind.i64 (Tk.p t), AV.bool (Tk.sp t), AV.bool (Tk.lv t), AV.bool (Tk.wt t), AV.bool (Tk.ac t), AV.int IntKind.i64 (Tk.rl t), AV.int IntKind.i64 (Tk.gt t), AV.bool (Tk.dn t), AV.int IntKind.i64 (Tk.ct t)])) (AObj.row 51 11 [AV.int IntKind.i64 0, AV.int IntKind.i64 0, AV.int IntKind.i64 0, AV.bool false, AV.bool false, AV.bool false, AV.bool false, AV.int IntKind.i64 0, AV.int IntKind.i64 0, AV.bool false, AV.int IntKind.i64 0])) <| .a <| .q (hat_up (@hat_nn H (AObj.row 26 11 [AV.int IntKind.i64 (Tk.id t), AV.int IntKind.i64 (Tk.e t), AV.int IntKind.i64 (Tk.p t), AV.bool (Tk.sp t), AV.bool (Tk.lv t), AV.bool (Tk.wt t), AV.bool (Tk.ac t), AV.int IntKind.i64 (Tk.rl t), AV.int IntKind.i64 (Tk.gt t), AV.bool (Tk.dn t), AV.int IntKind.i64 (Tk.ct t)])) (AObj.row 51 11 [AV.int IntKind.i64 0, AV.int IntKind.i64 0, AV.int IntKind.i64 0, AV.bool false, AV.bool false, AV.bool false, AV.bool false, AV.int IntKind.i64 0, AV.int IntKind.i64 0, AV.bool false, AV.int IntKind.i64 0])) <| .a <| .q (hat_up (@hat_nn H (AObj.row 26 11 [AV.int IntKind.i64 (Tk.id t), AV.int IntKind.i64 (Tk.e t), AV.int IntKind.i64 (Tk.p t), AV.bool (Tk.sp t), AV.bool (Tk.lv t), AV.bool (Tk.wt t), AV.bool (Tk.ac t), AV.int IntKind.i64 (Tk.rl t), AV.int IntKind.i64 (Tk.gt t), AV.bool (Tk.dn t), AV.int IntKind.i64 (Tk.ct t)])) (AObj.row 51 11 [AV.int IntKind.i64 0, AV.int IntKind.i64 0, AV.int IntKind.i64 0, AV.bool false, AV.bool false, AV.bool false, AV.bool false, AV.int IntKind.i64 0, AV.int IntKind.i64 0, AV.bool false, AV.int IntKind.i64 0])) <| .a <| .q (hat_up (@hat_nn H (AObj.row 26 11 [AV.int IntKind.i64 (Tk.id t), AV.int IntKind.i64 (Tk.e t), AV.int IntKind.i64 (Tk.p t), AV.bool (Tk.sp t), AV.bool (Tk.lv t), AV.bool (Tk.wt t), AV.bool (Tk.ac t), AV.int IntKind.i64 (Tk.rl t), AV.int IntKind.i64 (Tk.gt t), AV.bool (Tk.dn t), AV.int IntKind.i64 (Tk.ct t)])) (AObj.row 51 11 [AV.int IntKind.i64 0, AV.int IntKind.i64 0, AV.int IntKind.i64 0, AV.bool false, AV.bool false, AV.bool false, AV.bool false, AV.int IntKind.i64 0, AV.int IntKind.i64 0, AV.bool false, AV.int IntKind.i64 0])) <| .a <| .q (hat_up (@hat_nn H (AObj.row 26 11 [AV.int IntKind.i64 (Tk.id t), AV.int IntKind.i64 (Tk.e t), AV.int IntKind.i64 (Tk.p t), AV.bool (Tk.sp t), AV.bool (Tk.lv t), AV.bool (Tk.wt t), AV.bool (Tk.ac t), AV.int IntKind.i64 (Tk.rl t), AV.int IntKind.i64 (Tk.gt t), AV.bool (Tk.dn t), AV.int IntKind.i64 (Tk.ct t)])) (AObj.row 51 11 [AV.int IntKind.i64 0, AV.int IntKind.i64 0, AV.int IntKind.i64 0, AV.bool false, AV.bool false, AV.bool false, AV.bool false, AV.int IntKind.i64 0, AV.int IntKind.i64 0, AV.bool false, AV.int IntKind.i64 0])) <| .h (st_top (H := hnew H (AObj.row 26 11 [AV.int IntKind.i64 (Tk.id t), AV.int IntKind.i64 (Tk.e t), AV.int IntKind.i64 (Tk.p t), AV.bool (Tk.sp t), AV.bool (Tk.lv t), AV.bool (Tk.wt t), AV.bool (Tk.ac t), AV.int IntKind.i64 (Tk.rl t), AV.int IntKind.i64 (Tk.gt t), AV.bool (Tk.dn t), AV.int IntKind.i64 (Tk.ct t)])) (t := 51) (e := 11) (cs := [AV.int IntKind.i64 0, AV.int IntKind.i64 0, AV.int IntKind.i64 0, AV.bool false, AV.bool false, AV.bool false, AV.bool false, AV.int IntKind.i64 0, AV.int IntKind.i64 0, AV.bool false, AV.int IntKind.i64 0]) (off := 0) (vs := [AV.int IntKind.i64 (Tk.id t), AV.int IntKind.i64 (Tk.e t), AV.int IntKind.i64 (Tk.p t), AV.bool (Tk.sp t), AV.bool (Tk.lv t), AV.bool (Tk.wt t), AV.bool (Tk.ac t), AV.int IntKind.i64 (Tk.rl t), AV.int IntKind.i64 (Tk.gt t), AV.bool (Tk.dn t), AV.int IntKind.i64 (Tk.ct t)]) (cs' := [AV.int IntKind.i64 (Tk.id t), AV.int IntKind.i64 (Tk.e t), AV.int IntKind.i64 (Tk.p t), AV.bool (Tk.sp t), AV.bool (Tk.lv t), AV.bool (Tk.wt t), AV.bool (Tk.ac t), AV.int IntKind.i64 (Tk.rl t), AV.int IntKind.i64 (Tk.gt t), AV.bool (Tk.dn t), AV.int IntKind.i64 (Tk.ct t)]) rfl rfl rfl) <| .e [] (hnew (hnew H (AObj.row 26 11 [AV.int IntKind.i64 (Tk.id t), AV.int IntKind.i64 (Tk.e t), AV.int IntKind.i64 (Tk.p t), AV.bool (Tk.sp t), AV.bool (Tk.lv t), AV.bool (Tk.wt t), AV.bool (Tk.ac t), AV.int IntKind.i64 (Tk.rl t), AV.int IntKind.i64 (Tk.gt t), AV.bool (Tk.dn t), AV.int IntKind.i64 (Tk.ct t)])) (AObj.row 51 11 [AV.int IntKind.i64 (Tk.id t), AV.int IntKind.i64 (Tk.e t), AV.int IntKind.i64 (Tk.p t), AV.bool (Tk.sp t), AV.bool (Tk.lv t), AV.bool (Tk.wt t), AV.bool (Tk.ac t), AV.int IntKind.i64 (Tk.rl t), AV.int IntKind.i64 (Tk.gt t), AV.bool (Tk.dn t), AV.int IntKind.i64 (Tk.ct t)]))) (by kernel_rfl) (D.ret (Kf_by (AV.agg [AV.int IntKind.i64 (Tk.id t), AV.int IntKind.i64 (Tk.e t), AV.int IntKind.i64 (Tk.p t), AV.bool (Tk.sp t), AV.bool (Tk.lv t), AV.bool (Tk.wt t), AV.bool (Tk.ac t), AV.int IntKind.i64 (Tk.rl t), AV.int IntKind.i64 (Tk.gt t), AV.bool (Tk.dn t), AV.int IntKind.i64 (Tk.ct t)]) (.v (ld_ownA (c := (Kn.c (kn G base w0))) (t := 51) (@hat_nn (hnew H (AObj.row 26 11 [AV.int IntKind.i64 (Tk.id t), AV.int IntKind.i64 (Tk.e t), AV.int IntKind.i64 (Tk.p t), AV.bool (Tk.sp t), AV.bool (Tk.lv t), AV.bool (Tk.wt t), AV.bool (Tk.ac t), AV.int IntKind.i64 (Tk.rl t), AV.int IntKind.i64 (Tk.gt t), AV.bool (Tk.dn t), AV.int IntKind.i64 (Tk.ct t)])) (AObj.row 51 11 [AV.int IntKind.i64 (Tk.id t), AV.int IntKind.i64 (Tk.e t), AV.int IntKind.i64 (Tk.p t), AV.bool (Tk.sp t), AV.bool (Tk.lv t), AV.bool (Tk.wt t), AV.bool (Tk.ac t), AV.int IntKind.i64 (Tk.rl t), AV.int IntKind.i64 (Tk.gt t), AV.bool (Tk.dn t), AV.int IntKind.i64 (Tk.ct t)])) (by kernel_rfl) (by kernel_rfl)) <| .r (AV.agg [AV.int IntKind.i64 (Tk.id t), AV.int IntKind.i64 (Tk.e t), AV.int IntKind.i64 (Tk.p t), AV.bool (Tk.sp t), AV.bool (Tk.lv t), AV.bool (Tk.wt t), AV.bool (Tk.ac t), AV.int IntKind.i64 (Tk.rl t), AV.int IntKind.i64 (Tk.gt t), AV.bool (Tk.dn t), AV.int IntKind.i64 (Tk.ct t)])) (by kernel_rfl) ?_)))))
  exact ⟨rfl, (Keep.new _ _).trans (Keep.new _ _)⟩
theorem rows_ok {v : AV} {l : List Tk} (hv : SlF (kn G base w0).c H wT v l) (hva : ∀ b, v.at? = some b → b < H.length) (hl : l.length ≤ 1000) : ∃ r H', Pt (kn G base w0) 9 [v] H r H' ∧ (OwnF H' wT r 51 l ∧ Keep H H' (fun _ => False) ∧ ∀ b, r.at? = some b → H.length ≤ b) := by
  refine Pt.fn (n := 20) (rs := [.tmp 2]) Try.func9 (b := _) rfl rfl rfl (by decide) ?_
  simp only [numbered]
  refine D.sq (D.ks (.e [(2, AV.nilslice)] H) (by kernel_rfl) (D.sq (D.ks (.e [(3, AV.nilslice)] H) (by kernel_rfl) (D.sq (D.sq (D.ks (.e [(4, AV.int IntKind.i64 0)] H) (by kernel_rfl) (D.bl ?_)))))))
  refine D.lp (fun m env H' => ∃ (i : Nat) (u : AV), m = l.length - i ∧ i ≤ l.length ∧ OwnF H' wT u 51 (l.take i) ∧ Keep H H' (fun _ => False) ∧ (∀ b, u.at? = some b → H.length ≤ b) ∧ ELe (E 20 [(4, .int .i64 i), (3, u), (2, .nilslice), (0, v)]) env) l.length
    ⟨0, .nilslice, by omega, by omega, by rw [List.take_zero]; exact OwnF.nil, Keep.refl _, by simp [AV.at?], by exact E_le (by decide) (E_size _ _) (by simp only [List.forall_mem_cons, List.not_mem_nil, false_implies, implies_true, and_true, List.cons_append, List.nil_append, Nat.zero_add, Nat.reduceAdd, E_get, Nat.reduceEqDiff, Nat.reduceLT, Nat.reduceLeDiff, if_true, if_false, and_self, true_and] <;> first | rfl | exact ⟨rfl, rfl⟩)⟩ ?_
  rintro m env H3 ⟨i, u, rfl, hi, ho, hk, hu, he⟩
  refine D.forget he ?_
  clear he
  have hv3 := hv.keep hk fun b hb => ⟨hva b hb, id⟩
  have e0 := hv3.len (c := (kn G base w0).c) Try.underlying22
  by_cases hin : i < l.length
  rotate_left
  · obtain rfl : i = l.length := by omega
    rw [List.take_length] at ho
    refine D.sq (D.sq (D.ks (.v e0 <| .o (show ¬ ((↑(List.length l) : Int) < (↑(List.length l) : Int)) by omega) <| .e [(8, AV.bool false)] H3) (by kernel_rfl) (D.cf (by kernel_rfl) (D.exit (Ks_e' (Kl_e' (Kb_e' (Ks_n' (D.sq (D.ks (.e [(2, u)] H3) (by kernel_rfl) (D.ret (Kf_by u (.r u) (by kernel_rfl) ?_))))))))))))
    exact ⟨ho, hk, hu⟩
  have ia := hv3.ia (t := 22) Try.underlying22 sz26 hin .i64
  have ld : aload (kn G base w0).c H3 26 (ptrF wT v i) = some (.agg (encT l[i])) := hv3.ldA (c := (kn G base w0).c) hin ag26 sz26
  have ht : l.take (i + 1) = l.take i ++ [l[i]] := List.take_succ_eq_append_getElem hin
  generalize l[i] = t at *
  have p1 := fun H => made22_p (G := G) (base := base) (w0 := w0) (H := H) t
  have k2 : Keep H3 (hnew H3 (.row 51 11 (encT t))) (fun _ => False) := Keep.new _ _
  obtain ⟨v', K3, f2, o3, k3, a3, l3⟩ := (ho.keep fun b hb => k2.2 b (ho.lt hb) id).app (c := (kn G base w0).c) (t := 34) Try.underlying34 in51 zc51 rfl (by decide) (SlF.single (H := H3) (w := wT) (x := t) (e := 51)) (by simp) (by simp; omega)
  replace f2 : aappend (kn G base w0).c (hnew H3 (.row 51 11 (encT t))) 34 u (.slice (.own H3.length) 11 0 1) = some (v', K3) := f2
  have k4 : Keep H K3 (fun _ => False) := (hk.trans k2).trans' k3 fun j hj e => by have := hu j e; omega
  rw [← ht] at o3
  simp only [encT] at p1 ld f2
  have u3 : ∀ b, v'.at? = some b → H.length ≤ b := by
    intro b hb
    rw [a3] at hb
    have := hk.1
    rw [len_new] at hb
    have hb := Option.some.inj hb
    omega
  clear ho k2 k3 a3 l3 hv
  refine D.sq (D.sq (D.ks (.v e0 <| .y (show (↑i : Int) < (↑(List.length l) : Int) by omega) <| .e [(8, AV.bool true)] H3) (by kernel_rfl) (D.ct (by kernel_rfl) (D.skip (Ks_n' (D.sq (D.bl (D.kr (.v ia <| .v ld <| .c (@p1 H3) <| .vh f2 <| .e [(3, v')] K3) (by kernel_rfl) (Kb_n' (Ks_n' (D.kr (.n (@wrap_to ((↑i : Int) + 1) ((↑(i + 1) : Int)) (by omega) (by omega) (by omega)) <| .e [(4, AV.int IntKind.i64 (↑(i + 1) : Int))] K3) (by kernel_rfl) ?_)))))))))))
  exact ⟨l.length - (i + 1), by omega, i + 1, v', (by first | exact rfl | exact True.intro), by omega, o3, k4, u3, by exact E_le (by decide) (E_size _ _) (by simp only [List.forall_mem_cons, List.not_mem_nil, false_implies, implies_true, and_true, List.cons_append, List.nil_append, Nat.zero_add, Nat.reduceAdd, E_get, Nat.reduceEqDiff, Nat.reduceLT, Nat.reduceLeDiff, if_true, if_false, and_self, true_and] <;> first | rfl | exact ⟨rfl, rfl⟩)⟩
end Go.Proofs.Ytcbholgcbjddjaa.sy

/- slices.Clone over tasks (own work). -/
namespace Go.Proofs.Ytcbholgcbjddjaa.sy
open Go.AM Go.AM.Jb
set_option linter.unusedSimpArgs false
set_option linter.unusedVariables false
variable {G : List Nat → Option (List AV)} {base : Nat} {w0 : World}
set_option maxRecDepth 100000
set_option maxHeartbeats 8000000
variable {H : AHeap}
theorem clone_ok {v : AV} {l : List Tk} (ho : OwnF H wT v 51 l) (hl : l.length ≤ 1000) (hn : v ≠ .nilslice → l ≠ []) : ∃ r H', Pt (kn G base w0) 16 [v] H r H' ∧ (OwnF H' wT r 51 l ∧ Keep H H' (fun _ => False) ∧ (∀ b, r.at? = some b → H.length ≤ b)) := by
  refine Pt.fn (n := 8) (rs := [.tmp 2]) Try.func16 (b := _) rfl rfl rfl (by decide) ?_
  simp only [numbered]
  rcases ho with ⟨rfl, rfl⟩ | ⟨b, rfl, hb⟩
  · refine D.sq (D.ks (.e [(2, AV.nilslice)] H) (by kernel_rfl) (D.sq (D.sq (D.ks (.a <| .e [(4, AV.bool true)] H) (by kernel_rfl) (D.ct (by kernel_rfl) (D.sq (D.ks (.e [(2, AV.nilslice)] H) (by kernel_rfl) (D.ret (Ks_r' (Kf_by AV.nilslice (.r AV.nilslice) (by kernel_rfl) ?_))))))))))
    exact ⟨OwnF.nil, Keep.refl _, by simp [AV.at?]⟩
  have h0 := hn (by simp)
  have k2 : Keep H (hnew H (.row 51 11 [])) (fun _ => False) := Keep.new _ _
  have o1 : OwnF (hnew H (.row 51 11 [])) wT (.slice (.own H.length) 11 0 0) 51 [] := .inr ⟨H.length, rfl, hat_nn _⟩
  have o2 : OwnF H wT (.slice (.own b) wT.W 0 l.length) 51 l := .inr ⟨b, rfl, hb⟩
  have o4 := o2.keep (H' := hnew H (.row 51 11 [])) fun j hj => k2.2 j (o2.lt hj) id
  obtain ⟨v', K3, f2, o3, k3, a3, l3⟩ := o1.app (c := (kn G base w0).c) (t := 34) Try.underlying34 in51 zc51 rfl (by decide) o4.sl h0 (by simp; omega)
  replace f2 : aappend (kn G base w0).c (hnew H (.row 51 11 [])) 34 (.slice (.own H.length) 11 0 0) (.slice (.own b) 11 0 l.length) = some (v', K3) := f2
  have k4 : Keep H K3 (fun _ => False) := k2.trans' k3 fun j hj e => by
    have e := Option.some.inj e
    omega
  have u3 : ∀ b, v'.at? = some b → H.length ≤ b := by
    intro b hb
    rw [a3, len_new] at hb
    have hb := Option.some.inj hb
    omega
  rw [List.nil_append] at o3
  refine D.sq (D.ks (.e [(2, AV.nilslice)] H) (by kernel_rfl) (D.sq (D.sq (D.ks (.a <| .e [(4, AV.bool false)] H) (by kernel_rfl) (D.cf (by kernel_rfl) (D.skip (Ks_n' (D.sq (D.ks (.vh f2 <| .e [(2, v')] K3) (by kernel_rfl) (D.ret (Kf_by v' (.r v') (by kernel_rfl) ?_)))))))))))
  exact ⟨o3, k4, u3⟩
end Go.Proofs.Ytcbholgcbjddjaa.sy
