/-
  ROWS OF STRUCTS AS LISTS (own work): each element W cells wide; loads, stores, slices and appends told by the list.
-/
import Derived.Test.YtecfofmndpgnjaaAmOne
namespace Go.AM
open Go.RowKit
set_option linter.unusedSimpArgs false
set_option linter.unusedVariables false
variable {c : Ctx} {H : AHeap} {α : Type}

/-- how an element stands in cells -/
structure Wd (α : Type) where
  W : Nat
  enc : α → List AV
  pos : 0 < W
  len : ∀ a, (enc a).length = W
  one : ∀ a, (enc a).all AV.one = true
variable {w : Wd α}
def Wd.fl (w : Wd α) (xs : List α) : List AV := xs.flatMap w.enc
theorem Wd.fl_nil : w.fl [] = [] := rfl
theorem Wd.fl_cons (x : α) (xs : List α) : w.fl (x :: xs) = w.enc x ++ w.fl xs := rfl
theorem Wd.fl_app (xs ys : List α) : w.fl (xs ++ ys) = w.fl xs ++ w.fl ys := by simp [Wd.fl]
theorem Wd.fl_len (xs : List α) : (w.fl xs).length = xs.length * w.W := by
  induction xs with
  | nil => simp [Wd.fl]
  | cons x xs ih => rw [fl_cons, List.length_append, w.len, ih, List.length_cons, Nat.succ_mul]; omega
theorem Wd.fl_one (xs : List α) : (w.fl xs).all AV.one = true := by
  simp only [Wd.fl, List.all_eq_true, List.mem_flatMap]
  rintro v ⟨a, _, hv⟩
  exact List.all_eq_true.1 (w.one a) v hv
theorem Wd.fl_take (xs : List α) (n : Nat) : (w.fl xs).take (n * w.W) = w.fl (xs.take n) := by
  induction xs generalizing n with
  | nil => simp [Wd.fl]
  | cons x xs ih =>
    cases n with
    | zero => simp [Wd.fl]
    | succ n =>
      rw [fl_cons, List.take_succ_cons, fl_cons, ← ih, List.take_append, w.len, Nat.succ_mul, List.take_of_length_le (by rw [w.len]; omega), Nat.add_sub_cancel]
theorem Wd.fl_drop (xs : List α) (n : Nat) : (w.fl xs).drop (n * w.W) = w.fl (xs.drop n) := by
  induction xs generalizing n with
  | nil => simp [Wd.fl]
  | cons x xs ih =>
    cases n with
    | zero => simp [Wd.fl]
    | succ n =>
      rw [fl_cons, List.drop_succ_cons, ← ih, List.drop_append, w.len, Nat.succ_mul, List.drop_of_length_le (by rw [w.len]; omega), Nat.add_sub_cancel, List.nil_append]
theorem Wd.fl_split {xs : List α} {i : Nat} (h : i < xs.length) : w.fl xs = w.fl (xs.take i) ++ (w.enc xs[i] ++ w.fl (xs.drop (i + 1))) := by
  rw [← fl_cons, ← fl_app, ← List.drop_eq_getElem_cons h, List.take_append_drop]
theorem Wd.fl_get {xs : List α} {i : Nat} (h : i < xs.length) {j : Nat} (hj : j < w.W) : (w.fl xs)[i * w.W + j]? = (w.enc xs[i])[j]? := by
  have hl : (w.fl (xs.take i)).length = i * w.W := by rw [fl_len, List.length_take, Nat.min_eq_left (by omega)]
  rw [fl_split h, List.getElem?_append_right (by omega), hl, Nat.add_sub_cancel_left, List.getElem?_append_left (by rw [w.len]; exact hj)]
theorem Wd.fl_seg {xs : List α} {i : Nat} (h : i < xs.length) : ((w.fl xs).drop (i * w.W)).take w.W = w.enc xs[i] := by
  rw [fl_drop, List.drop_eq_getElem_cons h, fl_cons, List.take_left' (w.len _)]
theorem set_app {l m : List AV} {i : Nat} {v : AV} (h : l.length ≤ i) : (l ++ m).set i v = l ++ m.set (i - l.length) v := by
  rw [List.set_append_right _ _ h]
theorem take_set' {xs : List α} {i : Nat} {x : α} : (xs.set i x).take i = xs.take i := by
  rw [List.take_set_of_le (Nat.le_refl _)]
theorem drop_set' {xs : List α} {i : Nat} {x : α} : (xs.set i x).drop (i + 1) = xs.drop (i + 1) := by
  rw [List.drop_set_of_lt (by omega)]
theorem Wd.fl_set {xs : List α} {i : Nat} (h : i < xs.length) {j : Nat} (hj : j < w.W) {v : AV} {x : α} (hx : w.enc x = (w.enc xs[i]).set j v) : (w.fl xs).set (i * w.W + j) v = w.fl (xs.set i x) := by
  have hl : (w.fl (xs.take i)).length = i * w.W := by rw [fl_len, List.length_take, Nat.min_eq_left (by omega)]
  have hs : i < (xs.set i x).length := by simpa using h
  rw [fl_split h, fl_split hs, take_set', drop_set', List.getElem_set_self, hx, List.set_append_right _ _ (by omega), hl, Nat.add_sub_cancel_left, List.set_append_left _ _ (by rw [w.len]; exact hj)]
theorem Wd.fl_put {xs : List α} {i : Nat} (h : i < xs.length) (x : α) : setSeg (w.fl xs) (i * w.W) (w.enc x) = w.fl (xs.set i x) := by
  have hs : i < (xs.set i x).length := by simpa using h
  rw [fl_split hs, take_set', drop_set', List.getElem_set_self, setSeg, fl_take, w.len, ← Nat.succ_mul, fl_drop]
theorem setSeg_one {cs : List AV} {i : Nat} (v : AV) (h : i < cs.length) : setSeg cs i [v] = cs.set i v := by
  rw [setSeg, List.set_eq_take_append_cons_drop, if_pos h]; rfl

/-! ### a row behind a block -/
def RowF (H : AHeap) (b : Nat) (e : TypeId) (w : Wd α) (xs : List α) : Prop := hat H b = some (.row e w.W (w.fl xs))
/-- the heap with the row as told -/
def hrow (H : AHeap) (b : Nat) (e : TypeId) (w : Wd α) (xs : List α) : AHeap := H.set b (some (.row e w.W (w.fl xs)))
theorem RowF.lt {b : Nat} {e : TypeId} {xs : List α} (h : RowF H b e w xs) : b < H.length := hat_lt h
theorem RowF.keep {b : Nat} {e : TypeId} {xs : List α} (h : RowF H b e w xs) {H' : AHeap} (k : hat H' b = hat H b) : RowF H' b e w xs := k.trans h
theorem hrow_self {b : Nat} {e : TypeId} {xs : List α} (h : RowF H b e w xs) : hrow H b e w xs = H := by
  refine hat_ext (by simp [hrow]) fun j => ?_
  rw [hrow, hat_setI]
  split
  · rename_i hj; rw [hj.1]; exact h.symm
  · rfl
theorem hrow_len {b : Nat} {e : TypeId} {xs : List α} : (hrow H b e w xs).length = H.length := by simp [hrow]
theorem hrow_at {b : Nat} {e : TypeId} {xs : List α} (hb : b < H.length) : RowF (hrow H b e w xs) b e w xs := by
  show hat (H.set b _) b = _
  rw [hat_eq _ hb]
theorem hrow_ne {b j : Nat} {e : TypeId} {xs : List α} (h : j ≠ b) : hat (hrow H b e w xs) j = hat H j := by rw [hrow, hat_ne _ h]
theorem hrow_set {b : Nat} {e : TypeId} {xs ys : List α} : hrow (hrow H b e w xs) b e w ys = hrow H b e w ys := by simp [hrow, List.set_set]
theorem hrow_keep {b : Nat} {e : TypeId} {xs : List α} : Keep H (hrow H b e w xs) (fun j => j = b) := ⟨by simp [hrow], fun j _ h => hrow_ne h⟩
/-- a field -/
theorem RowF.ld {b : Nat} {e : TypeId} {xs : List α} (h : RowF H b e w xs) {i j : Nat} (hi : i < xs.length) (hj : j < w.W) {t : TypeId} {v : AV} (hv : (w.enc xs[i])[j]? = some v) (ha : isAggT c.P t = some false) : aload c H t (.ptr (.own b) (i * w.W + j)) = some v := by
  simp only [aload, ha, Option.bind_some]
  rw [if_neg (by simp), rd_own h, w.fl_get hi hj, hv]; rfl
/-- a whole element -/
theorem RowF.ldA {b : Nat} {e : TypeId} {xs : List α} (h : RowF H b e w xs) {i : Nat} (hi : i < xs.length) {t : TypeId} (ha : isAggT c.P t = some true) (hs : szOf c.P t = some w.W) : aload c H t (.ptr (.own b) (i * w.W)) = some (.agg (w.enc xs[i])) := by
  simp only [aload, ha, hs, Option.bind_some, if_true, rd, rowOf]
  rw [show hat H b = _ from h]
  simp only [Option.bind_some]
  have hle : i * w.W + w.W ≤ (w.fl xs).length := by rw [w.fl_len, ← Nat.succ_mul]; exact Nat.mul_le_mul_right _ hi
  rw [if_pos hle, w.fl_seg hi]; rfl
/-- a field put -/
theorem RowF.st {b : Nat} {e : TypeId} {xs : List α} (h : RowF H b e w xs) {i j : Nat} (hi : i < xs.length) (hj : j < w.W) {v : AV} (h1 : v.one = true) {x : α} (hx : w.enc x = (w.enc xs[i]).set j v) : wr H (.own b) (i * w.W + j) [v] = some (hrow H b e w (xs.set i x)) := by
  have hle : i * w.W + j < (w.fl xs).length := by
    rw [w.fl_len]
    have := Nat.mul_le_mul_right w.W (show i + 1 ≤ xs.length by omega)
    rw [Nat.succ_mul] at this; omega
  simp only [wr]
  rw [show hat H b = _ from h]
  simp only []
  rw [if_pos ⟨by simp; omega, by simp [h1]⟩, setSeg_one _ hle, w.fl_set hi hj hx]; rfl
/-- a whole element put -/
theorem RowF.stA {b : Nat} {e : TypeId} {xs : List α} (h : RowF H b e w xs) {i : Nat} (hi : i < xs.length) (x : α) : wr H (.own b) (i * w.W) (w.enc x) = some (hrow H b e w (xs.set i x)) := by
  have hle : i * w.W + w.W ≤ (w.fl xs).length := by rw [w.fl_len, ← Nat.succ_mul]; exact Nat.mul_le_mul_right _ hi
  simp only [wr]
  rw [show hat H b = _ from h]
  simp only []
  rw [if_pos ⟨by rw [w.len]; exact hle, w.one x⟩, w.fl_put hi]; rfl

/-! ### slices of structs, as lists -/
def SlF (c : Ctx) (H : AHeap) (w : Wd α) (v : AV) (xs : List α) : Prop :=
  ((v = .nilslice ∨ ∃ a, v = .odd a) ∧ xs = []) ∨ ∃ l st, v = .slice l w.W st xs.length ∧ (xs ≠ [] → ∃ cs, rowOf c H l = some cs ∧ (cs.drop (st * w.W)).take (xs.length * w.W) = w.fl xs)
def ptrF (w : Wd α) (v : AV) (i : Nat) : AV := match v with | .slice l _ st _ => .ptr l ((st + i) * w.W) | _ => .nilptr
def ptrJ (w : Wd α) (v : AV) (i j : Nat) : AV := match v with | .slice l _ st _ => .ptr l ((st + i) * w.W + j) | _ => .nilptr
theorem SlF.nil : SlF c H w .nilslice [] := .inl ⟨.inl rfl, rfl⟩
theorem SlF.len {v : AV} {xs : List α} (h : SlF c H w v xs) {t e : TypeId} (ht : c.P.underlying t = some (.slice e)) : alen c H t v = some (.int .i64 xs.length) := by
  rcases h with ⟨rfl | ⟨a, rfl⟩, rfl⟩ | ⟨l, st, rfl, _⟩
  · simp [alen, ht]
  · simp [alen, ht]
  · simp [alen, ht]
theorem SlF.ia {v : AV} {xs : List α} (h : SlF c H w v xs) {t e : TypeId} (ht : c.P.underlying t = some (.slice e)) (hs : szOf c.P e = some w.W) {i : Nat} (hi : i < xs.length) (k : IntKind) : aindexAddr c t v (.int k (i : Int)) = some (ptrF w v i) := by
  rcases h with ⟨_, rfl⟩ | ⟨l, st, rfl, _⟩
  · simp at hi
  · simp only [aindexAddr, ht, Option.bind_some, hs, ptrF]
    rw [if_pos ⟨by simp, by omega, by omega⟩]
    simp
theorem SlF.fa {v : AV} {xs : List α} (h : SlF c H w v xs) {i : Nat} (hi : i < xs.length) {s : TypeId} {fs : Array Field} (hs : c.P.underlying s = some (.struct fs)) {f : Nat} {g : Field} (hg : fs[f]? = some g) {n : Nat} (hn : szOf c.P g.type = some n) (h0 : n ≠ 0) : afieldAddr c s (ptrF w v i) f = some (ptrJ w v i g.offset) := by
  rcases h with ⟨_, rfl⟩ | ⟨l, st, rfl, _⟩
  · simp at hi
  · simp only [ptrF, ptrJ, afieldAddr, hs, Option.bind_some, hg, hn, if_neg h0]
theorem SlF.at {v : AV} {xs : List α} (h : SlF c H w v xs) (h0 : xs ≠ []) : ∃ l st cs, v = .slice l w.W st xs.length ∧ rowOf c H l = some cs ∧ (cs.drop (st * w.W)).take (xs.length * w.W) = w.fl xs ∧ st * w.W + xs.length * w.W ≤ cs.length := by
  rcases h with ⟨_, rfl⟩ | ⟨l, st, rfl, hx⟩
  · exact absurd rfl h0
  · obtain ⟨cs, hr, hc⟩ := hx h0
    refine ⟨l, st, cs, rfl, hr, hc, ?_⟩
    have h2 := congrArg List.length hc
    rw [w.fl_len, List.length_take, List.length_drop] at h2
    have h3 : 0 < xs.length * w.W := Nat.mul_pos (List.length_pos_iff.2 h0) w.pos
    omega
theorem SlF.ld {v : AV} {xs : List α} (h : SlF c H w v xs) {i j : Nat} (hi : i < xs.length) (hj : j < w.W) {t : TypeId} {u : AV} (hv : (w.enc xs[i])[j]? = some u) (ha : isAggT c.P t = some false) : aload c H t (ptrJ w v i j) = some u := by
  obtain ⟨l, st, cs, rfl, hr, hc, _⟩ := h.at (by intro e; rw [e] at hi; simp at hi)
  simp only [ptrJ, aload, ha, Option.bind_some]
  rw [if_neg (by simp), rd_row hr]
  have h1 : cs[(st + i) * w.W + j]? = some u := by
    have h2 := congrArg (fun l => l[i * w.W + j]?) hc
    have hlt : i * w.W + j < xs.length * w.W := by
      have := Nat.mul_le_mul_right w.W (show i + 1 ≤ xs.length by omega)
      rw [Nat.succ_mul] at this; omega
    simp only [List.getElem?_take, if_pos hlt, List.getElem?_drop, w.fl_get hi hj, hv] at h2
    rw [← h2, Nat.add_mul]; congr 1; omega
  rw [h1]; rfl
theorem SlF.ldA {v : AV} {xs : List α} (h : SlF c H w v xs) {i : Nat} (hi : i < xs.length) {t : TypeId} (ha : isAggT c.P t = some true) (hs : szOf c.P t = some w.W) : aload c H t (ptrF w v i) = some (.agg (w.enc xs[i])) := by
  obtain ⟨l, st, cs, rfl, hr, hc, hl⟩ := h.at (by intro e; rw [e] at hi; simp at hi)
  have hle : (st + i) * w.W + w.W ≤ cs.length := by
    have := Nat.mul_le_mul_right w.W (show i + 1 ≤ xs.length by omega)
    rw [Nat.succ_mul] at this
    rw [Nat.add_mul]; omega
  simp only [ptrF, aload, ha, hs, Option.bind_some, if_true, rd, hr, if_pos hle, Option.map_some]
  congr 2
  rw [← w.fl_seg hi, ← hc, List.drop_take, List.take_take, List.drop_drop, Nat.add_mul, Nat.min_eq_left]
  have := Nat.mul_le_mul_right w.W (show i + 1 ≤ xs.length by omega)
  rw [Nat.succ_mul] at this; omega
theorem SlF.ext {v : AV} {xs : List α} (h : SlF c H w v xs) {H' : AHeap} (hk : ∀ b, v.at? = some b → hat H' b = hat H b) : SlF c H' w v xs := by
  rcases h with h | ⟨l, st, rfl, hx⟩
  · exact .inl h
  · refine .inr ⟨l, st, rfl, fun hn => ?_⟩
    obtain ⟨cs, hr, hc⟩ := hx hn
    refine ⟨cs, ?_, hc⟩
    cases l with
    | own b => simp only [rowOf, hk b rfl] at hr ⊢; exact hr
    | ext p => exact hr
theorem SlF.keep {v : AV} {xs : List α} (h : SlF c H w v xs) {H' : AHeap} {S : Nat → Prop} (hk : Keep H H' S) (hv : ∀ b, v.at? = some b → b < H.length ∧ ¬ S b) : SlF c H' w v xs :=
  h.ext fun b hb => hk.2 b (hv b hb).1 (hv b hb).2
theorem SlF.one {v : AV} {xs : List α} (h : SlF c H w v xs) : v.one = true ∧ v.cells = [v] := by
  rcases h with ⟨rfl | ⟨a, rfl⟩, _⟩ | ⟨l, st, rfl, _⟩ <;> exact ⟨rfl, rfl⟩
theorem SlF.src {v : AV} {xs : List α} (h : SlF c H w v xs) : source c H w.W v = some (xs.length, w.fl xs) := by
  rcases h with ⟨rfl | ⟨a, rfl⟩, rfl⟩ | ⟨l, st, rfl, hx⟩
  · rfl
  · rfl
  · by_cases h0 : xs = []
    · subst h0; simp [source, Wd.fl]
    · obtain ⟨l', st', cs, e, hr, hc, hl⟩ := SlF.at (c := c) (H := H) (.inr ⟨l, st, rfl, hx⟩) h0
      cases e
      have hne : xs.length ≠ 0 := by simpa using h0
      simp only [source, if_true, if_neg hne, rd, hr, Option.bind_some, if_pos hl, hc, Option.map_some]

/-- a row of one's own from its start -/
def OwnF (H : AHeap) (w : Wd α) (v : AV) (e : TypeId) (xs : List α) : Prop :=
  (v = .nilslice ∧ xs = []) ∨ ∃ b, v = .slice (.own b) w.W 0 xs.length ∧ RowF H b e w xs
theorem OwnF.nil {e : TypeId} : OwnF H w .nilslice e [] := .inl ⟨rfl, rfl⟩
theorem OwnF.sl {v : AV} {e : TypeId} {xs : List α} (h : OwnF H w v e xs) : SlF c H w v xs := by
  rcases h with h | ⟨b, rfl, hb⟩
  · exact .inl ⟨.inl h.1, h.2⟩
  · refine .inr ⟨.own b, 0, rfl, fun _ => ⟨w.fl xs, by simp only [rowOf]; rw [show hat H b = _ from hb], ?_⟩⟩
    rw [Nat.zero_mul, List.drop_zero, ← w.fl_len, List.take_length]
theorem OwnF.lt {v : AV} {e : TypeId} {xs : List α} (h : OwnF H w v e xs) {b : Nat} (hb : v.at? = some b) : b < H.length := by
  rcases h with ⟨rfl, _⟩ | ⟨b', rfl, h⟩
  · simp [AV.at?] at hb
  · simp only [AV.at?, Option.some.injEq] at hb; subst hb; exact h.lt
theorem OwnF.keep {v : AV} {e : TypeId} {xs : List α} (h : OwnF H w v e xs) {H' : AHeap} (hk : ∀ b, v.at? = some b → hat H' b = hat H b) : OwnF H' w v e xs := by
  rcases h with h | ⟨b, rfl, h⟩
  · exact .inl h
  · exact .inr ⟨b, rfl, h.keep (hk b rfl)⟩
theorem aslice_lo {v : AV} {xs : List α} (h : SlF c H w v xs) (hno : ∀ a, v ≠ .odd a) {t e : TypeId} (ht : c.P.underlying t = some (.slice e)) (hs : szOf c.P e = some w.W) {a : Nat} (ha : a ≤ xs.length) {k : IntKind} : ∃ u, aslice c H t v none (some (.int k (a : Int))) none = some (u, H) ∧ SlF c H w u (xs.take a) ∧ u.at? = v.at? ∧ (∀ a, u ≠ .odd a) := by
  rcases h with ⟨rfl | ⟨q, rfl⟩, rfl⟩ | ⟨l, st, rfl, hx⟩
  · obtain rfl : a = 0 := by simpa using ha
    exact ⟨.nilslice, by simp [aslice, ht, hs, abound], .inl ⟨.inl rfl, by simp⟩, rfl, by simp⟩
  · exact absurd rfl (hno q)
  · refine ⟨.slice l w.W st a, ?_, .inr ⟨l, st, by rw [List.length_take, Nat.min_eq_left ha], fun h0 => ?_⟩, by cases l <;> rfl, by simp⟩
    · simp only [aslice, ht, hs, Option.bind_some, abound, ne_eq, not_true, if_false, Int.toNat_natCast]
      rw [if_pos (by omega)]
      simp [ha]
    · have hne : xs ≠ [] := by rintro rfl; simp at h0
      obtain ⟨cs, hr, hc⟩ := hx hne
      refine ⟨cs, hr, ?_⟩
      rw [List.length_take, Nat.min_eq_left ha, ← w.fl_take, ← hc, List.take_take, Nat.min_eq_left (Nat.mul_le_mul_right _ ha)]
theorem aslice_hi {v : AV} {xs : List α} (h : SlF c H w v xs) (hno : ∀ a, v ≠ .odd a) {t e : TypeId} (ht : c.P.underlying t = some (.slice e)) (hs : szOf c.P e = some w.W) {a : Nat} (ha : a < xs.length) {k : IntKind} : ∃ u, aslice c H t v (some (.int k (a : Int))) none none = some (u, H) ∧ SlF c H w u (xs.drop a) ∧ u.at? = v.at? ∧ (∀ a, u ≠ .odd a) := by
  obtain ⟨l, st, cs, rfl, hr, hc, hl⟩ := h.at (by intro e; rw [e] at ha; simp at ha)
  refine ⟨.slice l w.W (st + a) (xs.length - a), ?_, .inr ⟨l, st + a, by rw [List.length_drop], fun h0 => ⟨cs, hr, ?_⟩⟩, by cases l <;> rfl, by simp⟩
  · simp only [aslice, ht, hs, Option.bind_some, abound, ne_eq, not_true, if_false, Int.toNat_natCast]
    rw [if_pos (by omega)]
    simp only [show a ≤ xs.length by omega, Nat.le_refl, true_or, and_self, if_true, ha, Option.bind_some]
    by_cases h0 : a = 0
    · subst h0; simp
    · rw [if_neg h0]
  · rw [List.length_drop, ← w.fl_drop, ← hc, List.drop_take, List.drop_drop, Nat.add_mul, Nat.sub_mul]
/-- 'v[a:]' at its end -/
theorem aslice_end {v : AV} {xs : List α} (h : SlF c H w v xs) (hx : xs ≠ []) {t e : TypeId} (ht : c.P.underlying t = some (.slice e)) (hs : szOf c.P e = some w.W) {k : IntKind} : aslice c H t v (some (.int k ((xs.length : Nat) : Int))) none none = some (.slice (fresh H) w.W 0 0, hnew H (.empty false)) := by
  obtain ⟨l, st, cs, rfl, hr, hc, hl⟩ := h.at hx
  simp only [aslice, ht, hs, Option.bind_some, abound, ne_eq, not_true, if_false, Int.toNat_natCast]
  have h0 : xs.length ≠ 0 := by simpa using hx
  rw [if_pos (by omega)]
  simp [h0]
theorem SlF.empty {l : Loc} {st : Nat} : SlF c H w (.slice l w.W st 0) [] := .inr ⟨l, st, by simp, fun h => absurd rfl h⟩

/-- an append of what another slice has -/
theorem app_nil {t e : TypeId} {k : Nat} {z : List AV} (ht : c.P.underlying t = some (.slice e)) (hi : infoSB c.P e = some (w.W, k)) (hz : zeroCells c.P e = some z) (hzl : z.length = w.W) (hk : 0 < k) {x : AV} {ys : List α} (hx : SlF c H w x ys) (hn : ys.length * k ≤ 2 ^ 47) :
    aappend c H t .nilslice x = if ys = [] then some (.nilslice, H) else some (.slice (fresh H) w.W 0 ys.length, hnew H (.row e w.W (w.fl ys))) := by
  rw [aappend_eq]
  simp only [aappend2, ht, Option.bind_some, hi, hz]
  rw [if_pos ⟨w.pos, hk, hzl⟩, hx.src]
  simp only [Option.bind_some]
  by_cases h0 : ys = []
  · subst h0; simp
  · rw [if_neg (by simpa using h0), if_neg h0, if_pos ⟨hn, w.fl_one ys⟩]
theorem app_own {t e : TypeId} {k : Nat} {z : List AV} (ht : c.P.underlying t = some (.slice e)) (hi : infoSB c.P e = some (w.W, k)) (hz : zeroCells c.P e = some z) (hzl : z.length = w.W) (hk : 0 < k) {b : Nat} {xs : List α} (hb : RowF H b e w xs) {x : AV} {ys : List α} (hx : SlF c H w x ys) (hn : (xs.length + ys.length) * k ≤ 2 ^ 47) :
    aappend c H t (.slice (.own b) w.W 0 xs.length) x = if ys = [] then some (.slice (.own b) w.W 0 xs.length, H) else some (.slice (fresh H) w.W 0 (xs.length + ys.length), hnew (H.set b none) (.row e w.W (w.fl (xs ++ ys)))) := by
  rw [aappend_eq]
  simp only [aappend2, ht, Option.bind_some, hi, hz]
  rw [if_pos ⟨w.pos, hk, hzl⟩, hx.src]
  simp only [Option.bind_some]
  by_cases h0 : ys = []
  · subst h0; simp
  · have hlen : ys.length ≠ 0 := by simpa using h0
    rw [if_neg hlen, if_neg h0, if_pos ⟨by trivial, w.fl_one ys⟩, show hat H b = _ from hb]
    simp only []
    have hl := w.fl_len xs
    rw [if_pos ⟨by trivial, by trivial, by rw [hl]; simp⟩, if_neg ?_, if_pos hn]
    · simp only [fresh, List.length_set, w.fl_app, Nat.zero_mul, List.drop_zero]
      rw [← hl, List.take_length]
    · rw [hl, Nat.zero_add, Nat.add_mul]
      have := Nat.mul_pos (Nat.pos_of_ne_zero hlen) w.pos
      omega
/-- 's = append(s, ys...)', a row of one's own -/
theorem OwnF.app {v : AV} {e : TypeId} {xs : List α} (h : OwnF H w v e xs) {t : TypeId} {k : Nat} {z : List AV} (ht : c.P.underlying t = some (.slice e)) (hi : infoSB c.P e = some (w.W, k)) (hz : zeroCells c.P e = some z) (hzl : z.length = w.W) (hk : 0 < k) {x : AV} {ys : List α} (hx : SlF c H w x ys) (h0 : ys ≠ []) (hn : (xs.length + ys.length) * k ≤ 2 ^ 47) :
    ∃ v' H', aappend c H t v x = some (v', H') ∧ OwnF H' w v' e (xs ++ ys) ∧ Keep H H' (fun j => v.at? = some j) ∧ v'.at? = some H.length ∧ H'.length = H.length + 1 := by
  rcases h with ⟨rfl, rfl⟩ | ⟨b, rfl, hb⟩
  · exact ⟨.slice (fresh H) w.W 0 ys.length, hnew H (.row e w.W (w.fl ys)), by rw [app_nil ht hi hz hzl hk hx (by simpa using hn), if_neg h0], .inr ⟨H.length, rfl, hat_nn _⟩, Keep.new _ _, rfl, by rw [len_new]⟩
  · refine ⟨.slice (fresh H) w.W 0 (xs.length + ys.length), hnew (H.set b none) (.row e w.W (w.fl (xs ++ ys))), by rw [app_own ht hi hz hzl hk hb hx hn, if_neg h0], .inr ⟨H.length, by simp [fresh], ?_⟩, ?_, rfl, by rw [len_new]; simp⟩
    · have := hat_nn (H := H.set b none) (.row e w.W (w.fl (xs ++ ys)))
      rw [List.length_set] at this
      exact this
    · refine ⟨by rw [len_new]; simp, fun j hj hne => ?_⟩
      rw [hat_nw _ (by simpa using hj), hat_ne _ (fun e => hne (by rw [e]; rfl))]
/-- one new element in a row of its own, as 'append' gets it -/
theorem SlF.single {x : α} {e : TypeId} : SlF c (hnew H (.row e w.W (w.enc x))) w (.slice (.own H.length) w.W 0 1) [x] :=
  OwnF.sl (e := e) (.inr ⟨H.length, rfl, by show hat _ _ = _; rw [hat_nn]; simp [Wd.fl]⟩)
end Go.AM
namespace Go.AM
open Go.RowKit
set_option linter.unusedSimpArgs false
set_option linter.unusedVariables false
variable {c : Ctx} {H : AHeap} {α : Type} {w : Wd α}
/-- a part of a row -/
theorem RowF.part {b : Nat} {e : TypeId} {xs : List α} (h : RowF H b e w xs) {a m : Nat} (ham : a + m ≤ xs.length) : SlF c H w (.slice (.own b) w.W a m) ((xs.drop a).take m) := by
  refine .inr ⟨.own b, a, by simp; omega, fun _ => ⟨w.fl xs, by simp only [rowOf]; rw [show hat H b = _ from h], ?_⟩⟩
  rw [w.fl_drop, show ((xs.drop a).take m).length = m by simp; omega, w.fl_take]
theorem asl_lo {t e : TypeId} (ht : c.P.underlying t = some (.slice e)) {z : Nat} (hs : szOf c.P e = some z) {l : Loc} {n i : Nat} (hi : i ≤ n) {k : IntKind} : aslice c H t (.slice l z 0 n) none (some (.int k (i : Int))) none = some (.slice l z 0 i, H) := by
  simp only [aslice, ht, hs, Option.bind_some, abound, ne_eq, not_true, if_false, Int.toNat_natCast]
  rw [if_pos (by omega)]
  simp [hi]
theorem asl_hi {t e : TypeId} (ht : c.P.underlying t = some (.slice e)) {z : Nat} (hs : szOf c.P e = some z) {l : Loc} {n i : Nat} (hi : i < n) {k : IntKind} : aslice c H t (.slice l z 0 n) (some (.int k (i : Int))) none none = some (.slice l z i (n - i), H) := by
  simp only [aslice, ht, hs, Option.bind_some, abound, ne_eq, not_true, if_false, Int.toNat_natCast]
  rw [if_pos (by omega)]
  simp only [show i ≤ n by omega, Nat.le_refl, true_or, and_self, if_true, hi, Option.bind_some, Nat.zero_add]
  by_cases h0 : i = 0
  · subst h0; simp
  · rw [if_neg h0]
theorem asl_end {t e : TypeId} (ht : c.P.underlying t = some (.slice e)) {z : Nat} (hs : szOf c.P e = some z) {l : Loc} {n : Nat} (h0 : 0 < n) {k : IntKind} : aslice c H t (.slice l z 0 n) (some (.int k (n : Int))) none none = some (.slice (fresh H) z 0 0, hnew H (.empty false)) := by
  simp only [aslice, ht, hs, Option.bind_some, abound, ne_eq, not_true, if_false, Int.toNat_natCast]
  rw [if_pos (by omega)]
  simp [show ¬ n = 0 by omega]
theorem asl_nil_lo {t e : TypeId} (ht : c.P.underlying t = some (.slice e)) {z : Nat} (hs : szOf c.P e = some z) {k : IntKind} : aslice c H t .nilslice none (some (.int k ((0 : Nat) : Int))) none = some (.nilslice, H) := by
  simp [aslice, ht, hs, abound]
theorem asl_nil_hi {t e : TypeId} (ht : c.P.underlying t = some (.slice e)) {z : Nat} (hs : szOf c.P e = some z) {k : IntKind} : aslice c H t .nilslice (some (.int k ((0 : Nat) : Int))) none none = some (.nilslice, H) := by
  simp [aslice, ht, hs, abound]
/-- one step of a region that draws its order, as 'D.local' asks for it -/
theorem Lo.mk' {κ : Kn} {T : FuncId → Spec} {ops : Array Oper} {env : AEnv} {u : Lo} {ej : AEnv} {Hj : AHeap} (v : AV) (news : AHeap) (h1 : asteps κ.c (callT κ T) ops.toList (ops.toList.take u.j) env H = some (ej, Hj)) (h2 : news.length = u.makes)
    (h3 : ∀ K : AHeap, K.length = H.length + u.ahead → (∀ b, b < H.length → hat K b = hat H b) → (∀ b ∈ u.need, hat K (H.length + b) = hat Hj (H.length + b)) → stepV κ.c (callT κ T) ops.toList (opsOf ops.toList u.j) ej K = some (some v, killK H u.kill K ++ news)) :
    ∃ ej Hj v news, asteps κ.c (callT κ T) ops.toList (ops.toList.take u.j) env H = some (ej, Hj) ∧ news.length = u.makes ∧ ∀ K : AHeap, K.length = H.length + u.ahead → (∀ b, b < H.length → hat K b = hat H b) → (∀ b ∈ u.need, hat K (H.length + b) = hat Hj (H.length + b)) → stepV κ.c (callT κ T) ops.toList (opsOf ops.toList u.j) ej K = some (v, killK H u.kill K ++ news) :=
  ⟨ej, Hj, some v, news, h1, h2, h3⟩
end Go.AM
