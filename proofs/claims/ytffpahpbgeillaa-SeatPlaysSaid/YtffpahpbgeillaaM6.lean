/- Texts of the proof in one file (own work): AmFlat, Rs, Rf. -/
import Derived.Test.YtffpahpbgeillaaM5
/-
  ROWS OF STRUCTS AS LISTS (own work): each element W cells wide; loads, stores, slices and appends told by the list.
-/
namespace Go.AM
open Go.RowKit
set_option linter.unusedSimpArgs false
set_option linter.unusedVariables false
variable {c : Ctx} {H : AHeap} {α : Type}

/-- how an element stands in cells -/
structure Wd (α : Type) where
  W : Nat
  enc : α → List AV
  pos : 0 < W
  len : ∀ a, (enc a).length = W
  one : ∀ a, (enc a).all AV.one = true
variable {w : Wd α}
def Wd.fl (w : Wd α) (xs : List α) : List AV := xs.flatMap w.enc
theorem Wd.fl_nil : w.fl [] = [] := rfl
theorem Wd.fl_cons (x : α) (xs : List α) : w.fl (x :: xs) = w.enc x ++ w.fl xs := rfl
theorem Wd.fl_app (xs ys : List α) : w.fl (xs ++ ys) = w.fl xs ++ w.fl ys := by simp [Wd.fl]
theorem Wd.fl_len (xs : List α) : (w.fl xs).length = xs.length * w.W := by
  induction xs with
  | nil => simp [Wd.fl]
  | cons x xs ih => rw [fl_cons, List.length_append, w.len, ih, List.length_cons, Nat.succ_mul]; omega
theorem Wd.fl_one (xs : List α) : (w.fl xs).all AV.one = true := by
  simp only [Wd.fl, List.all_eq_true, List.mem_flatMap]
  rintro v ⟨a, _, hv⟩
  exact List.all_eq_true.1 (w.one a) v hv
theorem Wd.fl_take (xs : List α) (n : Nat) : (w.fl xs).take (n * w.W) = w.fl (xs.take n) := by
  induction xs generalizing n with
  | nil => simp [Wd.fl]
  | cons x xs ih =>
    cases n with
    | zero => simp [Wd.fl]
    | succ n =>
      rw [fl_cons, List.take_succ_cons, fl_cons, ← ih, List.take_append, w.len, Nat.succ_mul, List.take_of_length_le (by rw [w.len]; omega), Nat.add_sub_cancel]
theorem Wd.fl_drop (xs : List α) (n : Nat) : (w.fl xs).drop (n * w.W) = w.fl (xs.drop n) := by
  induction xs generalizing n with
  | nil => simp [Wd.fl]
  | cons x xs ih =>
    cases n with
    | zero => simp [Wd.fl]
    | succ n =>
      rw [fl_cons, List.drop_succ_cons, ← ih, List.drop_append, w.len, Nat.succ_mul, List.drop_of_length_le (by rw [w.len]; omega), Nat.add_sub_cancel, List.nil_append]
theorem Wd.fl_split {xs : List α} {i : Nat} (h : i < xs.length) : w.fl xs = w.fl (xs.take i) ++ (w.enc xs[i] ++ w.fl (xs.drop (i + 1))) := by
  rw [← fl_cons, ← fl_app, ← List.drop_eq_getElem_cons h, List.take_append_drop]
theorem Wd.fl_get {xs : List α} {i : Nat} (h : i < xs.length) {j : Nat} (hj : j < w.W) : (w.fl xs)[i * w.W + j]? = (w.enc xs[i])[j]? := by
  have hl : (w.fl (xs.take i)).length = i * w.W := by rw [fl_len, List.length_take, Nat.min_eq_left (by omega)]
  rw [fl_split h, List.getElem?_append_right (by omega), hl, Nat.add_sub_cancel_left, List.getElem?_append_left (by rw [w.len]; exact hj)]
theorem Wd.fl_seg {xs : List α} {i : Nat} (h : i < xs.length) : ((w.fl xs).drop (i * w.W)).take w.W = w.enc xs[i] := by
  rw [fl_drop, List.drop_eq_getElem_cons h, fl_cons, List.take_left' (w.len _)]
theorem set_app {l m : List AV} {i : Nat} {v : AV} (h : l.length ≤ i) : (l ++ m).set i v = l ++ m.set (i - l.length) v := by
  rw [List.set_append_right _ _ h]
theorem take_set' {xs : List α} {i : Nat} {x : α} : (xs.set i x).take i = xs.take i := by
  rw [List.take_set_of_le (Nat.le_refl _)]
theorem drop_set' {xs : List α} {i : Nat} {x : α} : (xs.set i x).drop (i + 1) = xs.drop (i + 1) := by
  rw [List.drop_set_of_lt (by omega)]
theorem Wd.fl_set {xs : List α} {i : Nat} (h : i < xs.length) {j : Nat} (hj : j < w.W) {v : AV} {x : α} (hx : w.enc x = (w.enc xs[i]).set j v) : (w.fl xs).set (i * w.W + j) v = w.fl (xs.set i x) := by
  have hl : (w.fl (xs.take i)).length = i * w.W := by rw [fl_len, List.length_take, Nat.min_eq_left (by omega)]
  have hs : i < (xs.set i x).length := by simpa using h
  rw [fl_split h, fl_split hs, take_set', drop_set', List.getElem_set_self, hx, List.set_append_right _ _ (by omega), hl, Nat.add_sub_cancel_left, List.set_append_left _ _ (by rw [w.len]; exact hj)]
theorem Wd.fl_put {xs : List α} {i : Nat} (h : i < xs.length) (x : α) : setSeg (w.fl xs) (i * w.W) (w.enc x) = w.fl (xs.set i x) := by
  have hs : i < (xs.set i x).length := by simpa using h
  rw [fl_split hs, take_set', drop_set', List.getElem_set_self, setSeg, fl_take, w.len, ← Nat.succ_mul, fl_drop]
theorem setSeg_one {cs : List AV} {i : Nat} (v : AV) (h : i < cs.length) : setSeg cs i [v] = cs.set i v := by
  rw [setSeg, List.set_eq_take_append_cons_drop, if_pos h]; rfl

/-! ### a row behind a block -/
def RowF (H : AHeap) (b : Nat) (e : TypeId) (w : Wd α) (xs : List α) : Prop := hat H b = some (.row e w.W (w.fl xs))
/-- the heap with the row as told -/
def hrow (H : AHeap) (b : Nat) (e : TypeId) (w : Wd α) (xs : List α) : AHeap := H.set b (some (.row e w.W (w.fl xs)))
theorem RowF.lt {b : Nat} {e : TypeId} {xs : List α} (h : RowF H b e w xs) : b < H.length := hat_lt h
theorem RowF.keep {b : Nat} {e : TypeId} {xs : List α} (h : RowF H b e w xs) {H' : AHeap} (k : hat H' b = hat H b) : RowF H' b e w xs := k.trans h
theorem hrow_self {b : Nat} {e : TypeId} {xs : List α} (h : RowF H b e w xs) : hrow H b e w xs = H := by
  refine hat_ext (by simp [hrow]) fun j => ?_
  rw [hrow, hat_setI]
  split
  · rename_i hj; rw [hj.1]; exact h.symm
  · rfl
theorem hrow_len {b : Nat} {e : TypeId} {xs : List α} : (hrow H b e w xs).length = H.length := by simp [hrow]
theorem hrow_at {b : Nat} {e : TypeId} {xs : List α} (hb : b < H.length) : RowF (hrow H b e w xs) b e w xs := by
  show hat (H.set b _) b = _
  rw [hat_eq _ hb]
theorem hrow_ne {b j : Nat} {e : TypeId} {xs : List α} (h : j ≠ b) : hat (hrow H b e w xs) j = hat H j := by rw [hrow, hat_ne _ h]
theorem hrow_set {b : Nat} {e : TypeId} {xs ys : List α} : hrow (hrow H b e w xs) b e w ys = hrow H b e w ys := by simp [hrow, List.set_set]
theorem hrow_keep {b : Nat} {e : TypeId} {xs : List α} : Keep H (hrow H b e w xs) (fun j => j = b) := ⟨by simp [hrow], fun j _ h => hrow_ne h⟩
/-- a field -/
theorem RowF.ld {b : Nat} {e : TypeId} {xs : List α} (h : RowF H b e w xs) {i j : Nat} (hi : i < xs.length) (hj : j < w.W) {t : TypeId} {v : AV} (hv : (w.enc xs[i])[j]? = some v) (ha : isAggT c.P t = some false) : aload c H t (.ptr (.own b) (i * w.W + j)) = some v := by
  simp only [aload, ha, Option.bind_some]
  rw [if_neg (by simp), rd_own h, w.fl_get hi hj, hv]; rfl
/-- a whole element -/
theorem RowF.ldA {b : Nat} {e : TypeId} {xs : List α} (h : RowF H b e w xs) {i : Nat} (hi : i < xs.length) {t : TypeId} (ha : isAggT c.P t = some true) (hs : szOf c.P t = some w.W) : aload c H t (.ptr (.own b) (i * w.W)) = some (.agg (w.enc xs[i])) := by
  simp only [aload, ha, hs, Option.bind_some, if_true, rd, rowOf]
  rw [show hat H b = _ from h]
  simp only [Option.bind_some]
  have hle : i * w.W + w.W ≤ (w.fl xs).length := by rw [w.fl_len, ← Nat.succ_mul]; exact Nat.mul_le_mul_right _ hi
  rw [if_pos hle, w.fl_seg hi]; rfl
/-- a field put -/
theorem RowF.st {b : Nat} {e : TypeId} {xs : List α} (h : RowF H b e w xs) {i j : Nat} (hi : i < xs.length) (hj : j < w.W) {v : AV} (h1 : v.one = true) {x : α} (hx : w.enc x = (w.enc xs[i]).set j v) : wr H (.own b) (i * w.W + j) [v] = some (hrow H b e w (xs.set i x)) := by
  have hle : i * w.W + j < (w.fl xs).length := by
    rw [w.fl_len]
    have := Nat.mul_le_mul_right w.W (show i + 1 ≤ xs.length by omega)
    rw [Nat.succ_mul] at this; omega
  simp only [wr]
  rw [show hat H b = _ from h]
  simp only []
  rw [if_pos ⟨by simp; omega, by simp [h1]⟩, setSeg_one _ hle, w.fl_set hi hj hx]; rfl
/-- a whole element put -/
theorem RowF.stA {b : Nat} {e : TypeId} {xs : List α} (h : RowF H b e w xs) {i : Nat} (hi : i < xs.length) (x : α) : wr H (.own b) (i * w.W) (w.enc x) = some (hrow H b e w (xs.set i x)) := by
  have hle : i * w.W + w.W ≤ (w.fl xs).length := by rw [w.fl_len, ← Nat.succ_mul]; exact Nat.mul_le_mul_right _ hi
  simp only [wr]
  rw [show hat H b = _ from h]
  simp only []
  rw [if_pos ⟨by rw [w.len]; exact hle, w.one x⟩, w.fl_put hi]; rfl

/-! ### slices of structs, as lists -/
def SlF (c : Ctx) (H : AHeap) (w : Wd α) (v : AV) (xs : List α) : Prop :=
  ((v = .nilslice ∨ ∃ a, v = .odd a) ∧ xs = []) ∨ ∃ l st, v = .slice l w.W st xs.length ∧ (xs ≠ [] → ∃ cs, rowOf c H l = some cs ∧ (cs.drop (st * w.W)).take (xs.length * w.W) = w.fl xs)
def ptrF (w : Wd α) (v : AV) (i : Nat) : AV := match v with | .slice l _ st _ => .ptr l ((st + i) * w.W) | _ => .nilptr
def ptrJ (w : Wd α) (v : AV) (i j : Nat) : AV := match v with | .slice l _ st _ => .ptr l ((st + i) * w.W + j) | _ => .nilptr
theorem SlF.nil : SlF c H w .nilslice [] := .inl ⟨.inl rfl, rfl⟩
theorem SlF.len {v : AV} {xs : List α} (h : SlF c H w v xs) {t e : TypeId} (ht : c.P.underlying t = some (.slice e)) : alen c H t v = some (.int .i64 xs.length) := by
  rcases h with ⟨rfl | ⟨a, rfl⟩, rfl⟩ | ⟨l, st, rfl, _⟩
  · simp [alen, ht]
  · simp [alen, ht]
  · simp [alen, ht]
theorem SlF.ia {v : AV} {xs : List α} (h : SlF c H w v xs) {t e : TypeId} (ht : c.P.underlying t = some (.slice e)) (hs : szOf c.P e = some w.W) {i : Nat} (hi : i < xs.length) (k : IntKind) : aindexAddr c t v (.int k (i : Int)) = some (ptrF w v i) := by
  rcases h with ⟨_, rfl⟩ | ⟨l, st, rfl, _⟩
  · simp at hi
  · simp only [aindexAddr, ht, Option.bind_some, hs, ptrF]
    rw [if_pos ⟨by simp, by omega, by omega⟩]
    simp
theorem SlF.fa {v : AV} {xs : List α} (h : SlF c H w v xs) {i : Nat} (hi : i < xs.length) {s : TypeId} {fs : Array Field} (hs : c.P.underlying s = some (.struct fs)) {f : Nat} {g : Field} (hg : fs[f]? = some g) {n : Nat} (hn : szOf c.P g.type = some n) (h0 : n ≠ 0) : afieldAddr c s (ptrF w v i) f = some (ptrJ w v i g.offset) := by
  rcases h with ⟨_, rfl⟩ | ⟨l, st, rfl, _⟩
  · simp at hi
  · simp only [ptrF, ptrJ, afieldAddr, hs, Option.bind_some, hg, hn, if_neg h0]
theorem SlF.at {v : AV} {xs : List α} (h : SlF c H w v xs) (h0 : xs ≠ []) : ∃ l st cs, v = .slice l w.W st xs.length ∧ rowOf c H l = some cs ∧ (cs.drop (st * w.W)).take (xs.length * w.W) = w.fl xs ∧ st * w.W + xs.length * w.W ≤ cs.length := by
  rcases h with ⟨_, rfl⟩ | ⟨l, st, rfl, hx⟩
  · exact absurd rfl h0
  · obtain ⟨cs, hr, hc⟩ := hx h0
    refine ⟨l, st, cs, rfl, hr, hc, ?_⟩
    have h2 := congrArg List.length hc
    rw [w.fl_len, List.length_take, List.length_drop] at h2
    have h3 : 0 < xs.length * w.W := Nat.mul_pos (List.length_pos_iff.2 h0) w.pos
    omega
theorem SlF.ld {v : AV} {xs : List α} (h : SlF c H w v xs) {i j : Nat} (hi : i < xs.length) (hj : j < w.W) {t : TypeId} {u : AV} (hv : (w.enc xs[i])[j]? = some u) (ha : isAggT c.P t = some false) : aload c H t (ptrJ w v i j) = some u := by
  obtain ⟨l, st, cs, rfl, hr, hc, _⟩ := h.at (by intro e; rw [e] at hi; simp at hi)
  simp only [ptrJ, aload, ha, Option.bind_some]
  rw [if_neg (by simp), rd_row hr]
  have h1 : cs[(st + i) * w.W + j]? = some u := by
    have h2 := congrArg (fun l => l[i * w.W + j]?) hc
    have hlt : i * w.W + j < xs.length * w.W := by
      have := Nat.mul_le_mul_right w.W (show i + 1 ≤ xs.length by omega)
      rw [Nat.succ_mul] at this; omega
    simp only [List.getElem?_take, if_pos hlt, List.getElem?_drop, w.fl_get hi hj, hv] at h2
    rw [← h2, Nat.add_mul]; congr 1; omega
  rw [h1]; rfl
theorem SlF.ldA {v : AV} {xs : List α} (h : SlF c H w v xs) {i : Nat} (hi : i < xs.length) {t : TypeId} (ha : isAggT c.P t = some true) (hs : szOf c.P t = some w.W) : aload c H t (ptrF w v i) = some (.agg (w.enc xs[i])) := by
  obtain ⟨l, st, cs, rfl, hr, hc, hl⟩ := h.at (by intro e; rw [e] at hi; simp at hi)
  have hle : (st + i) * w.W + w.W ≤ cs.length := by
    have := Nat.mul_le_mul_right w.W (show i + 1 ≤ xs.length by omega)
    rw [Nat.succ_mul] at this
    rw [Nat.add_mul]; omega
  simp only [ptrF, aload, ha, hs, Option.bind_some, if_true, rd, hr, if_pos hle, Option.map_some]
  congr 2
  rw [← w.fl_seg hi, ← hc, List.drop_take, List.take_take, List.drop_drop, Nat.add_mul, Nat.min_eq_left]
  have := Nat.mul_le_mul_right w.W (show i + 1 ≤ xs.length by omega)
  rw [Nat.succ_mul] at this; omega
theorem SlF.ext {v : AV} {xs : List α} (h : SlF c H w v xs) {H' : AHeap} (hk : ∀ b, v.at? = some b → hat H' b = hat H b) : SlF c H' w v xs := by
  rcases h with h | ⟨l, st, rfl, hx⟩
  · exact .inl h
  · refine .inr ⟨l, st, rfl, fun hn => ?_⟩
    obtain ⟨cs, hr, hc⟩ := hx hn
    refine ⟨cs, ?_, hc⟩
    cases l with
    | own b => simp only [rowOf, hk b rfl] at hr ⊢; exact hr
    | ext p => exact hr
theorem SlF.keep {v : AV} {xs : List α} (h : SlF c H w v xs) {H' : AHeap} {S : Nat → Prop} (hk : Keep H H' S) (hv : ∀ b, v.at? = some b → b < H.length ∧ ¬ S b) : SlF c H' w v xs :=
  h.ext fun b hb => hk.2 b (hv b hb).1 (hv b hb).2
theorem SlF.one {v : AV} {xs : List α} (h : SlF c H w v xs) : v.one = true ∧ v.cells = [v] := by
  rcases h with ⟨rfl | ⟨a, rfl⟩, _⟩ | ⟨l, st, rfl, _⟩ <;> exact ⟨rfl, rfl⟩
theorem SlF.src {v : AV} {xs : List α} (h : SlF c H w v xs) : source c H w.W v = some (xs.length, w.fl xs) := by
  rcases h with ⟨rfl | ⟨a, rfl⟩, rfl⟩ | ⟨l, st, rfl, hx⟩
  · rfl
  · rfl
  · by_cases h0 : xs = []
    · subst h0; simp [source, Wd.fl]
    · obtain ⟨l', st', cs, e, hr, hc, hl⟩ := SlF.at (c := c) (H := H) (.inr ⟨l, st, rfl, hx⟩) h0
      cases e
      have hne : xs.length ≠ 0 := by simpa using h0
      simp only [source, if_true, if_neg hne, rd, hr, Option.bind_some, if_pos hl, hc, Option.map_some]

/-- a row of one's own from its start -/
def OwnF (H : AHeap) (w : Wd α) (v : AV) (e : TypeId) (xs : List α) : Prop :=
  (v = .nilslice ∧ xs = []) ∨ ∃ b, v = .slice (.own b) w.W 0 xs.length ∧ RowF H b e w xs
theorem OwnF.nil {e : TypeId} : OwnF H w .nilslice e [] := .inl ⟨rfl, rfl⟩
theorem OwnF.sl {v : AV} {e : TypeId} {xs : List α} (h : OwnF H w v e xs) : SlF c H w v xs := by
  rcases h with h | ⟨b, rfl, hb⟩
  · exact .inl ⟨.inl h.1, h.2⟩
  · refine .inr ⟨.own b, 0, rfl, fun _ => ⟨w.fl xs, by simp only [rowOf]; rw [show hat H b = _ from hb], ?_⟩⟩
    rw [Nat.zero_mul, List.drop_zero, ← w.fl_len, List.take_length]
theorem OwnF.lt {v : AV} {e : TypeId} {xs : List α} (h : OwnF H w v e xs) {b : Nat} (hb : v.at? = some b) : b < H.length := by
  rcases h with ⟨rfl, _⟩ | ⟨b', rfl, h⟩
  · simp [AV.at?] at hb
  · simp only [AV.at?, Option.some.injEq] at hb; subst hb; exact h.lt
theorem OwnF.keep {v : AV} {e : TypeId} {xs : List α} (h : OwnF H w v e xs) {H' : AHeap} (hk : ∀ b, v.at? = some b → hat H' b = hat H b) : OwnF H' w v e xs := by
  rcases h with h | ⟨b, rfl, h⟩
  · exact .inl h
  · exact .inr ⟨b, rfl, h.keep (hk b rfl)⟩
theorem aslice_lo {v : AV} {xs : List α} (h : SlF c H w v xs) (hno : ∀ a, v ≠ .odd a) {t e : TypeId} (ht : c.P.underlying t = some (.slice e)) (hs : szOf c.P e = some w.W) {a : Nat} (ha : a ≤ xs.length) {k : IntKind} : ∃ u, aslice c H t v none (some (.int k (a : Int))) none = some (u, H) ∧ SlF c H w u (xs.take a) ∧ u.at? = v.at? ∧ (∀ a, u ≠ .odd a) := by
  rcases h with ⟨rfl | ⟨q, rfl⟩, rfl⟩ | ⟨l, st, rfl, hx⟩
  · obtain rfl : a = 0 := by simpa using ha
    exact ⟨.nilslice, by simp [aslice, ht, hs, abound], .inl ⟨.inl rfl, by simp⟩, rfl, by simp⟩
  · exact absurd rfl (hno q)
  · refine ⟨.slice l w.W st a, ?_, .inr ⟨l, st, by rw [List.length_take, Nat.min_eq_left ha], fun h0 => ?_⟩, by cases l <;> rfl, by simp⟩
    · simp only [aslice, ht, hs, Option.bind_some, abound, ne_eq, not_true, if_false, Int.toNat_natCast]
      rw [if_pos (by omega)]
      simp [ha]
    · have hne : xs ≠ [] := by rintro rfl; simp at h0
      obtain ⟨cs, hr, hc⟩ := hx hne
      refine ⟨cs, hr, ?_⟩
      rw [List.length_take, Nat.min_eq_left ha, ← w.fl_take, ← hc, List.take_take, Nat.min_eq_left (Nat.mul_le_mul_right _ ha)]
theorem aslice_hi {v : AV} {xs : List α} (h : SlF c H w v xs) (hno : ∀ a, v ≠ .odd a) {t e : TypeId} (ht : c.P.underlying t = some (.slice e)) (hs : szOf c.P e = some w.W) {a : Nat} (ha : a < xs.length) {k : IntKind} : ∃ u, aslice c H t v (some (.int k (a : Int))) none none = some (u, H) ∧ SlF c H w u (xs.drop a) ∧ u.at? = v.at? ∧ (∀ a, u ≠ .odd a) := by
  obtain ⟨l, st, cs, rfl, hr, hc, hl⟩ := h.at (by intro e; rw [e] at ha; simp at ha)
  refine ⟨.slice l w.W (st + a) (xs.length - a), ?_, .inr ⟨l, st + a, by rw [List.length_drop], fun h0 => ⟨cs, hr, ?_⟩⟩, by cases l <;> rfl, by simp⟩
  · simp only [aslice, ht, hs, Option.bind_some, abound, ne_eq, not_true, if_false, Int.toNat_natCast]
    rw [if_pos (by omega)]
    simp only [show a ≤ xs.length by omega, Nat.le_refl, true_or, and_self, if_true, ha, Option.bind_some]
    by_cases h0 : a = 0
    · subst h0; simp
    · rw [if_neg h0]
  · rw [List.length_drop, ← w.fl_drop, ← hc, List.drop_take, List.drop_drop, Nat.add_mul, Nat.sub_mul]
/-- 'v[a:]' at its end -/
theorem aslice_end {v : AV} {xs : List α} (h : SlF c H w v xs) (hx : xs ≠ []) {t e : TypeId} (ht : c.P.underlying t = some (.slice e)) (hs : szOf c.P e = some w.W) {k : IntKind} : aslice c H t v (some (.int k ((xs.length : Nat) : Int))) none none = some (.slice (fresh H) w.W 0 0, hnew H (.empty false)) := by
  obtain ⟨l, st, cs, rfl, hr, hc, hl⟩ := h.at hx
  simp only [aslice, ht, hs, Option.bind_some, abound, ne_eq, not_true, if_false, Int.toNat_natCast]
  have h0 : xs.length ≠ 0 := by simpa using hx
  rw [if_pos (by omega)]
  simp [h0]
theorem SlF.empty {l : Loc} {st : Nat} : SlF c H w (.slice l w.W st 0) [] := .inr ⟨l, st, by simp, fun h => absurd rfl h⟩

/-- an append of what another slice has -/
theorem app_nil {t e : TypeId} {k : Nat} {z : List AV} (ht : c.P.underlying t = some (.slice e)) (hi : infoSB c.P e = some (w.W, k)) (hz : zeroCells c.P e = some z) (hzl : z.length = w.W) (hk : 0 < k) {x : AV} {ys : List α} (hx : SlF c H w x ys) (hn : ys.length * k ≤ 2 ^ 47) :
    aappend c H t .nilslice x = if ys = [] then some (.nilslice, H) else some (.slice (fresh H) w.W 0 ys.length, hnew H (.row e w.W (w.fl ys))) := by
  rw [aappend_eq]
  simp only [aappend2, ht, Option.bind_some, hi, hz]
  rw [if_pos ⟨w.pos, hk, hzl⟩, hx.src]
  simp only [Option.bind_some]
  by_cases h0 : ys = []
  · subst h0; simp
  · rw [if_neg (by simpa using h0), if_neg h0, if_pos ⟨hn, w.fl_one ys⟩]
theorem app_own {t e : TypeId} {k : Nat} {z : List AV} (ht : c.P.underlying t = some (.slice e)) (hi : infoSB c.P e = some (w.W, k)) (hz : zeroCells c.P e = some z) (hzl : z.length = w.W) (hk : 0 < k) {b : Nat} {xs : List α} (hb : RowF H b e w xs) {x : AV} {ys : List α} (hx : SlF c H w x ys) (hn : (xs.length + ys.length) * k ≤ 2 ^ 47) :
    aappend c H t (.slice (.own b) w.W 0 xs.length) x = if ys = [] then some (.slice (.own b) w.W 0 xs.length, H) else some (.slice (fresh H) w.W 0 (xs.length + ys.length), hnew (H.set b none) (.row e w.W (w.fl (xs ++ ys)))) := by
  rw [aappend_eq]
  simp only [aappend2, ht, Option.bind_some, hi, hz]
  rw [if_pos ⟨w.pos, hk, hzl⟩, hx.src]
  simp only [Option.bind_some]
  by_cases h0 : ys = []
  · subst h0; simp
  · have hlen : ys.length ≠ 0 := by simpa using h0
    rw [if_neg hlen, if_neg h0, if_pos ⟨by trivial, w.fl_one ys⟩, show hat H b = _ from hb]
    simp only []
    have hl := w.fl_len xs
    rw [if_pos ⟨by trivial, by trivial, by rw [hl]; simp⟩, if_neg ?_, if_pos hn]
    · simp only [fresh, List.length_set, w.fl_app, Nat.zero_mul, List.drop_zero]
      rw [← hl, List.take_length]
    · rw [hl, Nat.zero_add, Nat.add_mul]
      have := Nat.mul_pos (Nat.pos_of_ne_zero hlen) w.pos
      omega
/-- 's = append(s, ys...)', a row of one's own -/
theorem OwnF.app {v : AV} {e : TypeId} {xs : List α} (h : OwnF H w v e xs) {t : TypeId} {k : Nat} {z : List AV} (ht : c.P.underlying t = some (.slice e)) (hi : infoSB c.P e = some (w.W, k)) (hz : zeroCells c.P e = some z) (hzl : z.length = w.W) (hk : 0 < k) {x : AV} {ys : List α} (hx : SlF c H w x ys) (h0 : ys ≠ []) (hn : (xs.length + ys.length) * k ≤ 2 ^ 47) :
    ∃ v' H', aappend c H t v x = some (v', H') ∧ OwnF H' w v' e (xs ++ ys) ∧ Keep H H' (fun j => v.at? = some j) ∧ v'.at? = some H.length ∧ H'.length = H.length + 1 := by
  rcases h with ⟨rfl, rfl⟩ | ⟨b, rfl, hb⟩
  · exact ⟨.slice (fresh H) w.W 0 ys.length, hnew H (.row e w.W (w.fl ys)), by rw [app_nil ht hi hz hzl hk hx (by simpa using hn), if_neg h0], .inr ⟨H.length, rfl, hat_nn _⟩, Keep.new _ _, rfl, by rw [len_new]⟩
  · refine ⟨.slice (fresh H) w.W 0 (xs.length + ys.length), hnew (H.set b none) (.row e w.W (w.fl (xs ++ ys))), by rw [app_own ht hi hz hzl hk hb hx hn, if_neg h0], .inr ⟨H.length, by simp [fresh], ?_⟩, ?_, rfl, by rw [len_new]; simp⟩
    · have := hat_nn (H := H.set b none) (.row e w.W (w.fl (xs ++ ys)))
      rw [List.length_set] at this
      exact this
    · refine ⟨by rw [len_new]; simp, fun j hj hne => ?_⟩
      rw [hat_nw _ (by simpa using hj), hat_ne _ (fun e => hne (by rw [e]; rfl))]
/-- one new element in a row of its own, as 'append' gets it -/
theorem SlF.single {x : α} {e : TypeId} : SlF c (hnew H (.row e w.W (w.enc x))) w (.slice (.own H.length) w.W 0 1) [x] :=
  OwnF.sl (e := e) (.inr ⟨H.length, rfl, by show hat _ _ = _; rw [hat_nn]; simp [Wd.fl]⟩)
end Go.AM
namespace Go.AM
open Go.RowKit
set_option linter.unusedSimpArgs false
set_option linter.unusedVariables false
variable {c : Ctx} {H : AHeap} {α : Type} {w : Wd α}
/-- a part of a row -/
theorem RowF.part {b : Nat} {e : TypeId} {xs : List α} (h : RowF H b e w xs) {a m : Nat} (ham : a + m ≤ xs.length) : SlF c H w (.slice (.own b) w.W a m) ((xs.drop a).take m) := by
  refine .inr ⟨.own b, a, by simp; omega, fun _ => ⟨w.fl xs, by simp only [rowOf]; rw [show hat H b = _ from h], ?_⟩⟩
  rw [w.fl_drop, show ((xs.drop a).take m).length = m by simp; omega, w.fl_take]
theorem asl_lo {t e : TypeId} (ht : c.P.underlying t = some (.slice e)) {z : Nat} (hs : szOf c.P e = some z) {l : Loc} {n i : Nat} (hi : i ≤ n) {k : IntKind} : aslice c H t (.slice l z 0 n) none (some (.int k (i : Int))) none = some (.slice l z 0 i, H) := by
  simp only [aslice, ht, hs, Option.bind_some, abound, ne_eq, not_true, if_false, Int.toNat_natCast]
  rw [if_pos (by omega)]
  simp [hi]
theorem asl_hi {t e : TypeId} (ht : c.P.underlying t = some (.slice e)) {z : Nat} (hs : szOf c.P e = some z) {l : Loc} {n i : Nat} (hi : i < n) {k : IntKind} : aslice c H t (.slice l z 0 n) (some (.int k (i : Int))) none none = some (.slice l z i (n - i), H) := by
  simp only [aslice, ht, hs, Option.bind_some, abound, ne_eq, not_true, if_false, Int.toNat_natCast]
  rw [if_pos (by omega)]
  simp only [show i ≤ n by omega, Nat.le_refl, true_or, and_self, if_true, hi, Option.bind_some, Nat.zero_add]
  by_cases h0 : i = 0
  · subst h0; simp
  · rw [if_neg h0]
theorem asl_end {t e : TypeId} (ht : c.P.underlying t = some (.slice e)) {z : Nat} (hs : szOf c.P e = some z) {l : Loc} {n : Nat} (h0 : 0 < n) {k : IntKind} : aslice c H t (.slice l z 0 n) (some (.int k (n : Int))) none none = some (.slice (fresh H) z 0 0, hnew H (.empty false)) := by
  simp only [aslice, ht, hs, Option.bind_some, abound, ne_eq, not_true, if_false, Int.toNat_natCast]
  rw [if_pos (by omega)]
  simp [show ¬ n = 0 by omega]
theorem asl_nil_lo {t e : TypeId} (ht : c.P.underlying t = some (.slice e)) {z : Nat} (hs : szOf c.P e = some z) {k : IntKind} : aslice c H t .nilslice none (some (.int k ((0 : Nat) : Int))) none = some (.nilslice, H) := by
  simp [aslice, ht, hs, abound]
theorem asl_nil_hi {t e : TypeId} (ht : c.P.underlying t = some (.slice e)) {z : Nat} (hs : szOf c.P e = some z) {k : IntKind} : aslice c H t .nilslice (some (.int k ((0 : Nat) : Int))) none none = some (.nilslice, H) := by
  simp [aslice, ht, hs, abound]
/-- one step of a region that draws its order, as 'D.local' asks for it -/
theorem Lo.mk' {κ : Kn} {T : FuncId → Spec} {ops : Array Oper} {env : AEnv} {u : Lo} {ej : AEnv} {Hj : AHeap} (v : AV) (news : AHeap) (h1 : asteps κ.c (callT κ T) ops.toList (ops.toList.take u.j) env H = some (ej, Hj)) (h2 : news.length = u.makes)
    (h3 : ∀ K : AHeap, K.length = H.length + u.ahead → (∀ b, b < H.length → hat K b = hat H b) → (∀ b ∈ u.need, hat K (H.length + b) = hat Hj (H.length + b)) → stepV κ.c (callT κ T) ops.toList (opsOf ops.toList u.j) ej K = some (some v, killK H u.kill K ++ news)) :
    ∃ ej Hj v news, asteps κ.c (callT κ T) ops.toList (ops.toList.take u.j) env H = some (ej, Hj) ∧ news.length = u.makes ∧ ∀ K : AHeap, K.length = H.length + u.ahead → (∀ b, b < H.length → hat K b = hat H b) → (∀ b ∈ u.need, hat K (H.length + b) = hat Hj (H.length + b)) → stepV κ.c (callT κ T) ops.toList (opsOf ops.toList u.j) ej K = some (v, killK H u.kill K ++ news) :=
  ⟨ej, Hj, some v, news, h1, h2, h3⟩
end Go.AM

/- Seats as the document has them (own work): their table behind a pointer; at, Last walked. -/
namespace Go.Proofs.Ytffpahpbgeillaa.sy
open Go.AM Go.AM.Seat
set_option linter.unusedSimpArgs false
set_option linter.unusedVariables false
variable {G : List Nat → Option (List AV)} {base : Nat} {w0 : World}
set_option maxRecDepth 100000
set_option maxHeartbeats 8000000
theorem hR21 : hasBody Try.prog 21 = true := by kernel_rfl
theorem hR12 : hasBody Try.prog 12 = true := by kernel_rfl
variable {H : AHeap} {bl : Nat} {gs : List Sa}
def encS (t : Sa) : List AV := [.int .i64 t.id, .int .i64 t.co, .bool t.nw]
def wS : Wd Sa := ⟨3, encS, by decide, fun _ => rfl, fun _ => rfl⟩
def sz (H : AHeap) (bl n : Nat) (gs : List Sa) (u : Sa) : AHeap := hrow H bl 60 wS (gs.set n u)
theorem sz_len {n : Nat} {u : Sa} : (sz H bl n gs u).length = H.length := hrow_len
theorem sz_row (h : RowF H bl 60 wS gs) {n : Nat} {u : Sa} : RowF (sz H bl n gs u) bl 60 wS (gs.set n u) := hrow_at h.lt
theorem sz_ne {n j : Nat} {u : Sa} (h : j ≠ bl) : hat (sz H bl n gs u) j = hat H j := hrow_ne h
theorem sz_keep {n : Nat} {u : Sa} : Keep H (sz H bl n gs u) (fun j => j = bl) := hrow_keep
structure CelS (c : Ctx) (H : AHeap) (bl n : Nat) (t : Sa) : Prop where
  f0 : aload c H 3 (.ptr (.own bl) (n * 3 + 0)) = some (.int .i64 t.id)
  f1 : aload c H 3 (.ptr (.own bl) (n * 3 + 1)) = some (.int .i64 t.co)
  f2 : aload c H 4 (.ptr (.own bl) (n * 3 + 2)) = some (.bool t.nw)
theorem celS {H : AHeap} {gs : List Sa} (h : RowF H bl 60 wS gs) {n : Nat} {t : Sa} (hg : gs[n]? = some t) : CelS (kn G base w0).c H bl n t := by
  obtain ⟨hn, hgt⟩ := List.getElem?_eq_some_iff.1 hg
  have e : ∀ (j : Nat) (v : AV), (encS t)[j]? = some v → (wS.enc gs[n])[j]? = some v := fun j v hv => by rw [hgt]; exact hv
  exact ⟨h.ld hn (j := 0) (by decide) (e 0 _ rfl) ag3, h.ld hn (j := 1) (by decide) (e 1 _ rfl) ag3, h.ld hn (j := 2) (by decide) (e 2 _ rfl) ag4⟩
theorem putS (h : RowF H bl 60 wS gs) {n : Nat} (hn : n < gs.length) (v : Bool) : wr H (.own bl) (n * 3 + 2) [.bool v] = some (sz H bl n gs { gs[n] with nw := v }) :=
  h.st hn (j := 2) (by decide) rfl rfl

/-- the table -/
structure Mx (H : AHeap) (pm : Nat) (N : Int) (v : AV) (ts : List Sa) : Prop where
  row : hat H pm = some (.row 37 2 [.int .i64 N, v])
  own : OwnF H wS v 60 ts
  ne : v.at? ≠ some pm
variable {pm : Nat} {N : Int} {v : AV} {ts : List Sa}
def MOwn (pm : Nat) (v : AV) : Nat → Prop := fun j => j = pm ∨ v.at? = some j
theorem Mx.lt (h : Mx H pm N v ts) {j : Nat} (hj : MOwn pm v j) : j < H.length := by
  rcases hj with rfl | hj
  · exact hat_lt h.row
  · exact h.own.lt hj
theorem Mx.keep {H' : AHeap} (h : Mx H pm N v ts) (hk : ∀ j, MOwn pm v j → hat H' j = hat H j) : Mx H' pm N v ts :=
  ⟨by rw [hk pm (.inl rfl)]; exact h.row, h.own.keep fun b hb => hk b (.inr hb), h.ne⟩
theorem Mx.blk (h : Mx H pm N v ts) (h0 : ts ≠ []) : ∃ bm, v = .slice (.own bm) 3 0 ts.length ∧ RowF H bm 60 wS ts ∧ bm ≠ pm := by
  rcases h.own with ⟨_, rfl⟩ | ⟨bm, rfl, hr⟩
  · exact absurd rfl h0
  · exact ⟨bm, rfl, hr, fun e => h.ne (by rw [e]; rfl)⟩
/-- what a deed may turn -/
structure Mk (H H' : AHeap) (pm : Nat) (v v' : AV) : Prop where
  keep : Keep H H' (MOwn pm v)
  own : ∀ b, v'.at? = some b → v.at? = some b ∨ H.length ≤ b
theorem Mk.refl : Mk H H pm v v := ⟨Keep.refl _, fun _ => .inl⟩
theorem Mk.trans {H1 H2 : AHeap} {v' v'' : AV} (a : Mk H H1 pm v v') (b : Mk H1 H2 pm v' v'') : Mk H H2 pm v v'' := by
  refine ⟨a.keep.trans' b.keep fun j hj hm => ?_, fun x hx => ?_⟩
  · rcases hm with e | e
    · exact .inl e
    · rcases a.own j e with h | h
      · exact .inr h
      · omega
  · rcases b.own x hx with h | h
    · exact a.own x h
    · exact .inr (Nat.le_trans a.keep.1 h)
theorem m0 (h : Mx H pm N v ts) : aload (kn G base w0).c H 3 (.ptr (.own pm) 0) = some (.int .i64 N) := ld_own h.row rfl ag3
theorem m1 (h : Mx H pm N v ts) : aload (kn G base w0).c H 35 (.ptr (.own pm) 1) = some v := ld_own h.row rfl ag35
theorem ix35 {bm i n : Nat} (hi : i < n) : aindexAddr (kn G base w0).c 35 (.slice (.own bm) 3 0 n) (.int .i64 (i : Int)) = some (.ptr (.own bm) (i * 3)) := ix_own Try.underlying35 sz60 (by decide) hi
/-- s.at(id) -/
def AtS (ts : List Sa) (id : Int) (H : AHeap) : AV → AHeap → Prop := fun r H' => H' = H ∧ (((∀ e ∈ ts, e.id ≠ id) ∧ r = .int .i64 (-1)) ∨ ∃ (i : Nat) (hi : i < ts.length), ts[i].id = id ∧ r = .int .i64 i)
theorem at_ok (h : Mx H pm N v ts) (id : Int) (hl : ts.length ≤ 1000000) : ∃ r H', Pt (kn G base w0) 21 [.ptr (.own pm) 0, .int .i64 id] H r H' ∧ AtS ts id H r H' := by
  refine Pt.fn (n := 26) (rs := [.tmp 4]) Try.func21 (b := _) rfl rfl rfl (by decide) ?_
  have e1 := m1 (G := G) (base := base) (w0 := w0) h
  have el := h.own.sl.len (c := (kn G base w0).c) Try.underlying35
  repeat (first | with_reducible refine D.sq ?_ | with_reducible refine D.bl ?_ | with_reducible refine D.skip ?_ | with_reducible refine D.rg (T := none_) (by kernel_rfl) (by simp (maxSteps := 1000000) (disch := omega) only [rulesA, rulesB, numbered, ayield, mapO, constAV, scAV, optval, abin, aint, acmp, aconv, aun, aeq, aminmax, afieldAddr, abuild, anew, fieldPlaces, afill, setSeg, kn_P, Nat.reduceAdd, Nat.reduceMul, Nat.reducePow, Nat.reduceSub, Nat.reduceEqDiff, Nat.reduceLT, Nat.reduceLeDiff, Int.reduceEq, Int.reduceNe, Int.reduceLT, Int.reduceLE, Int.reduceAdd, Int.reduceSub, Int.reduceToNat, Int.reduceBNe, Int.reduceBEq, tyR, rulesC]; with_reducible rfl) ?_ | with_reducible refine D.ct2 (by simp (maxSteps := 1000000) (disch := omega) only [rulesV, numbered, constAV, scAV, Nat.reduceEqDiff, Nat.reduceLT, Nat.reduceLeDiff, rulesC]; with_reducible rfl) (by with_reducible rfl) ?_ | with_reducible refine D.cf2 (by simp (maxSteps := 1000000) (disch := omega) only [rulesV, numbered, constAV, scAV, Nat.reduceEqDiff, Nat.reduceLT, Nat.reduceLeDiff, rulesC]; with_reducible rfl) (by with_reducible rfl) ?_ | with_reducible refine D.exit ?_ | with_reducible refine D.ret ?_ | simp only [rulesK, Nat.reduceEqDiff])
  refine D.lp (fun m env H' => ∃ i : Nat, m = ts.length - i ∧ i ≤ ts.length ∧ H' = H ∧ (∀ j (hj : j < ts.length), j < i → ts[j].id ≠ id) ∧ ELe (E 26 [(5, .int .i64 i), (0, .ptr (.own pm) 0), (1, .int .i64 id)]) env) ts.length
    ⟨0, by omega, by omega, rfl, fun j hj h0 => by omega, by exact E_le (by decide) (E_size _ _) (by simp only [List.forall_mem_cons, List.not_mem_nil, false_implies, implies_true, and_true, E_get, Nat.reduceEqDiff, Nat.reduceLT, Nat.reduceLeDiff, if_true, if_false, and_self, true_and] <;> first | rfl | exact ⟨rfl, rfl⟩)⟩ ?_
  rintro m env H' ⟨i, rfl, hi, rfl, hno, he⟩
  refine D.forget he ?_
  clear he
  by_cases hin : i < ts.length
  rotate_left
  · obtain rfl : i = ts.length := by omega
    repeat (first | with_reducible refine D.sq ?_ | with_reducible refine D.bl ?_ | with_reducible refine D.skip ?_ | with_reducible refine D.rg (T := none_) (by kernel_rfl) (by simp (maxSteps := 1000000) (disch := omega) only [rulesA, rulesB, numbered, ayield, mapO, constAV, scAV, optval, abin, aint, acmp, aconv, aun, aeq, aminmax, afieldAddr, abuild, anew, fieldPlaces, afill, setSeg, kn_P, Nat.reduceAdd, Nat.reduceMul, Nat.reducePow, Nat.reduceSub, Nat.reduceEqDiff, Nat.reduceLT, Nat.reduceLeDiff, Int.reduceEq, Int.reduceNe, Int.reduceLT, Int.reduceLE, Int.reduceAdd, Int.reduceSub, Int.reduceToNat, Int.reduceBNe, Int.reduceBEq, tyR, rulesC, e1, el]; with_reducible rfl) ?_ | with_reducible refine D.ct2 (by simp (maxSteps := 1000000) (disch := omega) only [rulesV, numbered, constAV, scAV, Nat.reduceEqDiff, Nat.reduceLT, Nat.reduceLeDiff, rulesC, e1, el]; with_reducible rfl) (by with_reducible rfl) ?_ | with_reducible refine D.cf2 (by simp (maxSteps := 1000000) (disch := omega) only [rulesV, numbered, constAV, scAV, Nat.reduceEqDiff, Nat.reduceLT, Nat.reduceLeDiff, rulesC, e1, el]; with_reducible rfl) (by with_reducible rfl) ?_ | with_reducible refine D.exit ?_ | with_reducible refine D.ret ?_ | simp only [rulesK, Nat.reduceEqDiff])
    refine ⟨_, by simp only [resOf, aresult, rulesA, rulesB, numbered, ayield, mapO, constAV, scAV, optval, abin, aint, acmp, aconv, aun, aeq, aminmax, afieldAddr, abuild, anew, fieldPlaces, afill, setSeg, kn_P, Nat.reduceAdd, Nat.reduceMul, Nat.reducePow, Nat.reduceSub, Nat.reduceEqDiff, Nat.reduceLT, Nat.reduceLeDiff, Int.reduceEq, Int.reduceNe, Int.reduceLT, Int.reduceLE, Int.reduceAdd, Int.reduceSub, Int.reduceToNat, Int.reduceBNe, Int.reduceBEq, tyR]; with_reducible rfl, ?_⟩
    refine ⟨rfl, .inl ⟨fun t ht e => ?_, rfl⟩⟩
    obtain ⟨j, hj, rfl⟩ := List.getElem_of_mem ht
    exact hno j hj hj e
  obtain ⟨bm, rfl, hr, hb⟩ := h.blk (by rintro rfl; simp at hin)
  have F := celS (G := G) (base := base) (w0 := w0) hr (List.getElem?_eq_getElem hin)
  by_cases hid : ts[i].id = id
  · have f0 := F.f0
    rw [hid] at f0
    repeat (first | with_reducible refine D.sq ?_ | with_reducible refine D.bl ?_ | with_reducible refine D.skip ?_ | with_reducible refine D.rg (T := none_) (by kernel_rfl) (by simp (maxSteps := 1000000) (disch := omega) only [rulesA, rulesB, numbered, ayield, mapO, constAV, scAV, optval, abin, aint, acmp, aconv, aun, aeq, aminmax, afieldAddr, abuild, anew, fieldPlaces, afill, setSeg, kn_P, Nat.reduceAdd, Nat.reduceMul, Nat.reducePow, Nat.reduceSub, Nat.reduceEqDiff, Nat.reduceLT, Nat.reduceLeDiff, Int.reduceEq, Int.reduceNe, Int.reduceLT, Int.reduceLE, Int.reduceAdd, Int.reduceSub, Int.reduceToNat, Int.reduceBNe, Int.reduceBEq, tyR, rulesC, e1, el, ix35 (G := G) (base := base) (w0 := w0) (bm := bm) hin, f0]; with_reducible rfl) ?_ | with_reducible refine D.ct2 (by simp (maxSteps := 1000000) (disch := omega) only [rulesV, numbered, constAV, scAV, Nat.reduceEqDiff, Nat.reduceLT, Nat.reduceLeDiff, rulesC, e1, el, ix35 (G := G) (base := base) (w0 := w0) (bm := bm) hin, f0]; with_reducible rfl) (by with_reducible rfl) ?_ | with_reducible refine D.cf2 (by simp (maxSteps := 1000000) (disch := omega) only [rulesV, numbered, constAV, scAV, Nat.reduceEqDiff, Nat.reduceLT, Nat.reduceLeDiff, rulesC, e1, el, ix35 (G := G) (base := base) (w0 := w0) (bm := bm) hin, f0]; with_reducible rfl) (by with_reducible rfl) ?_ | with_reducible refine D.exit ?_ | with_reducible refine D.ret ?_ | simp only [rulesK, Nat.reduceEqDiff])
    refine ⟨_, by simp only [resOf, aresult, rulesA, rulesB, numbered, ayield, mapO, constAV, scAV, optval, abin, aint, acmp, aconv, aun, aeq, aminmax, afieldAddr, abuild, anew, fieldPlaces, afill, setSeg, kn_P, Nat.reduceAdd, Nat.reduceMul, Nat.reducePow, Nat.reduceSub, Nat.reduceEqDiff, Nat.reduceLT, Nat.reduceLeDiff, Int.reduceEq, Int.reduceNe, Int.reduceLT, Int.reduceLE, Int.reduceAdd, Int.reduceSub, Int.reduceToNat, Int.reduceBNe, Int.reduceBEq, tyR]; with_reducible rfl, ?_⟩
    exact ⟨rfl, .inr ⟨i, hin, hid, rfl⟩⟩
  · repeat (first | with_reducible refine D.sq ?_ | with_reducible refine D.bl ?_ | with_reducible refine D.skip ?_ | with_reducible refine D.rg (T := none_) (by kernel_rfl) (by simp (maxSteps := 1000000) (disch := omega) only [rulesA, rulesB, numbered, ayield, mapO, constAV, scAV, optval, abin, aint, acmp, aconv, aun, aeq, aminmax, afieldAddr, abuild, anew, fieldPlaces, afill, setSeg, kn_P, Nat.reduceAdd, Nat.reduceMul, Nat.reducePow, Nat.reduceSub, Nat.reduceEqDiff, Nat.reduceLT, Nat.reduceLeDiff, Int.reduceEq, Int.reduceNe, Int.reduceLT, Int.reduceLE, Int.reduceAdd, Int.reduceSub, Int.reduceToNat, Int.reduceBNe, Int.reduceBEq, tyR, rulesC, e1, el, ix35 (G := G) (base := base) (w0 := w0) (bm := bm) hin, F.f0]; with_reducible rfl) ?_ | with_reducible refine D.ct2 (by simp (maxSteps := 1000000) (disch := omega) only [rulesV, numbered, constAV, scAV, Nat.reduceEqDiff, Nat.reduceLT, Nat.reduceLeDiff, rulesC, e1, el, ix35 (G := G) (base := base) (w0 := w0) (bm := bm) hin, F.f0]; with_reducible rfl) (by with_reducible rfl) ?_ | with_reducible refine D.cf2 (by simp (maxSteps := 1000000) (disch := omega) only [rulesV, numbered, constAV, scAV, Nat.reduceEqDiff, Nat.reduceLT, Nat.reduceLeDiff, rulesC, e1, el, ix35 (G := G) (base := base) (w0 := w0) (bm := bm) hin, F.f0]; with_reducible rfl) (by with_reducible rfl) ?_ | with_reducible refine D.exit ?_ | with_reducible refine D.ret ?_ | simp only [rulesK, Nat.reduceEqDiff])
    refine ⟨ts.length - (i + 1), by omega, i + 1, (by first | exact rfl | exact True.intro), by omega, (by first | exact rfl | exact True.intro), fun j hj hji => ?_, by exact E_le (by decide) (E_size _ _) (by simp only [List.forall_mem_cons, List.not_mem_nil, false_implies, implies_true, and_true, E_get, Nat.reduceEqDiff, Nat.reduceLT, Nat.reduceLeDiff, if_true, if_false, and_self, true_and] <;> first | rfl | exact ⟨rfl, rfl⟩)⟩
    by_cases e : j = i
    · subst e; exact hid
    · exact hno j hj (by omega)
/-- what both tell of the last core that one had -/
def LastS (g : Int → Option Int) (id : Int) (H : AHeap) : AV → AHeap → Prop := fun r H' => H' = H ∧ r = .tuple [.int .i64 ((g id).getD 0), .bool (g id).isSome]
theorem lastR_ok {f g : Int → Option Int} (h : Mx H pm N v ts) (ht : TR ts f g) (id : Int) (hl : ts.length ≤ 1000000) : ∃ r H', Pt (kn G base w0) 15 [.ptr (.own pm) 0, .int .i64 id] H r H' ∧ LastS g id H r H' := by
  refine Pt.fn (n := 20) (rs := [.tmp 4, .tmp 5]) Try.func15 (b := _) rfl rfl rfl (by decide) ?_
  have e1 := m1 (G := G) (base := base) (w0 := w0) h
  obtain ⟨ra, Ha, hc21, rfl, hat⟩ := call_only (κ := kn G base w0) (f := 21) (args := [.ptr (.own pm) 0, .int .i64 id]) (H := H) (fun _ H r H' => AtS ts id H r H') (at_ok (G := G) (base := base) (w0 := w0) h id hl)
  rcases hat with ⟨hno, rfl⟩ | ⟨i, hi, hid, rfl⟩
  · repeat (first | with_reducible refine D.sq ?_ | with_reducible refine D.bl ?_ | with_reducible refine D.skip ?_ | with_reducible refine D.rg (T := none_) (by kernel_rfl) (by simp (maxSteps := 1000000) (disch := omega) only [rulesA, rulesB, numbered, ayield, mapO, constAV, scAV, optval, abin, aint, acmp, aconv, aun, aeq, aminmax, afieldAddr, abuild, anew, fieldPlaces, afill, setSeg, kn_P, Nat.reduceAdd, Nat.reduceMul, Nat.reducePow, Nat.reduceSub, Nat.reduceEqDiff, Nat.reduceLT, Nat.reduceLeDiff, Int.reduceEq, Int.reduceNe, Int.reduceLT, Int.reduceLE, Int.reduceAdd, Int.reduceSub, Int.reduceToNat, Int.reduceBNe, Int.reduceBEq, tyR, rulesC]; with_reducible rfl) ?_ | with_reducible refine D.ct2 (by simp (maxSteps := 1000000) (disch := omega) only [rulesV, numbered, constAV, scAV, Nat.reduceEqDiff, Nat.reduceLT, Nat.reduceLeDiff, rulesC]; with_reducible rfl) (by with_reducible rfl) ?_ | with_reducible refine D.cf2 (by simp (maxSteps := 1000000) (disch := omega) only [rulesV, numbered, constAV, scAV, Nat.reduceEqDiff, Nat.reduceLT, Nat.reduceLeDiff, rulesC]; with_reducible rfl) (by with_reducible rfl) ?_ | with_reducible refine D.exit ?_ | with_reducible refine D.ret ?_ | simp only [rulesK, Nat.reduceEqDiff])
    refine D.rgC hc21 (by kernel_rfl) (by simp (maxSteps := 1000000) (disch := omega) only [rulesA, rulesB, numbered, ayield, mapO, constAV, scAV, optval, abin, aint, acmp, aconv, aun, aeq, aminmax, afieldAddr, abuild, anew, fieldPlaces, afill, setSeg, kn_P, Nat.reduceAdd, Nat.reduceMul, Nat.reducePow, Nat.reduceSub, Nat.reduceEqDiff, Nat.reduceLT, Nat.reduceLeDiff, Int.reduceEq, Int.reduceNe, Int.reduceLT, Int.reduceLE, Int.reduceAdd, Int.reduceSub, Int.reduceToNat, Int.reduceBNe, Int.reduceBEq, tyR, rulesC, hc21, hR21]; with_reducible rfl) ?_
    repeat (first | with_reducible refine D.sq ?_ | with_reducible refine D.bl ?_ | with_reducible refine D.skip ?_ | with_reducible refine D.rg (T := none_) (by kernel_rfl) (by simp (maxSteps := 1000000) (disch := omega) only [rulesA, rulesB, numbered, ayield, mapO, constAV, scAV, optval, abin, aint, acmp, aconv, aun, aeq, aminmax, afieldAddr, abuild, anew, fieldPlaces, afill, setSeg, kn_P, Nat.reduceAdd, Nat.reduceMul, Nat.reducePow, Nat.reduceSub, Nat.reduceEqDiff, Nat.reduceLT, Nat.reduceLeDiff, Int.reduceEq, Int.reduceNe, Int.reduceLT, Int.reduceLE, Int.reduceAdd, Int.reduceSub, Int.reduceToNat, Int.reduceBNe, Int.reduceBEq, tyR, rulesC]; with_reducible rfl) ?_ | with_reducible refine D.ct2 (by simp (maxSteps := 1000000) (disch := omega) only [rulesV, numbered, constAV, scAV, Nat.reduceEqDiff, Nat.reduceLT, Nat.reduceLeDiff, rulesC]; with_reducible rfl) (by with_reducible rfl) ?_ | with_reducible refine D.cf2 (by simp (maxSteps := 1000000) (disch := omega) only [rulesV, numbered, constAV, scAV, Nat.reduceEqDiff, Nat.reduceLT, Nat.reduceLeDiff, rulesC]; with_reducible rfl) (by with_reducible rfl) ?_ | with_reducible refine D.exit ?_ | with_reducible refine D.ret ?_ | simp only [rulesK, Nat.reduceEqDiff])
    refine ⟨_, by simp only [resOf, aresult, rulesA, rulesB, numbered, ayield, mapO, constAV, scAV, optval, abin, aint, acmp, aconv, aun, aeq, aminmax, afieldAddr, abuild, anew, fieldPlaces, afill, setSeg, kn_P, Nat.reduceAdd, Nat.reduceMul, Nat.reducePow, Nat.reduceSub, Nat.reduceEqDiff, Nat.reduceLT, Nat.reduceLeDiff, Int.reduceEq, Int.reduceNe, Int.reduceLT, Int.reduceLE, Int.reduceAdd, Int.reduceSub, Int.reduceToNat, Int.reduceBNe, Int.reduceBEq, tyR]; with_reducible rfl, ?_⟩
    exact ⟨rfl, by rw [(ht.no id hno).2]; rfl⟩
  · obtain ⟨bm, rfl, hr, hb⟩ := h.blk (by rintro rfl; simp at hi)
    have F := celS (G := G) (base := base) (w0 := w0) hr (List.getElem?_eq_getElem hi)
    repeat (first | with_reducible refine D.sq ?_ | with_reducible refine D.bl ?_ | with_reducible refine D.skip ?_ | with_reducible refine D.rg (T := none_) (by kernel_rfl) (by simp (maxSteps := 1000000) (disch := omega) only [rulesA, rulesB, numbered, ayield, mapO, constAV, scAV, optval, abin, aint, acmp, aconv, aun, aeq, aminmax, afieldAddr, abuild, anew, fieldPlaces, afill, setSeg, kn_P, Nat.reduceAdd, Nat.reduceMul, Nat.reducePow, Nat.reduceSub, Nat.reduceEqDiff, Nat.reduceLT, Nat.reduceLeDiff, Int.reduceEq, Int.reduceNe, Int.reduceLT, Int.reduceLE, Int.reduceAdd, Int.reduceSub, Int.reduceToNat, Int.reduceBNe, Int.reduceBEq, tyR, rulesC]; with_reducible rfl) ?_ | with_reducible refine D.ct2 (by simp (maxSteps := 1000000) (disch := omega) only [rulesV, numbered, constAV, scAV, Nat.reduceEqDiff, Nat.reduceLT, Nat.reduceLeDiff, rulesC]; with_reducible rfl) (by with_reducible rfl) ?_ | with_reducible refine D.cf2 (by simp (maxSteps := 1000000) (disch := omega) only [rulesV, numbered, constAV, scAV, Nat.reduceEqDiff, Nat.reduceLT, Nat.reduceLeDiff, rulesC]; with_reducible rfl) (by with_reducible rfl) ?_ | with_reducible refine D.exit ?_ | with_reducible refine D.ret ?_ | simp only [rulesK, Nat.reduceEqDiff])
    refine D.rgC hc21 (by kernel_rfl) (by simp (maxSteps := 1000000) (disch := omega) only [rulesA, rulesB, numbered, ayield, mapO, constAV, scAV, optval, abin, aint, acmp, aconv, aun, aeq, aminmax, afieldAddr, abuild, anew, fieldPlaces, afill, setSeg, kn_P, Nat.reduceAdd, Nat.reduceMul, Nat.reducePow, Nat.reduceSub, Nat.reduceEqDiff, Nat.reduceLT, Nat.reduceLeDiff, Int.reduceEq, Int.reduceNe, Int.reduceLT, Int.reduceLE, Int.reduceAdd, Int.reduceSub, Int.reduceToNat, Int.reduceBNe, Int.reduceBEq, tyR, rulesC, hc21, hR21]; with_reducible rfl) ?_
    repeat (first | with_reducible refine D.sq ?_ | with_reducible refine D.bl ?_ | with_reducible refine D.skip ?_ | with_reducible refine D.rg (T := none_) (by kernel_rfl) (by simp (maxSteps := 1000000) (disch := omega) only [rulesA, rulesB, numbered, ayield, mapO, constAV, scAV, optval, abin, aint, acmp, aconv, aun, aeq, aminmax, afieldAddr, abuild, anew, fieldPlaces, afill, setSeg, kn_P, Nat.reduceAdd, Nat.reduceMul, Nat.reducePow, Nat.reduceSub, Nat.reduceEqDiff, Nat.reduceLT, Nat.reduceLeDiff, Int.reduceEq, Int.reduceNe, Int.reduceLT, Int.reduceLE, Int.reduceAdd, Int.reduceSub, Int.reduceToNat, Int.reduceBNe, Int.reduceBEq, tyR, rulesC, e1, ix35 (G := G) (base := base) (w0 := w0) (bm := bm) hi, F.f1]; with_reducible rfl) ?_ | with_reducible refine D.ct2 (by simp (maxSteps := 1000000) (disch := omega) only [rulesV, numbered, constAV, scAV, Nat.reduceEqDiff, Nat.reduceLT, Nat.reduceLeDiff, rulesC, e1, ix35 (G := G) (base := base) (w0 := w0) (bm := bm) hi, F.f1]; with_reducible rfl) (by with_reducible rfl) ?_ | with_reducible refine D.cf2 (by simp (maxSteps := 1000000) (disch := omega) only [rulesV, numbered, constAV, scAV, Nat.reduceEqDiff, Nat.reduceLT, Nat.reduceLeDiff, rulesC, e1, ix35 (G := G) (base := base) (w0 := w0) (bm := bm) hi, F.f1]; with_reducible rfl) (by with_reducible rfl) ?_ | with_reducible refine D.exit ?_ | with_reducible refine D.ret ?_ | simp only [rulesK, Nat.reduceEqDiff])
    refine ⟨_, by simp only [resOf, aresult, rulesA, rulesB, numbered, ayield, mapO, constAV, scAV, optval, abin, aint, acmp, aconv, aun, aeq, aminmax, afieldAddr, abuild, anew, fieldPlaces, afill, setSeg, kn_P, Nat.reduceAdd, Nat.reduceMul, Nat.reducePow, Nat.reduceSub, Nat.reduceEqDiff, Nat.reduceLT, Nat.reduceLeDiff, Int.reduceEq, Int.reduceNe, Int.reduceLT, Int.reduceLE, Int.reduceAdd, Int.reduceSub, Int.reduceToNat, Int.reduceBNe, Int.reduceBEq, tyR]; with_reducible rfl, ?_⟩
    refine ⟨rfl, ?_⟩
    have := (ht.at_ _ (List.getElem_mem hi)).1
    rw [hid] at this
    rw [this]; rfl
theorem last_ok {p m1 m2 n : Nat} {f g : Int → Option Int} (hs : Seats H p m1 m2 n f g) (id : Int) : ∃ r H', Pt (kn G base w0) 14 [.ptr (.own p) 0, .int .i64 id] H r H' ∧ LastS g id H r H' := by
  refine Pt.fn (n := 21) (rs := [.tmp 4, .tmp 5]) Try.func14 (b := _) rfl rfl rfl (by decide) ?_
  have e1 : aload (kn G base w0).c H 47 (.ptr (.own p) 2) = some (.map (.own m2)) := ld_own hs.row rfl ag47
  repeat (first | with_reducible refine D.sq ?_ | with_reducible refine D.bl ?_ | with_reducible refine D.skip ?_ | with_reducible refine D.rg (T := none_) (by kernel_rfl) (by simp (maxSteps := 1000000) (disch := omega) only [rulesA, rulesB, numbered, ayield, mapO, constAV, scAV, optval, abin, aint, acmp, aconv, aun, aeq, aminmax, afieldAddr, abuild, anew, fieldPlaces, afill, setSeg, kn_P, Nat.reduceAdd, Nat.reduceMul, Nat.reducePow, Nat.reduceSub, Nat.reduceEqDiff, Nat.reduceLT, Nat.reduceLeDiff, Int.reduceEq, Int.reduceNe, Int.reduceLT, Int.reduceLE, Int.reduceAdd, Int.reduceSub, Int.reduceToNat, Int.reduceBNe, Int.reduceBEq, tyR, rulesC, e1, lookK (G := G) (base := base) (w0 := w0) hs.last]; with_reducible rfl) ?_ | with_reducible refine D.ct2 (by simp (maxSteps := 1000000) (disch := omega) only [rulesV, numbered, constAV, scAV, Nat.reduceEqDiff, Nat.reduceLT, Nat.reduceLeDiff, rulesC, e1, lookK (G := G) (base := base) (w0 := w0) hs.last]; with_reducible rfl) (by with_reducible rfl) ?_ | with_reducible refine D.cf2 (by simp (maxSteps := 1000000) (disch := omega) only [rulesV, numbered, constAV, scAV, Nat.reduceEqDiff, Nat.reduceLT, Nat.reduceLeDiff, rulesC, e1, lookK (G := G) (base := base) (w0 := w0) hs.last]; with_reducible rfl) (by with_reducible rfl) ?_ | with_reducible refine D.exit ?_ | with_reducible refine D.ret ?_ | simp only [rulesK, Nat.reduceEqDiff])
  refine ⟨_, by simp only [resOf, aresult, rulesA, rulesB, numbered, ayield, mapO, constAV, scAV, optval, abin, aint, acmp, aconv, aun, aeq, aminmax, afieldAddr, abuild, anew, fieldPlaces, afill, setSeg, kn_P, Nat.reduceAdd, Nat.reduceMul, Nat.reducePow, Nat.reduceSub, Nat.reduceEqDiff, Nat.reduceLT, Nat.reduceLeDiff, Int.reduceEq, Int.reduceNe, Int.reduceLT, Int.reduceLE, Int.reduceAdd, Int.reduceSub, Int.reduceToNat, Int.reduceBNe, Int.reduceBEq, tyR]; with_reducible rfl, ?_⟩
  exact ⟨rfl, rfl⟩
def ForgS (p m1 m2 n : Nat) (f g : Int → Option Int) (id : Int) (H : AHeap) : AV → AHeap → Prop := fun r H' => r = .tuple [] ∧ Seats H' p m1 m2 n (upd1 f id none) (upd1 g id none) ∧ Keep H H' (fun j => j = m1 ∨ j = m2)
theorem forget_ok {p m1 m2 n : Nat} {f g : Int → Option Int} (hs : Seats H p m1 m2 n f g) (id : Int) : ∃ r H', Pt (kn G base w0) 11 [.ptr (.own p) 0, .int .i64 id] H r H' ∧ ForgS p m1 m2 n f g id H r H' := by
  refine Pt.fn (n := 16) (rs := []) Try.func11 (b := _) rfl rfl rfl (by decide) ?_
  have e1 : aload (kn G base w0).c H 47 (.ptr (.own p) 1) = some (.map (.own m1)) := ld_own hs.row rfl ag47
  obtain ⟨Ha, d1, i1, l1, k1⟩ := hs.now.del (c := (kn G base w0).c) (t := 47) Try.underlying47 Try.underlying3 id
  have e2 : aload (kn G base w0).c Ha 47 (.ptr (.own p) 2) = some (.map (.own m2)) := ld_own ((k1 p hs.ne1).trans hs.row) rfl ag47
  obtain ⟨Hb, d2, i2, l2, k2⟩ := (hs.last.keep (k1 m2 hs.ne.symm)).del (c := (kn G base w0).c) (t := 47) Try.underlying47 Try.underlying3 id
  repeat (first | with_reducible refine D.sq ?_ | with_reducible refine D.bl ?_ | with_reducible refine D.skip ?_ | with_reducible refine D.rg (T := none_) (by kernel_rfl) (by simp (maxSteps := 1000000) (disch := omega) only [rulesA, rulesB, numbered, ayield, mapO, constAV, scAV, optval, abin, aint, acmp, aconv, aun, aeq, aminmax, afieldAddr, abuild, anew, fieldPlaces, afill, setSeg, kn_P, Nat.reduceAdd, Nat.reduceMul, Nat.reducePow, Nat.reduceSub, Nat.reduceEqDiff, Nat.reduceLT, Nat.reduceLeDiff, Int.reduceEq, Int.reduceNe, Int.reduceLT, Int.reduceLE, Int.reduceAdd, Int.reduceSub, Int.reduceToNat, Int.reduceBNe, Int.reduceBEq, tyR, rulesC, e1, d1, e2, d2]; with_reducible rfl) ?_ | with_reducible refine D.ct2 (by simp (maxSteps := 1000000) (disch := omega) only [rulesV, numbered, constAV, scAV, Nat.reduceEqDiff, Nat.reduceLT, Nat.reduceLeDiff, rulesC, e1, d1, e2, d2]; with_reducible rfl) (by with_reducible rfl) ?_ | with_reducible refine D.cf2 (by simp (maxSteps := 1000000) (disch := omega) only [rulesV, numbered, constAV, scAV, Nat.reduceEqDiff, Nat.reduceLT, Nat.reduceLeDiff, rulesC, e1, d1, e2, d2]; with_reducible rfl) (by with_reducible rfl) ?_ | with_reducible refine D.exit ?_ | with_reducible refine D.ret ?_ | simp only [rulesK, Nat.reduceEqDiff])
  refine ⟨_, by simp only [resOf, aresult, rulesA, rulesB, numbered, ayield, mapO, constAV, scAV, optval, abin, aint, acmp, aconv, aun, aeq, aminmax, afieldAddr, abuild, anew, fieldPlaces, afill, setSeg, kn_P, Nat.reduceAdd, Nat.reduceMul, Nat.reducePow, Nat.reduceSub, Nat.reduceEqDiff, Nat.reduceLT, Nat.reduceLeDiff, Int.reduceEq, Int.reduceNe, Int.reduceLT, Int.reduceLE, Int.reduceAdd, Int.reduceSub, Int.reduceToNat, Int.reduceBNe, Int.reduceBEq, tyR]; with_reducible rfl, ?_⟩
  refine ⟨rfl, ⟨?_, i1.keep (k2 m1 hs.ne), i2, hs.ne⟩, by omega, fun j hj hn => ?_⟩
  · rw [k2 p hs.ne2, k1 p hs.ne1]; exact hs.row
  · rw [k2 j fun e => hn (.inr e), k1 j fun e => hn (.inl e)]
end Go.Proofs.Ytffpahpbgeillaa.sy

/- Seats as the document has them (own work): Forget walked. -/
namespace Go.Proofs.Ytffpahpbgeillaa.sy
open Go.AM Go.AM.Seat
set_option linter.unusedSimpArgs false
set_option linter.unusedVariables false
variable {G : List Nat → Option (List AV)} {base : Nat} {w0 : World}
set_option maxRecDepth 100000
set_option maxHeartbeats 8000000
variable {H : AHeap} {pm : Nat} {N : Int} {v : AV} {ts : List Sa}
theorem ap_nil0 {K : AHeap} {b : Nat} : aappend (kn G base w0).c K 35 .nilslice (.slice (.own b) 3 0 0) = some (.nilslice, K) := by
  have := app_nil (c := (kn G base w0).c) (H := K) (w := wS) (t := 35) Try.underlying35 in60 zc60 rfl (by decide) (x := .slice (.own b) 3 0 0) (ys := []) SlF.empty (by simp)
  simpa using this
theorem ap_nil {K : AHeap} {b a m : Nat} {xs : List Sa} (h : RowF K b 60 wS xs) (ham : a + m ≤ xs.length) (hm : 0 < m) (hl : m ≤ 1000000) : aappend (kn G base w0).c K 35 .nilslice (.slice (.own b) 3 a m) = some (.slice (.own K.length) 3 0 m, hnew K (.row 60 3 (wS.fl ((xs.drop a).take m)))) := by
  have hlen : ((xs.drop a).take m).length = m := by simp; omega
  have := app_nil (c := (kn G base w0).c) (w := wS) (t := 35) Try.underlying35 in60 zc60 rfl (by decide) (h.part ham) (by rw [hlen]; omega)
  rw [if_neg (fun e => by rw [e] at hlen; simp at hlen; omega), hlen] at this
  exact this
theorem ap_own {K : AHeap} {b a m b1 : Nat} {xs ys : List Sa} (h : RowF K b 60 wS xs) (ham : a + m ≤ xs.length) (hm : 0 < m) (hl : ys.length + m ≤ 1000000) (h1 : RowF K b1 60 wS ys) : aappend (kn G base w0).c K 35 (.slice (.own b1) 3 0 ys.length) (.slice (.own b) 3 a m) = some (.slice (.own K.length) 3 0 (ys.length + m), hnew (K.set b1 none) (.row 60 3 (wS.fl (ys ++ (xs.drop a).take m)))) := by
  have hlen : ((xs.drop a).take m).length = m := by simp; omega
  have := app_own (c := (kn G base w0).c) (w := wS) (t := 35) Try.underlying35 in60 zc60 rfl (by decide) h1 (h.part ham) (by rw [hlen]; omega)
  rw [if_neg (fun e => by rw [e] at hlen; simp at hlen; omega), hlen] at this
  exact this
theorem ap_own0 {K : AHeap} {b b1 n : Nat} : aappend (kn G base w0).c K 35 (.slice (.own b1) 3 0 n) (.slice (.own b) 3 0 0) = some (.slice (.own b1) 3 0 n, K) := by
  rw [aappend_eq]
  simp [aappend2, kn_P, Try.underlying35, in60, zc60, source]
theorem wr_pm {K : AHeap} {u u' : AV} (h : hat K pm = some (.row 37 2 [.int .i64 N, u])) (h1 : u'.one = true) : wr K (.own pm) 1 [u'] = some (K.set pm (some (.row 37 2 [.int .i64 N, u']))) := by
  rw [wr_own h (by simp) h1]; rfl
def RForgS (pm : Nat) (N : Int) (v : AV) (f g : Int → Option Int) (m : Nat) (id : Int) (H : AHeap) : AV → AHeap → Prop := fun r H' => r = .tuple [] ∧ ∃ v' ts', Mx H' pm N v' ts' ∧ Mk H H' pm v v' ∧ TR ts' (upd1 f id none) (upd1 g id none) ∧ ts'.length ≤ m
theorem rforget_ok {f g : Int → Option Int} (h : Mx H pm N v ts) (ht : TR ts f g) (id : Int) (hl : ts.length ≤ 10000) : ∃ r H', Pt (kn G base w0) 12 [.ptr (.own pm) 0, .int .i64 id] H r H' ∧ RForgS pm N v f g ts.length id H r H' := by
  refine Pt.fn (n := 28) (rs := []) Try.func12 (b := _) rfl rfl rfl (by decide) ?_
  have e1 := m1 (G := G) (base := base) (w0 := w0) h
  obtain ⟨ra, Ha, hc21, hHa, hat⟩ := call_only (κ := kn G base w0) (f := 21) (args := [.ptr (.own pm) 0, .int .i64 id]) (H := H) (fun _ H r H' => AtS ts id H r H') (at_ok (G := G) (base := base) (w0 := w0) h id (by omega))
  obtain rfl := hHa.symm
  rcases hat with ⟨hno, rfl⟩ | ⟨i, hi, hid, rfl⟩
  · repeat (first | with_reducible refine D.sq ?_ | with_reducible refine D.bl ?_ | with_reducible refine D.skip ?_ | with_reducible refine D.rg (T := none_) (by kernel_rfl) (by simp (maxSteps := 1000000) (disch := omega) only [rulesA, rulesB, numbered, ayield, mapO, constAV, scAV, optval, abin, aint, acmp, aconv, aun, aeq, aminmax, afieldAddr, abuild, anew, fieldPlaces, afill, setSeg, kn_P, Nat.reduceAdd, Nat.reduceMul, Nat.reducePow, Nat.reduceSub, Nat.reduceEqDiff, Nat.reduceLT, Nat.reduceLeDiff, Int.reduceEq, Int.reduceNe, Int.reduceLT, Int.reduceLE, Int.reduceAdd, Int.reduceSub, Int.reduceToNat, Int.reduceBNe, Int.reduceBEq, tyR, rulesC]; with_reducible rfl) ?_ | with_reducible refine D.ct2 (by simp (maxSteps := 1000000) (disch := omega) only [rulesV, numbered, constAV, scAV, Nat.reduceEqDiff, Nat.reduceLT, Nat.reduceLeDiff, rulesC]; with_reducible rfl) (by with_reducible rfl) ?_ | with_reducible refine D.cf2 (by simp (maxSteps := 1000000) (disch := omega) only [rulesV, numbered, constAV, scAV, Nat.reduceEqDiff, Nat.reduceLT, Nat.reduceLeDiff, rulesC]; with_reducible rfl) (by with_reducible rfl) ?_ | with_reducible refine D.exit ?_ | with_reducible refine D.ret ?_ | simp only [rulesK, Nat.reduceEqDiff])
    refine D.rgC hc21 (by kernel_rfl) (by simp (maxSteps := 1000000) (disch := omega) only [rulesA, rulesB, numbered, ayield, mapO, constAV, scAV, optval, abin, aint, acmp, aconv, aun, aeq, aminmax, afieldAddr, abuild, anew, fieldPlaces, afill, setSeg, kn_P, Nat.reduceAdd, Nat.reduceMul, Nat.reducePow, Nat.reduceSub, Nat.reduceEqDiff, Nat.reduceLT, Nat.reduceLeDiff, Int.reduceEq, Int.reduceNe, Int.reduceLT, Int.reduceLE, Int.reduceAdd, Int.reduceSub, Int.reduceToNat, Int.reduceBNe, Int.reduceBEq, tyR, rulesC, hc21, hR21]; with_reducible rfl) ?_
    repeat (first | with_reducible refine D.sq ?_ | with_reducible refine D.bl ?_ | with_reducible refine D.skip ?_ | with_reducible refine D.rg (T := none_) (by kernel_rfl) (by simp (maxSteps := 1000000) (disch := omega) only [rulesA, rulesB, numbered, ayield, mapO, constAV, scAV, optval, abin, aint, acmp, aconv, aun, aeq, aminmax, afieldAddr, abuild, anew, fieldPlaces, afill, setSeg, kn_P, Nat.reduceAdd, Nat.reduceMul, Nat.reducePow, Nat.reduceSub, Nat.reduceEqDiff, Nat.reduceLT, Nat.reduceLeDiff, Int.reduceEq, Int.reduceNe, Int.reduceLT, Int.reduceLE, Int.reduceAdd, Int.reduceSub, Int.reduceToNat, Int.reduceBNe, Int.reduceBEq, tyR, rulesC]; with_reducible rfl) ?_ | with_reducible refine D.ct2 (by simp (maxSteps := 1000000) (disch := omega) only [rulesV, numbered, constAV, scAV, Nat.reduceEqDiff, Nat.reduceLT, Nat.reduceLeDiff, rulesC]; with_reducible rfl) (by with_reducible rfl) ?_ | with_reducible refine D.cf2 (by simp (maxSteps := 1000000) (disch := omega) only [rulesV, numbered, constAV, scAV, Nat.reduceEqDiff, Nat.reduceLT, Nat.reduceLeDiff, rulesC]; with_reducible rfl) (by with_reducible rfl) ?_ | with_reducible refine D.exit ?_ | with_reducible refine D.ret ?_ | simp only [rulesK, Nat.reduceEqDiff])
    refine ⟨_, by simp only [resOf, aresult, rulesA, rulesB, numbered, ayield, mapO, constAV, scAV, optval, abin, aint, acmp, aconv, aun, aeq, aminmax, afieldAddr, abuild, anew, fieldPlaces, afill, setSeg, kn_P, Nat.reduceAdd, Nat.reduceMul, Nat.reducePow, Nat.reduceSub, Nat.reduceEqDiff, Nat.reduceLT, Nat.reduceLeDiff, Int.reduceEq, Int.reduceNe, Int.reduceLT, Int.reduceLE, Int.reduceAdd, Int.reduceSub, Int.reduceToNat, Int.reduceBNe, Int.reduceBEq, tyR]; with_reducible rfl, ?_⟩
    exact ⟨rfl, v, ts, h, Mk.refl, ht.skip hno, Nat.le_refl _⟩
  repeat (first | with_reducible refine D.sq ?_ | with_reducible refine D.bl ?_ | with_reducible refine D.skip ?_ | with_reducible refine D.rg (T := none_) (by kernel_rfl) (by simp (maxSteps := 1000000) (disch := omega) only [rulesA, rulesB, numbered, ayield, mapO, constAV, scAV, optval, abin, aint, acmp, aconv, aun, aeq, aminmax, afieldAddr, abuild, anew, fieldPlaces, afill, setSeg, kn_P, Nat.reduceAdd, Nat.reduceMul, Nat.reducePow, Nat.reduceSub, Nat.reduceEqDiff, Nat.reduceLT, Nat.reduceLeDiff, Int.reduceEq, Int.reduceNe, Int.reduceLT, Int.reduceLE, Int.reduceAdd, Int.reduceSub, Int.reduceToNat, Int.reduceBNe, Int.reduceBEq, tyR, rulesC]; with_reducible rfl) ?_ | with_reducible refine D.ct2 (by simp (maxSteps := 1000000) (disch := omega) only [rulesV, numbered, constAV, scAV, Nat.reduceEqDiff, Nat.reduceLT, Nat.reduceLeDiff, rulesC]; with_reducible rfl) (by with_reducible rfl) ?_ | with_reducible refine D.cf2 (by simp (maxSteps := 1000000) (disch := omega) only [rulesV, numbered, constAV, scAV, Nat.reduceEqDiff, Nat.reduceLT, Nat.reduceLeDiff, rulesC]; with_reducible rfl) (by with_reducible rfl) ?_ | with_reducible refine D.exit ?_ | with_reducible refine D.ret ?_ | simp only [rulesK, Nat.reduceEqDiff])
  refine D.rgC hc21 (by kernel_rfl) (by simp (maxSteps := 1000000) (disch := omega) only [rulesA, rulesB, numbered, ayield, mapO, constAV, scAV, optval, abin, aint, acmp, aconv, aun, aeq, aminmax, afieldAddr, abuild, anew, fieldPlaces, afill, setSeg, kn_P, Nat.reduceAdd, Nat.reduceMul, Nat.reducePow, Nat.reduceSub, Nat.reduceEqDiff, Nat.reduceLT, Nat.reduceLeDiff, Int.reduceEq, Int.reduceNe, Int.reduceLT, Int.reduceLE, Int.reduceAdd, Int.reduceSub, Int.reduceToNat, Int.reduceBNe, Int.reduceBEq, tyR, rulesC, hc21, hR21]; with_reducible rfl) ?_
  repeat (first | with_reducible refine D.sq ?_ | with_reducible refine D.bl ?_ | with_reducible refine D.skip ?_ | with_reducible refine D.rg (T := none_) (by kernel_rfl) (by simp (maxSteps := 1000000) (disch := omega) only [rulesA, rulesB, numbered, ayield, mapO, constAV, scAV, optval, abin, aint, acmp, aconv, aun, aeq, aminmax, afieldAddr, abuild, anew, fieldPlaces, afill, setSeg, kn_P, Nat.reduceAdd, Nat.reduceMul, Nat.reducePow, Nat.reduceSub, Nat.reduceEqDiff, Nat.reduceLT, Nat.reduceLeDiff, Int.reduceEq, Int.reduceNe, Int.reduceLT, Int.reduceLE, Int.reduceAdd, Int.reduceSub, Int.reduceToNat, Int.reduceBNe, Int.reduceBEq, tyR, rulesC]; with_reducible rfl) ?_ | with_reducible refine D.ct2 (by simp (maxSteps := 1000000) (disch := omega) only [rulesV, numbered, constAV, scAV, Nat.reduceEqDiff, Nat.reduceLT, Nat.reduceLeDiff, rulesC]; with_reducible rfl) (by with_reducible rfl) ?_ | with_reducible refine D.cf2 (by simp (maxSteps := 1000000) (disch := omega) only [rulesV, numbered, constAV, scAV, Nat.reduceEqDiff, Nat.reduceLT, Nat.reduceLeDiff, rulesC]; with_reducible rfl) (by with_reducible rfl) ?_ | with_reducible refine D.exit ?_ | with_reducible refine D.ret ?_ | simp only [rulesK, Nat.reduceEqDiff])
  have htr := ht.out hi
  rw [hid] at htr
  have hle : (ts.take i ++ ts.drop (i + 1)).length ≤ ts.length := by simp; omega
  obtain ⟨bm, rfl, hr, hb⟩ := h.blk (by rintro rfl; simp at hi)
  have hpl := hat_lt h.row
  have hbl := hr.lt
  have Lk : ∀ K : AHeap, hat K pm = hat H pm → aload (kn G base w0).c K 35 (.ptr (.own pm) 1) = some (.slice (.own bm) 3 0 ts.length) := fun K e => ld_own (e.trans h.row) rfl ag35
  have S1 : ∀ K : AHeap, aslice (kn G base w0).c K 35 (.slice (.own bm) 3 0 ts.length) none (some (.int .i64 (i : Int))) none = some (.slice (.own bm) 3 0 i, K) := fun K => asl_lo Try.underlying35 sz60 (by omega)
  have hw : IntKind.i64.wrap ((i : Int) + 1) = ((i + 1 : Nat) : Int) := wrapN _ (by omega) (by omega)
  have rowK : ∀ K : AHeap, hat K bm = hat H bm → RowF K bm 60 wS ts := fun K e => hr.keep e
  have lH := Lk H rfl
  clear e1 hc21
  by_cases h0 : i = 0
  · subst h0
    have A1 : ∀ K : AHeap, aappend (kn G base w0).c K 35 .nilslice (.slice (.own bm) 3 0 0) = some (.nilslice, K) := fun K => ap_nil0
    by_cases h1 : 0 + 1 < ts.length
    · have S2 : ∀ K : AHeap, aslice (kn G base w0).c K 35 (.slice (.own bm) 3 0 ts.length) (some (.int .i64 ((0 + 1 : Nat) : Int))) none none = some (.slice (.own bm) 3 (0 + 1) (ts.length - (0 + 1)), K) := fun K => asl_hi Try.underlying35 sz60 h1
      have A2 : ∀ K : AHeap, hat K bm = hat H bm → aappend (kn G base w0).c K 35 .nilslice (.slice (.own bm) 3 (0 + 1) (ts.length - (0 + 1))) = some (.slice (.own K.length) 3 0 (ts.length - (0 + 1)), hnew K (.row 60 3 (wS.fl (ts.drop (0 + 1))))) := fun K e => by
        have := ap_nil (G := G) (base := base) (w0 := w0) (rowK K e) (a := 0 + 1) (m := ts.length - (0 + 1)) (by omega) (by omega) (by omega)
        rw [List.take_of_length_le (by simp)] at this
        exact this
      have a2 := A2 H rfl
      have w1 : wr (hnew H (.row 60 3 (wS.fl (ts.drop (0 + 1))))) (.own pm) 1 [.slice (.own H.length) 3 0 (ts.length - (0 + 1))] = some _ := wr_pm (by rw [hat_nw _ hpl]; exact h.row) rfl
      refine D.local (T := none_) [⟨4, 0, [], none, 0⟩, ⟨6, 0, [], none, 0⟩, ⟨7, 0, [], none, 0⟩, ⟨11, 0, [], none, 0⟩, ⟨14, 0, [], none, 0⟩, ⟨15, 0, [], none, 1⟩] true (by kernel_rfl) (by simp (maxSteps := 1000000) only [rulesA, rulesB, numbered, ayield, mapO, constAV, scAV, optval, abin, aint, acmp, aconv, aun, aeq, aminmax, afieldAddr, abuild, anew, fieldPlaces, afill, setSeg, kn_P, Nat.reduceAdd, Nat.reduceMul, Nat.reducePow, Nat.reduceSub, Nat.reduceEqDiff, Nat.reduceLT, Nat.reduceLeDiff, Int.reduceEq, Int.reduceNe, Int.reduceLT, Int.reduceLE, Int.reduceAdd, Int.reduceSub, Int.reduceToNat, Int.reduceBNe, Int.reduceBEq, tyR, lH, S1, A1, hw, S2, a2, astore, w1]; with_reducible rfl) ?_ ?_
      · intro u hu
        simp only [List.mem_cons, List.not_mem_nil, or_false] at hu
        rcases hu with rfl | rfl | rfl | rfl | rfl | rfl
        · refine Lo.mk' (.slice (.own bm) 3 0 ts.length) [] (by simp (maxSteps := 1000000) only [rulesA, rulesB, numbered, ayield, mapO, constAV, scAV, optval, abin, aint, acmp, aconv, aun, aeq, aminmax, afieldAddr, abuild, anew, fieldPlaces, afill, setSeg, kn_P, Nat.reduceAdd, Nat.reduceMul, Nat.reducePow, Nat.reduceSub, Nat.reduceEqDiff, Nat.reduceLT, Nat.reduceLeDiff, Int.reduceEq, Int.reduceNe, Int.reduceLT, Int.reduceLE, Int.reduceAdd, Int.reduceSub, Int.reduceToNat, Int.reduceBNe, Int.reduceBEq, tyR, lH, S1, A1, hw, S2, a2, astore, w1]; with_reducible rfl) rfl (fun K hK ho hn => ?_)
          have e := Lk K (ho pm hpl)
          simp (maxSteps := 1000000) only [stepV, awanted, opsOf, List.getD_cons_succ, List.getD_cons_zero, rulesA, rulesB, numbered, ayield, mapO, constAV, scAV, optval, abin, aint, acmp, aconv, aun, aeq, aminmax, afieldAddr, abuild, anew, fieldPlaces, afill, setSeg, kn_P, Nat.reduceAdd, Nat.reduceMul, Nat.reducePow, Nat.reduceSub, Nat.reduceEqDiff, Nat.reduceLT, Nat.reduceLeDiff, Int.reduceEq, Int.reduceNe, Int.reduceLT, Int.reduceLE, Int.reduceAdd, Int.reduceSub, Int.reduceToNat, Int.reduceBNe, Int.reduceBEq, tyR, killK, List.append_nil, hnew, fresh, hK, Nat.add_zero, e]
        · refine Lo.mk' (.slice (.own bm) 3 0 0) [] (by simp (maxSteps := 1000000) only [rulesA, rulesB, numbered, ayield, mapO, constAV, scAV, optval, abin, aint, acmp, aconv, aun, aeq, aminmax, afieldAddr, abuild, anew, fieldPlaces, afill, setSeg, kn_P, Nat.reduceAdd, Nat.reduceMul, Nat.reducePow, Nat.reduceSub, Nat.reduceEqDiff, Nat.reduceLT, Nat.reduceLeDiff, Int.reduceEq, Int.reduceNe, Int.reduceLT, Int.reduceLE, Int.reduceAdd, Int.reduceSub, Int.reduceToNat, Int.reduceBNe, Int.reduceBEq, tyR, lH, S1, A1, hw, S2, a2, astore, w1]; with_reducible rfl) rfl (fun K hK ho hn => ?_)
          simp (maxSteps := 1000000) only [stepV, awanted, opsOf, List.getD_cons_succ, List.getD_cons_zero, rulesA, rulesB, numbered, ayield, mapO, constAV, scAV, optval, abin, aint, acmp, aconv, aun, aeq, aminmax, afieldAddr, abuild, anew, fieldPlaces, afill, setSeg, kn_P, Nat.reduceAdd, Nat.reduceMul, Nat.reducePow, Nat.reduceSub, Nat.reduceEqDiff, Nat.reduceLT, Nat.reduceLeDiff, Int.reduceEq, Int.reduceNe, Int.reduceLT, Int.reduceLE, Int.reduceAdd, Int.reduceSub, Int.reduceToNat, Int.reduceBNe, Int.reduceBEq, tyR, killK, List.append_nil, hnew, fresh, hK, Nat.add_zero, S1]
        · refine Lo.mk' (.nilslice) [] (by simp (maxSteps := 1000000) only [rulesA, rulesB, numbered, ayield, mapO, constAV, scAV, optval, abin, aint, acmp, aconv, aun, aeq, aminmax, afieldAddr, abuild, anew, fieldPlaces, afill, setSeg, kn_P, Nat.reduceAdd, Nat.reduceMul, Nat.reducePow, Nat.reduceSub, Nat.reduceEqDiff, Nat.reduceLT, Nat.reduceLeDiff, Int.reduceEq, Int.reduceNe, Int.reduceLT, Int.reduceLE, Int.reduceAdd, Int.reduceSub, Int.reduceToNat, Int.reduceBNe, Int.reduceBEq, tyR, lH, S1, A1, hw, S2, a2, astore, w1]; with_reducible rfl) rfl (fun K hK ho hn => ?_)
          simp (maxSteps := 1000000) only [stepV, awanted, opsOf, List.getD_cons_succ, List.getD_cons_zero, rulesA, rulesB, numbered, ayield, mapO, constAV, scAV, optval, abin, aint, acmp, aconv, aun, aeq, aminmax, afieldAddr, abuild, anew, fieldPlaces, afill, setSeg, kn_P, Nat.reduceAdd, Nat.reduceMul, Nat.reducePow, Nat.reduceSub, Nat.reduceEqDiff, Nat.reduceLT, Nat.reduceLeDiff, Int.reduceEq, Int.reduceNe, Int.reduceLT, Int.reduceLE, Int.reduceAdd, Int.reduceSub, Int.reduceToNat, Int.reduceBNe, Int.reduceBEq, tyR, killK, List.append_nil, hnew, fresh, hK, Nat.add_zero, A1]
        · refine Lo.mk' (.slice (.own bm) 3 0 ts.length) [] (by simp (maxSteps := 1000000) only [rulesA, rulesB, numbered, ayield, mapO, constAV, scAV, optval, abin, aint, acmp, aconv, aun, aeq, aminmax, afieldAddr, abuild, anew, fieldPlaces, afill, setSeg, kn_P, Nat.reduceAdd, Nat.reduceMul, Nat.reducePow, Nat.reduceSub, Nat.reduceEqDiff, Nat.reduceLT, Nat.reduceLeDiff, Int.reduceEq, Int.reduceNe, Int.reduceLT, Int.reduceLE, Int.reduceAdd, Int.reduceSub, Int.reduceToNat, Int.reduceBNe, Int.reduceBEq, tyR, lH, S1, A1, hw, S2, a2, astore, w1]; with_reducible rfl) rfl (fun K hK ho hn => ?_)
          have e := Lk K (ho pm hpl)
          simp (maxSteps := 1000000) only [stepV, awanted, opsOf, List.getD_cons_succ, List.getD_cons_zero, rulesA, rulesB, numbered, ayield, mapO, constAV, scAV, optval, abin, aint, acmp, aconv, aun, aeq, aminmax, afieldAddr, abuild, anew, fieldPlaces, afill, setSeg, kn_P, Nat.reduceAdd, Nat.reduceMul, Nat.reducePow, Nat.reduceSub, Nat.reduceEqDiff, Nat.reduceLT, Nat.reduceLeDiff, Int.reduceEq, Int.reduceNe, Int.reduceLT, Int.reduceLE, Int.reduceAdd, Int.reduceSub, Int.reduceToNat, Int.reduceBNe, Int.reduceBEq, tyR, killK, List.append_nil, hnew, fresh, hK, Nat.add_zero, e]
        · refine Lo.mk' (.slice (.own bm) 3 (0 + 1) (ts.length - (0 + 1))) [] (by simp (maxSteps := 1000000) only [rulesA, rulesB, numbered, ayield, mapO, constAV, scAV, optval, abin, aint, acmp, aconv, aun, aeq, aminmax, afieldAddr, abuild, anew, fieldPlaces, afill, setSeg, kn_P, Nat.reduceAdd, Nat.reduceMul, Nat.reducePow, Nat.reduceSub, Nat.reduceEqDiff, Nat.reduceLT, Nat.reduceLeDiff, Int.reduceEq, Int.reduceNe, Int.reduceLT, Int.reduceLE, Int.reduceAdd, Int.reduceSub, Int.reduceToNat, Int.reduceBNe, Int.reduceBEq, tyR, lH, S1, A1, hw, S2, a2, astore, w1]; with_reducible rfl) rfl (fun K hK ho hn => ?_)
          simp (maxSteps := 1000000) only [stepV, awanted, opsOf, List.getD_cons_succ, List.getD_cons_zero, rulesA, rulesB, numbered, ayield, mapO, constAV, scAV, optval, abin, aint, acmp, aconv, aun, aeq, aminmax, afieldAddr, abuild, anew, fieldPlaces, afill, setSeg, kn_P, Nat.reduceAdd, Nat.reduceMul, Nat.reducePow, Nat.reduceSub, Nat.reduceEqDiff, Nat.reduceLT, Nat.reduceLeDiff, Int.reduceEq, Int.reduceNe, Int.reduceLT, Int.reduceLE, Int.reduceAdd, Int.reduceSub, Int.reduceToNat, Int.reduceBNe, Int.reduceBEq, tyR, killK, List.append_nil, hnew, fresh, hK, Nat.add_zero, S2]
        · refine Lo.mk' (.slice (.own H.length) 3 0 (ts.length - (0 + 1))) [some (.row 60 3 (wS.fl (ts.drop (0 + 1))))] (by simp (maxSteps := 1000000) only [rulesA, rulesB, numbered, ayield, mapO, constAV, scAV, optval, abin, aint, acmp, aconv, aun, aeq, aminmax, afieldAddr, abuild, anew, fieldPlaces, afill, setSeg, kn_P, Nat.reduceAdd, Nat.reduceMul, Nat.reducePow, Nat.reduceSub, Nat.reduceEqDiff, Nat.reduceLT, Nat.reduceLeDiff, Int.reduceEq, Int.reduceNe, Int.reduceLT, Int.reduceLE, Int.reduceAdd, Int.reduceSub, Int.reduceToNat, Int.reduceBNe, Int.reduceBEq, tyR, lH, S1, A1, hw, S2, a2, astore, w1]; with_reducible rfl) rfl (fun K hK ho hn => ?_)
          have e := A2 K (ho bm hbl)
          simp (maxSteps := 1000000) only [stepV, awanted, opsOf, List.getD_cons_succ, List.getD_cons_zero, rulesA, rulesB, numbered, ayield, mapO, constAV, scAV, optval, abin, aint, acmp, aconv, aun, aeq, aminmax, afieldAddr, abuild, anew, fieldPlaces, afill, setSeg, kn_P, Nat.reduceAdd, Nat.reduceMul, Nat.reducePow, Nat.reduceSub, Nat.reduceEqDiff, Nat.reduceLT, Nat.reduceLeDiff, Int.reduceEq, Int.reduceNe, Int.reduceLT, Int.reduceLE, Int.reduceAdd, Int.reduceSub, Int.reduceToNat, Int.reduceBNe, Int.reduceBEq, tyR, killK, List.append_nil, hnew, fresh, hK, Nat.add_zero, e]
      repeat (first | with_reducible refine D.sq ?_ | with_reducible refine D.bl ?_ | with_reducible refine D.skip ?_ | with_reducible refine D.rg (T := none_) (by kernel_rfl) (by simp (maxSteps := 1000000) (disch := omega) only [rulesA, rulesB, numbered, ayield, mapO, constAV, scAV, optval, abin, aint, acmp, aconv, aun, aeq, aminmax, afieldAddr, abuild, anew, fieldPlaces, afill, setSeg, kn_P, Nat.reduceAdd, Nat.reduceMul, Nat.reducePow, Nat.reduceSub, Nat.reduceEqDiff, Nat.reduceLT, Nat.reduceLeDiff, Int.reduceEq, Int.reduceNe, Int.reduceLT, Int.reduceLE, Int.reduceAdd, Int.reduceSub, Int.reduceToNat, Int.reduceBNe, Int.reduceBEq, tyR, rulesC]; with_reducible rfl) ?_ | with_reducible refine D.ct2 (by simp (maxSteps := 1000000) (disch := omega) only [rulesV, numbered, constAV, scAV, Nat.reduceEqDiff, Nat.reduceLT, Nat.reduceLeDiff, rulesC]; with_reducible rfl) (by with_reducible rfl) ?_ | with_reducible refine D.cf2 (by simp (maxSteps := 1000000) (disch := omega) only [rulesV, numbered, constAV, scAV, Nat.reduceEqDiff, Nat.reduceLT, Nat.reduceLeDiff, rulesC]; with_reducible rfl) (by with_reducible rfl) ?_ | with_reducible refine D.exit ?_ | with_reducible refine D.ret ?_ | simp only [rulesK, Nat.reduceEqDiff])
      refine ⟨_, by simp only [resOf, aresult, rulesA, rulesB, numbered, ayield, mapO, constAV, scAV, optval, abin, aint, acmp, aconv, aun, aeq, aminmax, afieldAddr, abuild, anew, fieldPlaces, afill, setSeg, kn_P, Nat.reduceAdd, Nat.reduceMul, Nat.reducePow, Nat.reduceSub, Nat.reduceEqDiff, Nat.reduceLT, Nat.reduceLeDiff, Int.reduceEq, Int.reduceNe, Int.reduceLT, Int.reduceLE, Int.reduceAdd, Int.reduceSub, Int.reduceToNat, Int.reduceBNe, Int.reduceBEq, tyR]; with_reducible rfl, ?_⟩
      have hk : Keep H ((hnew H (.row 60 3 (wS.fl (ts.drop (0 + 1))))).set pm (some (.row 37 2 [.int .i64 N, .slice (.own H.length) 3 0 (ts.length - (0 + 1))]))) (MOwn pm (.slice (.own bm) 3 0 ts.length)) := (Keep.new _ _).trans' (Keep.set pm _) fun j _ e => .inl e
      refine ⟨rfl, _, _, ⟨hat_eq _ (by rw [len_new]; omega), .inr ⟨H.length, by simp; rfl, ?_⟩, fun e => by simp [AV.at?] at e; omega⟩, ⟨hk, fun b hb => .inr (by simp [AV.at?] at hb; omega)⟩, htr, hle⟩
      · show hat _ _ = _
        rw [hat_ne _ (by omega), hat_nn]; simp; rfl
    · have hn1 : ts.length = 1 := by omega
      have S2 : ∀ K : AHeap, aslice (kn G base w0).c K 35 (.slice (.own bm) 3 0 ts.length) (some (.int .i64 ((0 + 1 : Nat) : Int))) none none = some (.slice (.own K.length) 3 0 0, hnew K (.empty false)) := fun K => by rw [hn1]; exact asl_end Try.underlying35 sz60 (by decide)
      have A2 : ∀ K : AHeap, aappend (kn G base w0).c K 35 .nilslice (.slice (.own H.length) 3 0 0) = some (.nilslice, K) := fun K => ap_nil0
      have w1 : wr (hnew H (.empty false)) (.own pm) 1 [.nilslice] = some _ := wr_pm (by rw [hat_nw _ hpl]; exact h.row) rfl
      refine D.local (T := none_) [⟨4, 0, [], none, 0⟩, ⟨6, 0, [], none, 0⟩, ⟨7, 0, [], none, 0⟩, ⟨11, 0, [], none, 0⟩, ⟨14, 0, [], none, 1⟩, ⟨15, 1, [], none, 0⟩] true (by kernel_rfl) (by simp (maxSteps := 1000000) only [rulesA, rulesB, numbered, ayield, mapO, constAV, scAV, optval, abin, aint, acmp, aconv, aun, aeq, aminmax, afieldAddr, abuild, anew, fieldPlaces, afill, setSeg, kn_P, Nat.reduceAdd, Nat.reduceMul, Nat.reducePow, Nat.reduceSub, Nat.reduceEqDiff, Nat.reduceLT, Nat.reduceLeDiff, Int.reduceEq, Int.reduceNe, Int.reduceLT, Int.reduceLE, Int.reduceAdd, Int.reduceSub, Int.reduceToNat, Int.reduceBNe, Int.reduceBEq, tyR, lH, S1, A1, hw, S2, A2, astore, w1]; with_reducible rfl) ?_ ?_
      · intro u hu
        simp only [List.mem_cons, List.not_mem_nil, or_false] at hu
        rcases hu with rfl | rfl | rfl | rfl | rfl | rfl
        · refine Lo.mk' (.slice (.own bm) 3 0 ts.length) [] (by simp (maxSteps := 1000000) only [rulesA, rulesB, numbered, ayield, mapO, constAV, scAV, optval, abin, aint, acmp, aconv, aun, aeq, aminmax, afieldAddr, abuild, anew, fieldPlaces, afill, setSeg, kn_P, Nat.reduceAdd, Nat.reduceMul, Nat.reducePow, Nat.reduceSub, Nat.reduceEqDiff, Nat.reduceLT, Nat.reduceLeDiff, Int.reduceEq, Int.reduceNe, Int.reduceLT, Int.reduceLE, Int.reduceAdd, Int.reduceSub, Int.reduceToNat, Int.reduceBNe, Int.reduceBEq, tyR, lH, S1, A1, hw, S2, A2, astore, w1]; with_reducible rfl) rfl (fun K hK ho hn => ?_)
          have e := Lk K (ho pm hpl)
          simp (maxSteps := 1000000) only [stepV, awanted, opsOf, List.getD_cons_succ, List.getD_cons_zero, rulesA, rulesB, numbered, ayield, mapO, constAV, scAV, optval, abin, aint, acmp, aconv, aun, aeq, aminmax, afieldAddr, abuild, anew, fieldPlaces, afill, setSeg, kn_P, Nat.reduceAdd, Nat.reduceMul, Nat.reducePow, Nat.reduceSub, Nat.reduceEqDiff, Nat.reduceLT, Nat.reduceLeDiff, Int.reduceEq, Int.reduceNe, Int.reduceLT, Int.reduceLE, Int.reduceAdd, Int.reduceSub, Int.reduceToNat, Int.reduceBNe, Int.reduceBEq, tyR, killK, List.append_nil, hnew, fresh, hK, Nat.add_zero, e]
        · refine Lo.mk' (.slice (.own bm) 3 0 0) [] (by simp (maxSteps := 1000000) only [rulesA, rulesB, numbered, ayield, mapO, constAV, scAV, optval, abin, aint, acmp, aconv, aun, aeq, aminmax, afieldAddr, abuild, anew, fieldPlaces, afill, setSeg, kn_P, Nat.reduceAdd, Nat.reduceMul, Nat.reducePow, Nat.reduceSub, Nat.reduceEqDiff, Nat.reduceLT, Nat.reduceLeDiff, Int.reduceEq, Int.reduceNe, Int.reduceLT, Int.reduceLE, Int.reduceAdd, Int.reduceSub, Int.reduceToNat, Int.reduceBNe, Int.reduceBEq, tyR, lH, S1, A1, hw, S2, A2, astore, w1]; with_reducible rfl) rfl (fun K hK ho hn => ?_)
          simp (maxSteps := 1000000) only [stepV, awanted, opsOf, List.getD_cons_succ, List.getD_cons_zero, rulesA, rulesB, numbered, ayield, mapO, constAV, scAV, optval, abin, aint, acmp, aconv, aun, aeq, aminmax, afieldAddr, abuild, anew, fieldPlaces, afill, setSeg, kn_P, Nat.reduceAdd, Nat.reduceMul, Nat.reducePow, Nat.reduceSub, Nat.reduceEqDiff, Nat.reduceLT, Nat.reduceLeDiff, Int.reduceEq, Int.reduceNe, Int.reduceLT, Int.reduceLE, Int.reduceAdd, Int.reduceSub, Int.reduceToNat, Int.reduceBNe, Int.reduceBEq, tyR, killK, List.append_nil, hnew, fresh, hK, Nat.add_zero, S1]
        · refine Lo.mk' (.nilslice) [] (by simp (maxSteps := 1000000) only [rulesA, rulesB, numbered, ayield, mapO, constAV, scAV, optval, abin, aint, acmp, aconv, aun, aeq, aminmax, afieldAddr, abuild, anew, fieldPlaces, afill, setSeg, kn_P, Nat.reduceAdd, Nat.reduceMul, Nat.reducePow, Nat.reduceSub, Nat.reduceEqDiff, Nat.reduceLT, Nat.reduceLeDiff, Int.reduceEq, Int.reduceNe, Int.reduceLT, Int.reduceLE, Int.reduceAdd, Int.reduceSub, Int.reduceToNat, Int.reduceBNe, Int.reduceBEq, tyR, lH, S1, A1, hw, S2, A2, astore, w1]; with_reducible rfl) rfl (fun K hK ho hn => ?_)
          simp (maxSteps := 1000000) only [stepV, awanted, opsOf, List.getD_cons_succ, List.getD_cons_zero, rulesA, rulesB, numbered, ayield, mapO, constAV, scAV, optval, abin, aint, acmp, aconv, aun, aeq, aminmax, afieldAddr, abuild, anew, fieldPlaces, afill, setSeg, kn_P, Nat.reduceAdd, Nat.reduceMul, Nat.reducePow, Nat.reduceSub, Nat.reduceEqDiff, Nat.reduceLT, Nat.reduceLeDiff, Int.reduceEq, Int.reduceNe, Int.reduceLT, Int.reduceLE, Int.reduceAdd, Int.reduceSub, Int.reduceToNat, Int.reduceBNe, Int.reduceBEq, tyR, killK, List.append_nil, hnew, fresh, hK, Nat.add_zero, A1]
        · refine Lo.mk' (.slice (.own bm) 3 0 ts.length) [] (by simp (maxSteps := 1000000) only [rulesA, rulesB, numbered, ayield, mapO, constAV, scAV, optval, abin, aint, acmp, aconv, aun, aeq, aminmax, afieldAddr, abuild, anew, fieldPlaces, afill, setSeg, kn_P, Nat.reduceAdd, Nat.reduceMul, Nat.reducePow, Nat.reduceSub, Nat.reduceEqDiff, Nat.reduceLT, Nat.reduceLeDiff, Int.reduceEq, Int.reduceNe, Int.reduceLT, Int.reduceLE, Int.reduceAdd, Int.reduceSub, Int.reduceToNat, Int.reduceBNe, Int.reduceBEq, tyR, lH, S1, A1, hw, S2, A2, astore, w1]; with_reducible rfl) rfl (fun K hK ho hn => ?_)
          have e := Lk K (ho pm hpl)
          simp (maxSteps := 1000000) only [stepV, awanted, opsOf, List.getD_cons_succ, List.getD_cons_zero, rulesA, rulesB, numbered, ayield, mapO, constAV, scAV, optval, abin, aint, acmp, aconv, aun, aeq, aminmax, afieldAddr, abuild, anew, fieldPlaces, afill, setSeg, kn_P, Nat.reduceAdd, Nat.reduceMul, Nat.reducePow, Nat.reduceSub, Nat.reduceEqDiff, Nat.reduceLT, Nat.reduceLeDiff, Int.reduceEq, Int.reduceNe, Int.reduceLT, Int.reduceLE, Int.reduceAdd, Int.reduceSub, Int.reduceToNat, Int.reduceBNe, Int.reduceBEq, tyR, killK, List.append_nil, hnew, fresh, hK, Nat.add_zero, e]
        · refine Lo.mk' (.slice (.own H.length) 3 0 0) [some (.empty false)] (by simp (maxSteps := 1000000) only [rulesA, rulesB, numbered, ayield, mapO, constAV, scAV, optval, abin, aint, acmp, aconv, aun, aeq, aminmax, afieldAddr, abuild, anew, fieldPlaces, afill, setSeg, kn_P, Nat.reduceAdd, Nat.reduceMul, Nat.reducePow, Nat.reduceSub, Nat.reduceEqDiff, Nat.reduceLT, Nat.reduceLeDiff, Int.reduceEq, Int.reduceNe, Int.reduceLT, Int.reduceLE, Int.reduceAdd, Int.reduceSub, Int.reduceToNat, Int.reduceBNe, Int.reduceBEq, tyR, lH, S1, A1, hw, S2, A2, astore, w1]; with_reducible rfl) rfl (fun K hK ho hn => ?_)
          simp (maxSteps := 1000000) only [stepV, awanted, opsOf, List.getD_cons_succ, List.getD_cons_zero, rulesA, rulesB, numbered, ayield, mapO, constAV, scAV, optval, abin, aint, acmp, aconv, aun, aeq, aminmax, afieldAddr, abuild, anew, fieldPlaces, afill, setSeg, kn_P, Nat.reduceAdd, Nat.reduceMul, Nat.reducePow, Nat.reduceSub, Nat.reduceEqDiff, Nat.reduceLT, Nat.reduceLeDiff, Int.reduceEq, Int.reduceNe, Int.reduceLT, Int.reduceLE, Int.reduceAdd, Int.reduceSub, Int.reduceToNat, Int.reduceBNe, Int.reduceBEq, tyR, killK, List.append_nil, hnew, fresh, hK, Nat.add_zero, S2]
        · refine Lo.mk' (.nilslice) [] (by simp (maxSteps := 1000000) only [rulesA, rulesB, numbered, ayield, mapO, constAV, scAV, optval, abin, aint, acmp, aconv, aun, aeq, aminmax, afieldAddr, abuild, anew, fieldPlaces, afill, setSeg, kn_P, Nat.reduceAdd, Nat.reduceMul, Nat.reducePow, Nat.reduceSub, Nat.reduceEqDiff, Nat.reduceLT, Nat.reduceLeDiff, Int.reduceEq, Int.reduceNe, Int.reduceLT, Int.reduceLE, Int.reduceAdd, Int.reduceSub, Int.reduceToNat, Int.reduceBNe, Int.reduceBEq, tyR, lH, S1, A1, hw, S2, A2, astore, w1]; with_reducible rfl) rfl (fun K hK ho hn => ?_)
          simp (maxSteps := 1000000) only [stepV, awanted, opsOf, List.getD_cons_succ, List.getD_cons_zero, rulesA, rulesB, numbered, ayield, mapO, constAV, scAV, optval, abin, aint, acmp, aconv, aun, aeq, aminmax, afieldAddr, abuild, anew, fieldPlaces, afill, setSeg, kn_P, Nat.reduceAdd, Nat.reduceMul, Nat.reducePow, Nat.reduceSub, Nat.reduceEqDiff, Nat.reduceLT, Nat.reduceLeDiff, Int.reduceEq, Int.reduceNe, Int.reduceLT, Int.reduceLE, Int.reduceAdd, Int.reduceSub, Int.reduceToNat, Int.reduceBNe, Int.reduceBEq, tyR, killK, List.append_nil, hnew, fresh, hK, Nat.add_zero, A2]
      repeat (first | with_reducible refine D.sq ?_ | with_reducible refine D.bl ?_ | with_reducible refine D.skip ?_ | with_reducible refine D.rg (T := none_) (by kernel_rfl) (by simp (maxSteps := 1000000) (disch := omega) only [rulesA, rulesB, numbered, ayield, mapO, constAV, scAV, optval, abin, aint, acmp, aconv, aun, aeq, aminmax, afieldAddr, abuild, anew, fieldPlaces, afill, setSeg, kn_P, Nat.reduceAdd, Nat.reduceMul, Nat.reducePow, Nat.reduceSub, Nat.reduceEqDiff, Nat.reduceLT, Nat.reduceLeDiff, Int.reduceEq, Int.reduceNe, Int.reduceLT, Int.reduceLE, Int.reduceAdd, Int.reduceSub, Int.reduceToNat, Int.reduceBNe, Int.reduceBEq, tyR, rulesC]; with_reducible rfl) ?_ | with_reducible refine D.ct2 (by simp (maxSteps := 1000000) (disch := omega) only [rulesV, numbered, constAV, scAV, Nat.reduceEqDiff, Nat.reduceLT, Nat.reduceLeDiff, rulesC]; with_reducible rfl) (by with_reducible rfl) ?_ | with_reducible refine D.cf2 (by simp (maxSteps := 1000000) (disch := omega) only [rulesV, numbered, constAV, scAV, Nat.reduceEqDiff, Nat.reduceLT, Nat.reduceLeDiff, rulesC]; with_reducible rfl) (by with_reducible rfl) ?_ | with_reducible refine D.exit ?_ | with_reducible refine D.ret ?_ | simp only [rulesK, Nat.reduceEqDiff])
      refine ⟨_, by simp only [resOf, aresult, rulesA, rulesB, numbered, ayield, mapO, constAV, scAV, optval, abin, aint, acmp, aconv, aun, aeq, aminmax, afieldAddr, abuild, anew, fieldPlaces, afill, setSeg, kn_P, Nat.reduceAdd, Nat.reduceMul, Nat.reducePow, Nat.reduceSub, Nat.reduceEqDiff, Nat.reduceLT, Nat.reduceLeDiff, Int.reduceEq, Int.reduceNe, Int.reduceLT, Int.reduceLE, Int.reduceAdd, Int.reduceSub, Int.reduceToNat, Int.reduceBNe, Int.reduceBEq, tyR]; with_reducible rfl, ?_⟩
      have hk : Keep H ((hnew H (.empty false)).set pm (some (.row 37 2 [.int .i64 N, .nilslice]))) (MOwn pm (.slice (.own bm) 3 0 ts.length)) := (Keep.new _ _).trans' (Keep.set pm _) fun j _ e => .inl e
      refine ⟨rfl, _, _, ⟨hat_eq _ (by rw [len_new]; omega), .inl ⟨rfl, by rw [show ts.drop (0 + 1) = [] from List.drop_of_length_le (by omega)]; rfl⟩, by simp [AV.at?]⟩, ⟨hk, fun b hb => by simp [AV.at?] at hb⟩, htr, hle⟩
  · have hi0 : 0 < i := by omega
    have A1 : ∀ K : AHeap, hat K bm = hat H bm → aappend (kn G base w0).c K 35 .nilslice (.slice (.own bm) 3 0 i) = some (.slice (.own K.length) 3 0 i, hnew K (.row 60 3 (wS.fl (ts.take i)))) := fun K e => ap_nil (rowK K e) (a := 0) (m := i) (by omega) hi0 (by omega)
    have a1 := A1 H rfl
    have lH1 := Lk (hnew H (.row 60 3 (wS.fl (ts.take i)))) (hat_nw _ hpl)
    have htl : (ts.take i).length = i := by simp; omega
    by_cases h1 : i + 1 < ts.length
    · have S2 : ∀ K : AHeap, aslice (kn G base w0).c K 35 (.slice (.own bm) 3 0 ts.length) (some (.int .i64 ((i + 1 : Nat) : Int))) none none = some (.slice (.own bm) 3 (i + 1) (ts.length - (i + 1)), K) := fun K => asl_hi Try.underlying35 sz60 h1
      have A2 : ∀ K : AHeap, hat K bm = hat H bm → hat K H.length = some (.row 60 3 (wS.fl (ts.take i))) → aappend (kn G base w0).c K 35 (.slice (.own H.length) 3 0 i) (.slice (.own bm) 3 (i + 1) (ts.length - (i + 1))) = some (.slice (.own K.length) 3 0 (i + (ts.length - (i + 1))), hnew (K.set H.length none) (.row 60 3 (wS.fl (ts.take i ++ ts.drop (i + 1))))) := fun K e e1 => by
        have := ap_own (G := G) (base := base) (w0 := w0) (rowK K e) (a := i + 1) (m := ts.length - (i + 1)) (by omega) (by omega) (by rw [htl]; omega) (b1 := H.length) (ys := ts.take i) e1
        rw [List.take_of_length_le (l := ts.drop (i + 1)) (by simp), htl] at this
        exact this
      have a2 := A2 (hnew H (.row 60 3 (wS.fl (ts.take i)))) (hat_nw _ hbl) (hat_nn _)
      rw [len_new] at a2
      have w1 : wr (hnew ((hnew H (.row 60 3 (wS.fl (ts.take i)))).set H.length none) (.row 60 3 (wS.fl (ts.take i ++ ts.drop (i + 1))))) (.own pm) 1 [.slice (.own (H.length + 1)) 3 0 (i + (ts.length - (i + 1)))] = some _ := wr_pm (by rw [hat_nw _ (by simp [hnew]; omega), hat_ne _ (by omega), hat_nw _ hpl]; exact h.row) rfl
      refine D.local (T := none_) [⟨4, 0, [], none, 0⟩, ⟨6, 0, [], none, 0⟩, ⟨7, 0, [], none, 1⟩, ⟨11, 1, [], none, 0⟩, ⟨14, 1, [], none, 0⟩, ⟨15, 1, [0], some 0, 1⟩] true (by kernel_rfl) (by simp (maxSteps := 1000000) only [rulesA, rulesB, numbered, ayield, mapO, constAV, scAV, optval, abin, aint, acmp, aconv, aun, aeq, aminmax, afieldAddr, abuild, anew, fieldPlaces, afill, setSeg, kn_P, Nat.reduceAdd, Nat.reduceMul, Nat.reducePow, Nat.reduceSub, Nat.reduceEqDiff, Nat.reduceLT, Nat.reduceLeDiff, Int.reduceEq, Int.reduceNe, Int.reduceLT, Int.reduceLE, Int.reduceAdd, Int.reduceSub, Int.reduceToNat, Int.reduceBNe, Int.reduceBEq, tyR, lH, S1, a1, lH1, hw, S2, a2, astore, w1]; with_reducible rfl) ?_ ?_
      · intro u hu
        simp only [List.mem_cons, List.not_mem_nil, or_false] at hu
        rcases hu with rfl | rfl | rfl | rfl | rfl | rfl
        · refine Lo.mk' (.slice (.own bm) 3 0 ts.length) [] (by simp (maxSteps := 1000000) only [rulesA, rulesB, numbered, ayield, mapO, constAV, scAV, optval, abin, aint, acmp, aconv, aun, aeq, aminmax, afieldAddr, abuild, anew, fieldPlaces, afill, setSeg, kn_P, Nat.reduceAdd, Nat.reduceMul, Nat.reducePow, Nat.reduceSub, Nat.reduceEqDiff, Nat.reduceLT, Nat.reduceLeDiff, Int.reduceEq, Int.reduceNe, Int.reduceLT, Int.reduceLE, Int.reduceAdd, Int.reduceSub, Int.reduceToNat, Int.reduceBNe, Int.reduceBEq, tyR, lH, S1, a1, lH1, hw, S2, a2, astore, w1]; with_reducible rfl) rfl (fun K hK ho hn => ?_)
          have e := Lk K (ho pm hpl)
          simp (maxSteps := 1000000) only [stepV, awanted, opsOf, List.getD_cons_succ, List.getD_cons_zero, rulesA, rulesB, numbered, ayield, mapO, constAV, scAV, optval, abin, aint, acmp, aconv, aun, aeq, aminmax, afieldAddr, abuild, anew, fieldPlaces, afill, setSeg, kn_P, Nat.reduceAdd, Nat.reduceMul, Nat.reducePow, Nat.reduceSub, Nat.reduceEqDiff, Nat.reduceLT, Nat.reduceLeDiff, Int.reduceEq, Int.reduceNe, Int.reduceLT, Int.reduceLE, Int.reduceAdd, Int.reduceSub, Int.reduceToNat, Int.reduceBNe, Int.reduceBEq, tyR, killK, List.append_nil, hnew, fresh, hK, Nat.add_zero, e]
        · refine Lo.mk' (.slice (.own bm) 3 0 i) [] (by simp (maxSteps := 1000000) only [rulesA, rulesB, numbered, ayield, mapO, constAV, scAV, optval, abin, aint, acmp, aconv, aun, aeq, aminmax, afieldAddr, abuild, anew, fieldPlaces, afill, setSeg, kn_P, Nat.reduceAdd, Nat.reduceMul, Nat.reducePow, Nat.reduceSub, Nat.reduceEqDiff, Nat.reduceLT, Nat.reduceLeDiff, Int.reduceEq, Int.reduceNe, Int.reduceLT, Int.reduceLE, Int.reduceAdd, Int.reduceSub, Int.reduceToNat, Int.reduceBNe, Int.reduceBEq, tyR, lH, S1, a1, lH1, hw, S2, a2, astore, w1]; with_reducible rfl) rfl (fun K hK ho hn => ?_)
          simp (maxSteps := 1000000) only [stepV, awanted, opsOf, List.getD_cons_succ, List.getD_cons_zero, rulesA, rulesB, numbered, ayield, mapO, constAV, scAV, optval, abin, aint, acmp, aconv, aun, aeq, aminmax, afieldAddr, abuild, anew, fieldPlaces, afill, setSeg, kn_P, Nat.reduceAdd, Nat.reduceMul, Nat.reducePow, Nat.reduceSub, Nat.reduceEqDiff, Nat.reduceLT, Nat.reduceLeDiff, Int.reduceEq, Int.reduceNe, Int.reduceLT, Int.reduceLE, Int.reduceAdd, Int.reduceSub, Int.reduceToNat, Int.reduceBNe, Int.reduceBEq, tyR, killK, List.append_nil, hnew, fresh, hK, Nat.add_zero, S1]
        · refine Lo.mk' (.slice (.own H.length) 3 0 i) [some (.row 60 3 (wS.fl (ts.take i)))] (by simp (maxSteps := 1000000) only [rulesA, rulesB, numbered, ayield, mapO, constAV, scAV, optval, abin, aint, acmp, aconv, aun, aeq, aminmax, afieldAddr, abuild, anew, fieldPlaces, afill, setSeg, kn_P, Nat.reduceAdd, Nat.reduceMul, Nat.reducePow, Nat.reduceSub, Nat.reduceEqDiff, Nat.reduceLT, Nat.reduceLeDiff, Int.reduceEq, Int.reduceNe, Int.reduceLT, Int.reduceLE, Int.reduceAdd, Int.reduceSub, Int.reduceToNat, Int.reduceBNe, Int.reduceBEq, tyR, lH, S1, a1, lH1, hw, S2, a2, astore, w1]; with_reducible rfl) rfl (fun K hK ho hn => ?_)
          have e := A1 K (ho bm hbl)
          simp (maxSteps := 1000000) only [stepV, awanted, opsOf, List.getD_cons_succ, List.getD_cons_zero, rulesA, rulesB, numbered, ayield, mapO, constAV, scAV, optval, abin, aint, acmp, aconv, aun, aeq, aminmax, afieldAddr, abuild, anew, fieldPlaces, afill, setSeg, kn_P, Nat.reduceAdd, Nat.reduceMul, Nat.reducePow, Nat.reduceSub, Nat.reduceEqDiff, Nat.reduceLT, Nat.reduceLeDiff, Int.reduceEq, Int.reduceNe, Int.reduceLT, Int.reduceLE, Int.reduceAdd, Int.reduceSub, Int.reduceToNat, Int.reduceBNe, Int.reduceBEq, tyR, killK, List.append_nil, hnew, fresh, hK, Nat.add_zero, e]
        · refine Lo.mk' (.slice (.own bm) 3 0 ts.length) [] (by simp (maxSteps := 1000000) only [rulesA, rulesB, numbered, ayield, mapO, constAV, scAV, optval, abin, aint, acmp, aconv, aun, aeq, aminmax, afieldAddr, abuild, anew, fieldPlaces, afill, setSeg, kn_P, Nat.reduceAdd, Nat.reduceMul, Nat.reducePow, Nat.reduceSub, Nat.reduceEqDiff, Nat.reduceLT, Nat.reduceLeDiff, Int.reduceEq, Int.reduceNe, Int.reduceLT, Int.reduceLE, Int.reduceAdd, Int.reduceSub, Int.reduceToNat, Int.reduceBNe, Int.reduceBEq, tyR, lH, S1, a1, lH1, hw, S2, a2, astore, w1]; with_reducible rfl) rfl (fun K hK ho hn => ?_)
          have e := Lk K (ho pm hpl)
          simp (maxSteps := 1000000) only [stepV, awanted, opsOf, List.getD_cons_succ, List.getD_cons_zero, rulesA, rulesB, numbered, ayield, mapO, constAV, scAV, optval, abin, aint, acmp, aconv, aun, aeq, aminmax, afieldAddr, abuild, anew, fieldPlaces, afill, setSeg, kn_P, Nat.reduceAdd, Nat.reduceMul, Nat.reducePow, Nat.reduceSub, Nat.reduceEqDiff, Nat.reduceLT, Nat.reduceLeDiff, Int.reduceEq, Int.reduceNe, Int.reduceLT, Int.reduceLE, Int.reduceAdd, Int.reduceSub, Int.reduceToNat, Int.reduceBNe, Int.reduceBEq, tyR, killK, List.append_nil, hnew, fresh, hK, Nat.add_zero, e]
        · refine Lo.mk' (.slice (.own bm) 3 (i + 1) (ts.length - (i + 1))) [] (by simp (maxSteps := 1000000) only [rulesA, rulesB, numbered, ayield, mapO, constAV, scAV, optval, abin, aint, acmp, aconv, aun, aeq, aminmax, afieldAddr, abuild, anew, fieldPlaces, afill, setSeg, kn_P, Nat.reduceAdd, Nat.reduceMul, Nat.reducePow, Nat.reduceSub, Nat.reduceEqDiff, Nat.reduceLT, Nat.reduceLeDiff, Int.reduceEq, Int.reduceNe, Int.reduceLT, Int.reduceLE, Int.reduceAdd, Int.reduceSub, Int.reduceToNat, Int.reduceBNe, Int.reduceBEq, tyR, lH, S1, a1, lH1, hw, S2, a2, astore, w1]; with_reducible rfl) rfl (fun K hK ho hn => ?_)
          simp (maxSteps := 1000000) only [stepV, awanted, opsOf, List.getD_cons_succ, List.getD_cons_zero, rulesA, rulesB, numbered, ayield, mapO, constAV, scAV, optval, abin, aint, acmp, aconv, aun, aeq, aminmax, afieldAddr, abuild, anew, fieldPlaces, afill, setSeg, kn_P, Nat.reduceAdd, Nat.reduceMul, Nat.reducePow, Nat.reduceSub, Nat.reduceEqDiff, Nat.reduceLT, Nat.reduceLeDiff, Int.reduceEq, Int.reduceNe, Int.reduceLT, Int.reduceLE, Int.reduceAdd, Int.reduceSub, Int.reduceToNat, Int.reduceBNe, Int.reduceBEq, tyR, killK, List.append_nil, hnew, fresh, hK, Nat.add_zero, S2]
        · refine Lo.mk' (.slice (.own (H.length + 1)) 3 0 (i + (ts.length - (i + 1)))) [some (.row 60 3 (wS.fl (ts.take i ++ ts.drop (i + 1))))] (by simp (maxSteps := 1000000) only [rulesA, rulesB, numbered, ayield, mapO, constAV, scAV, optval, abin, aint, acmp, aconv, aun, aeq, aminmax, afieldAddr, abuild, anew, fieldPlaces, afill, setSeg, kn_P, Nat.reduceAdd, Nat.reduceMul, Nat.reducePow, Nat.reduceSub, Nat.reduceEqDiff, Nat.reduceLT, Nat.reduceLeDiff, Int.reduceEq, Int.reduceNe, Int.reduceLT, Int.reduceLE, Int.reduceAdd, Int.reduceSub, Int.reduceToNat, Int.reduceBNe, Int.reduceBEq, tyR, lH, S1, a1, lH1, hw, S2, a2, astore, w1]; with_reducible rfl) rfl (fun K hK ho hn => ?_)
          have e := A2 K (ho bm hbl) ((hn 0 (by simp)).trans (hat_nn _))
          simp (maxSteps := 1000000) only [stepV, awanted, opsOf, List.getD_cons_succ, List.getD_cons_zero, rulesA, rulesB, numbered, ayield, mapO, constAV, scAV, optval, abin, aint, acmp, aconv, aun, aeq, aminmax, afieldAddr, abuild, anew, fieldPlaces, afill, setSeg, kn_P, Nat.reduceAdd, Nat.reduceMul, Nat.reducePow, Nat.reduceSub, Nat.reduceEqDiff, Nat.reduceLT, Nat.reduceLeDiff, Int.reduceEq, Int.reduceNe, Int.reduceLT, Int.reduceLE, Int.reduceAdd, Int.reduceSub, Int.reduceToNat, Int.reduceBNe, Int.reduceBEq, tyR, killK, List.append_nil, hnew, fresh, hK, Nat.add_zero, e]
      repeat (first | with_reducible refine D.sq ?_ | with_reducible refine D.bl ?_ | with_reducible refine D.skip ?_ | with_reducible refine D.rg (T := none_) (by kernel_rfl) (by simp (maxSteps := 1000000) (disch := omega) only [rulesA, rulesB, numbered, ayield, mapO, constAV, scAV, optval, abin, aint, acmp, aconv, aun, aeq, aminmax, afieldAddr, abuild, anew, fieldPlaces, afill, setSeg, kn_P, Nat.reduceAdd, Nat.reduceMul, Nat.reducePow, Nat.reduceSub, Nat.reduceEqDiff, Nat.reduceLT, Nat.reduceLeDiff, Int.reduceEq, Int.reduceNe, Int.reduceLT, Int.reduceLE, Int.reduceAdd, Int.reduceSub, Int.reduceToNat, Int.reduceBNe, Int.reduceBEq, tyR, rulesC]; with_reducible rfl) ?_ | with_reducible refine D.ct2 (by simp (maxSteps := 1000000) (disch := omega) only [rulesV, numbered, constAV, scAV, Nat.reduceEqDiff, Nat.reduceLT, Nat.reduceLeDiff, rulesC]; with_reducible rfl) (by with_reducible rfl) ?_ | with_reducible refine D.cf2 (by simp (maxSteps := 1000000) (disch := omega) only [rulesV, numbered, constAV, scAV, Nat.reduceEqDiff, Nat.reduceLT, Nat.reduceLeDiff, rulesC]; with_reducible rfl) (by with_reducible rfl) ?_ | with_reducible refine D.exit ?_ | with_reducible refine D.ret ?_ | simp only [rulesK, Nat.reduceEqDiff])
      refine ⟨_, by simp only [resOf, aresult, rulesA, rulesB, numbered, ayield, mapO, constAV, scAV, optval, abin, aint, acmp, aconv, aun, aeq, aminmax, afieldAddr, abuild, anew, fieldPlaces, afill, setSeg, kn_P, Nat.reduceAdd, Nat.reduceMul, Nat.reducePow, Nat.reduceSub, Nat.reduceEqDiff, Nat.reduceLT, Nat.reduceLeDiff, Int.reduceEq, Int.reduceNe, Int.reduceLT, Int.reduceLE, Int.reduceAdd, Int.reduceSub, Int.reduceToNat, Int.reduceBNe, Int.reduceBEq, tyR]; with_reducible rfl, ?_⟩
      have hk : Keep H ((hnew ((hnew H (.row 60 3 (wS.fl (ts.take i)))).set H.length none) (.row 60 3 (wS.fl (ts.take i ++ ts.drop (i + 1))))).set pm (some (.row 37 2 [.int .i64 N, .slice (.own (H.length + 1)) 3 0 (i + (ts.length - (i + 1)))]))) (MOwn pm (.slice (.own bm) 3 0 ts.length)) :=
        (((Keep.new _ (fun j => j = pm ∨ H.length ≤ j)).trans' (Keep.set H.length none) fun j _ e => .inr (by omega)).trans' ((Keep.new _ (fun j => j = pm)).trans (Keep.set pm _)) fun j _ e => .inl e).mono fun j hj e => by
          rcases e with e | e
          · exact .inl e
          · omega
      refine ⟨rfl, _, _, ⟨hat_eq _ (by simp [hnew]; omega), .inr ⟨H.length + 1, by simp [htl]; rfl, ?_⟩, fun e => by simp [AV.at?] at e; omega⟩, ⟨hk, fun b hb => .inr (by simp [AV.at?] at hb; omega)⟩, htr, hle⟩
      · show hat _ _ = _
        rw [hat_ne _ (by omega)]
        have := hat_nn (H := (hnew H (.row 60 3 (wS.fl (ts.take i)))).set H.length none) (.row 60 3 (wS.fl (ts.take i ++ ts.drop (i + 1))))
        rw [List.length_set, len_new] at this
        exact this
    · have hn1 : ts.length = i + 1 := by omega
      have S2 : ∀ K : AHeap, aslice (kn G base w0).c K 35 (.slice (.own bm) 3 0 ts.length) (some (.int .i64 ((i + 1 : Nat) : Int))) none none = some (.slice (.own K.length) 3 0 0, hnew K (.empty false)) := fun K => by rw [hn1]; exact asl_end Try.underlying35 sz60 (by omega)
      have A2 : ∀ K : AHeap, aappend (kn G base w0).c K 35 (.slice (.own H.length) 3 0 i) (.slice (.own (H.length + 1)) 3 0 0) = some (.slice (.own H.length) 3 0 i, K) := fun K => ap_own0
      have w1 : wr (hnew (hnew H (.row 60 3 (wS.fl (ts.take i)))) (.empty false)) (.own pm) 1 [.slice (.own H.length) 3 0 i] = some _ := wr_pm (by rw [hat_nw _ (by rw [len_new]; omega), hat_nw _ hpl]; exact h.row) rfl
      refine D.local (T := none_) [⟨4, 0, [], none, 0⟩, ⟨6, 0, [], none, 0⟩, ⟨7, 0, [], none, 1⟩, ⟨11, 1, [], none, 0⟩, ⟨14, 1, [], none, 1⟩, ⟨15, 2, [], none, 0⟩] true (by kernel_rfl) (by simp (maxSteps := 1000000) only [rulesA, rulesB, numbered, ayield, mapO, constAV, scAV, optval, abin, aint, acmp, aconv, aun, aeq, aminmax, afieldAddr, abuild, anew, fieldPlaces, afill, setSeg, kn_P, Nat.reduceAdd, Nat.reduceMul, Nat.reducePow, Nat.reduceSub, Nat.reduceEqDiff, Nat.reduceLT, Nat.reduceLeDiff, Int.reduceEq, Int.reduceNe, Int.reduceLT, Int.reduceLE, Int.reduceAdd, Int.reduceSub, Int.reduceToNat, Int.reduceBNe, Int.reduceBEq, tyR, lH, S1, a1, lH1, hw, S2, len_new, A2, astore, w1]; with_reducible rfl) ?_ ?_
      · intro u hu
        simp only [List.mem_cons, List.not_mem_nil, or_false] at hu
        rcases hu with rfl | rfl | rfl | rfl | rfl | rfl
        · refine Lo.mk' (.slice (.own bm) 3 0 ts.length) [] (by simp (maxSteps := 1000000) only [rulesA, rulesB, numbered, ayield, mapO, constAV, scAV, optval, abin, aint, acmp, aconv, aun, aeq, aminmax, afieldAddr, abuild, anew, fieldPlaces, afill, setSeg, kn_P, Nat.reduceAdd, Nat.reduceMul, Nat.reducePow, Nat.reduceSub, Nat.reduceEqDiff, Nat.reduceLT, Nat.reduceLeDiff, Int.reduceEq, Int.reduceNe, Int.reduceLT, Int.reduceLE, Int.reduceAdd, Int.reduceSub, Int.reduceToNat, Int.reduceBNe, Int.reduceBEq, tyR, lH, S1, a1, lH1, hw, S2, len_new, A2, astore, w1]; with_reducible rfl) rfl (fun K hK ho hn => ?_)
          have e := Lk K (ho pm hpl)
          simp (maxSteps := 1000000) only [stepV, awanted, opsOf, List.getD_cons_succ, List.getD_cons_zero, rulesA, rulesB, numbered, ayield, mapO, constAV, scAV, optval, abin, aint, acmp, aconv, aun, aeq, aminmax, afieldAddr, abuild, anew, fieldPlaces, afill, setSeg, kn_P, Nat.reduceAdd, Nat.reduceMul, Nat.reducePow, Nat.reduceSub, Nat.reduceEqDiff, Nat.reduceLT, Nat.reduceLeDiff, Int.reduceEq, Int.reduceNe, Int.reduceLT, Int.reduceLE, Int.reduceAdd, Int.reduceSub, Int.reduceToNat, Int.reduceBNe, Int.reduceBEq, tyR, killK, List.append_nil, hnew, fresh, hK, Nat.add_zero, e]
        · refine Lo.mk' (.slice (.own bm) 3 0 i) [] (by simp (maxSteps := 1000000) only [rulesA, rulesB, numbered, ayield, mapO, constAV, scAV, optval, abin, aint, acmp, aconv, aun, aeq, aminmax, afieldAddr, abuild, anew, fieldPlaces, afill, setSeg, kn_P, Nat.reduceAdd, Nat.reduceMul, Nat.reducePow, Nat.reduceSub, Nat.reduceEqDiff, Nat.reduceLT, Nat.reduceLeDiff, Int.reduceEq, Int.reduceNe, Int.reduceLT, Int.reduceLE, Int.reduceAdd, Int.reduceSub, Int.reduceToNat, Int.reduceBNe, Int.reduceBEq, tyR, lH, S1, a1, lH1, hw, S2, len_new, A2, astore, w1]; with_reducible rfl) rfl (fun K hK ho hn => ?_)
          simp (maxSteps := 1000000) only [stepV, awanted, opsOf, List.getD_cons_succ, List.getD_cons_zero, rulesA, rulesB, numbered, ayield, mapO, constAV, scAV, optval, abin, aint, acmp, aconv, aun, aeq, aminmax, afieldAddr, abuild, anew, fieldPlaces, afill, setSeg, kn_P, Nat.reduceAdd, Nat.reduceMul, Nat.reducePow, Nat.reduceSub, Nat.reduceEqDiff, Nat.reduceLT, Nat.reduceLeDiff, Int.reduceEq, Int.reduceNe, Int.reduceLT, Int.reduceLE, Int.reduceAdd, Int.reduceSub, Int.reduceToNat, Int.reduceBNe, Int.reduceBEq, tyR, killK, List.append_nil, hnew, fresh, hK, Nat.add_zero, S1]
        · refine Lo.mk' (.slice (.own H.length) 3 0 i) [some (.row 60 3 (wS.fl (ts.take i)))] (by simp (maxSteps := 1000000) only [rulesA, rulesB, numbered, ayield, mapO, constAV, scAV, optval, abin, aint, acmp, aconv, aun, aeq, aminmax, afieldAddr, abuild, anew, fieldPlaces, afill, setSeg, kn_P, Nat.reduceAdd, Nat.reduceMul, Nat.reducePow, Nat.reduceSub, Nat.reduceEqDiff, Nat.reduceLT, Nat.reduceLeDiff, Int.reduceEq, Int.reduceNe, Int.reduceLT, Int.reduceLE, Int.reduceAdd, Int.reduceSub, Int.reduceToNat, Int.reduceBNe, Int.reduceBEq, tyR, lH, S1, a1, lH1, hw, S2, len_new, A2, astore, w1]; with_reducible rfl) rfl (fun K hK ho hn => ?_)
          have e := A1 K (ho bm hbl)
          simp (maxSteps := 1000000) only [stepV, awanted, opsOf, List.getD_cons_succ, List.getD_cons_zero, rulesA, rulesB, numbered, ayield, mapO, constAV, scAV, optval, abin, aint, acmp, aconv, aun, aeq, aminmax, afieldAddr, abuild, anew, fieldPlaces, afill, setSeg, kn_P, Nat.reduceAdd, Nat.reduceMul, Nat.reducePow, Nat.reduceSub, Nat.reduceEqDiff, Nat.reduceLT, Nat.reduceLeDiff, Int.reduceEq, Int.reduceNe, Int.reduceLT, Int.reduceLE, Int.reduceAdd, Int.reduceSub, Int.reduceToNat, Int.reduceBNe, Int.reduceBEq, tyR, killK, List.append_nil, hnew, fresh, hK, Nat.add_zero, e]
        · refine Lo.mk' (.slice (.own bm) 3 0 ts.length) [] (by simp (maxSteps := 1000000) only [rulesA, rulesB, numbered, ayield, mapO, constAV, scAV, optval, abin, aint, acmp, aconv, aun, aeq, aminmax, afieldAddr, abuild, anew, fieldPlaces, afill, setSeg, kn_P, Nat.reduceAdd, Nat.reduceMul, Nat.reducePow, Nat.reduceSub, Nat.reduceEqDiff, Nat.reduceLT, Nat.reduceLeDiff, Int.reduceEq, Int.reduceNe, Int.reduceLT, Int.reduceLE, Int.reduceAdd, Int.reduceSub, Int.reduceToNat, Int.reduceBNe, Int.reduceBEq, tyR, lH, S1, a1, lH1, hw, S2, len_new, A2, astore, w1]; with_reducible rfl) rfl (fun K hK ho hn => ?_)
          have e := Lk K (ho pm hpl)
          simp (maxSteps := 1000000) only [stepV, awanted, opsOf, List.getD_cons_succ, List.getD_cons_zero, rulesA, rulesB, numbered, ayield, mapO, constAV, scAV, optval, abin, aint, acmp, aconv, aun, aeq, aminmax, afieldAddr, abuild, anew, fieldPlaces, afill, setSeg, kn_P, Nat.reduceAdd, Nat.reduceMul, Nat.reducePow, Nat.reduceSub, Nat.reduceEqDiff, Nat.reduceLT, Nat.reduceLeDiff, Int.reduceEq, Int.reduceNe, Int.reduceLT, Int.reduceLE, Int.reduceAdd, Int.reduceSub, Int.reduceToNat, Int.reduceBNe, Int.reduceBEq, tyR, killK, List.append_nil, hnew, fresh, hK, Nat.add_zero, e]
        · refine Lo.mk' (.slice (.own (H.length + 1)) 3 0 0) [some (.empty false)] (by simp (maxSteps := 1000000) only [rulesA, rulesB, numbered, ayield, mapO, constAV, scAV, optval, abin, aint, acmp, aconv, aun, aeq, aminmax, afieldAddr, abuild, anew, fieldPlaces, afill, setSeg, kn_P, Nat.reduceAdd, Nat.reduceMul, Nat.reducePow, Nat.reduceSub, Nat.reduceEqDiff, Nat.reduceLT, Nat.reduceLeDiff, Int.reduceEq, Int.reduceNe, Int.reduceLT, Int.reduceLE, Int.reduceAdd, Int.reduceSub, Int.reduceToNat, Int.reduceBNe, Int.reduceBEq, tyR, lH, S1, a1, lH1, hw, S2, len_new, A2, astore, w1]; with_reducible rfl) rfl (fun K hK ho hn => ?_)
          simp (maxSteps := 1000000) only [stepV, awanted, opsOf, List.getD_cons_succ, List.getD_cons_zero, rulesA, rulesB, numbered, ayield, mapO, constAV, scAV, optval, abin, aint, acmp, aconv, aun, aeq, aminmax, afieldAddr, abuild, anew, fieldPlaces, afill, setSeg, kn_P, Nat.reduceAdd, Nat.reduceMul, Nat.reducePow, Nat.reduceSub, Nat.reduceEqDiff, Nat.reduceLT, Nat.reduceLeDiff, Int.reduceEq, Int.reduceNe, Int.reduceLT, Int.reduceLE, Int.reduceAdd, Int.reduceSub, Int.reduceToNat, Int.reduceBNe, Int.reduceBEq, tyR, killK, List.append_nil, hnew, fresh, hK, Nat.add_zero, S2]
        · refine Lo.mk' (.slice (.own H.length) 3 0 i) [] (by simp (maxSteps := 1000000) only [rulesA, rulesB, numbered, ayield, mapO, constAV, scAV, optval, abin, aint, acmp, aconv, aun, aeq, aminmax, afieldAddr, abuild, anew, fieldPlaces, afill, setSeg, kn_P, Nat.reduceAdd, Nat.reduceMul, Nat.reducePow, Nat.reduceSub, Nat.reduceEqDiff, Nat.reduceLT, Nat.reduceLeDiff, Int.reduceEq, Int.reduceNe, Int.reduceLT, Int.reduceLE, Int.reduceAdd, Int.reduceSub, Int.reduceToNat, Int.reduceBNe, Int.reduceBEq, tyR, lH, S1, a1, lH1, hw, S2, len_new, A2, astore, w1]; with_reducible rfl) rfl (fun K hK ho hn => ?_)
          simp (maxSteps := 1000000) only [stepV, awanted, opsOf, List.getD_cons_succ, List.getD_cons_zero, rulesA, rulesB, numbered, ayield, mapO, constAV, scAV, optval, abin, aint, acmp, aconv, aun, aeq, aminmax, afieldAddr, abuild, anew, fieldPlaces, afill, setSeg, kn_P, Nat.reduceAdd, Nat.reduceMul, Nat.reducePow, Nat.reduceSub, Nat.reduceEqDiff, Nat.reduceLT, Nat.reduceLeDiff, Int.reduceEq, Int.reduceNe, Int.reduceLT, Int.reduceLE, Int.reduceAdd, Int.reduceSub, Int.reduceToNat, Int.reduceBNe, Int.reduceBEq, tyR, killK, List.append_nil, hnew, fresh, hK, Nat.add_zero, A2]
      repeat (first | with_reducible refine D.sq ?_ | with_reducible refine D.bl ?_ | with_reducible refine D.skip ?_ | with_reducible refine D.rg (T := none_) (by kernel_rfl) (by simp (maxSteps := 1000000) (disch := omega) only [rulesA, rulesB, numbered, ayield, mapO, constAV, scAV, optval, abin, aint, acmp, aconv, aun, aeq, aminmax, afieldAddr, abuild, anew, fieldPlaces, afill, setSeg, kn_P, Nat.reduceAdd, Nat.reduceMul, Nat.reducePow, Nat.reduceSub, Nat.reduceEqDiff, Nat.reduceLT, Nat.reduceLeDiff, Int.reduceEq, Int.reduceNe, Int.reduceLT, Int.reduceLE, Int.reduceAdd, Int.reduceSub, Int.reduceToNat, Int.reduceBNe, Int.reduceBEq, tyR, rulesC]; with_reducible rfl) ?_ | with_reducible refine D.ct2 (by simp (maxSteps := 1000000) (disch := omega) only [rulesV, numbered, constAV, scAV, Nat.reduceEqDiff, Nat.reduceLT, Nat.reduceLeDiff, rulesC]; with_reducible rfl) (by with_reducible rfl) ?_ | with_reducible refine D.cf2 (by simp (maxSteps := 1000000) (disch := omega) only [rulesV, numbered, constAV, scAV, Nat.reduceEqDiff, Nat.reduceLT, Nat.reduceLeDiff, rulesC]; with_reducible rfl) (by with_reducible rfl) ?_ | with_reducible refine D.exit ?_ | with_reducible refine D.ret ?_ | simp only [rulesK, Nat.reduceEqDiff])
      refine ⟨_, by simp only [resOf, aresult, rulesA, rulesB, numbered, ayield, mapO, constAV, scAV, optval, abin, aint, acmp, aconv, aun, aeq, aminmax, afieldAddr, abuild, anew, fieldPlaces, afill, setSeg, kn_P, Nat.reduceAdd, Nat.reduceMul, Nat.reducePow, Nat.reduceSub, Nat.reduceEqDiff, Nat.reduceLT, Nat.reduceLeDiff, Int.reduceEq, Int.reduceNe, Int.reduceLT, Int.reduceLE, Int.reduceAdd, Int.reduceSub, Int.reduceToNat, Int.reduceBNe, Int.reduceBEq, tyR]; with_reducible rfl, ?_⟩
      have hk : Keep H ((hnew (hnew H (.row 60 3 (wS.fl (ts.take i)))) (.empty false)).set pm (some (.row 37 2 [.int .i64 N, .slice (.own H.length) 3 0 i]))) (MOwn pm (.slice (.own bm) 3 0 ts.length)) := ((Keep.new _ _).trans (Keep.new _ _)).trans' (Keep.set pm _) fun j _ e => .inl e
      have hdr : ts.drop (i + 1) = [] := List.drop_of_length_le (by omega)
      refine ⟨rfl, _, _, ⟨hat_eq _ (by simp [hnew]; omega), .inr ⟨H.length, by rw [hdr, List.append_nil, htl]; rfl, ?_⟩, fun e => by simp [AV.at?] at e; omega⟩, ⟨hk, fun b hb => .inr (by simp [AV.at?] at hb; omega)⟩, htr, hle⟩
      · show hat _ _ = _
        rw [hat_ne _ (by omega), hat_nw _ (by rw [len_new]; omega), hat_nn, hdr, List.append_nil]; rfl
end Go.Proofs.Ytffpahpbgeillaa.sy
