/- Texts of the proof in one file (own work): AmFlat, Jp, Jd, Jw, Jw2, Md. -/
import Derived.Test.YtecfofmndpgnjaaM5
/-
  ROWS OF STRUCTS AS LISTS (own work): each element W cells wide; loads, stores, slices and appends told by the list.
-/
namespace Go.AM
open Go.RowKit
set_option linter.unusedSimpArgs false
set_option linter.unusedVariables false
variable {c : Ctx} {H : AHeap} {α : Type}

/-- how an element stands in cells -/
structure Wd (α : Type) where
  W : Nat
  enc : α → List AV
  pos : 0 < W
  len : ∀ a, (enc a).length = W
  one : ∀ a, (enc a).all AV.one = true
variable {w : Wd α}
def Wd.fl (w : Wd α) (xs : List α) : List AV := xs.flatMap w.enc
theorem Wd.fl_nil : w.fl [] = [] := rfl
theorem Wd.fl_cons (x : α) (xs : List α) : w.fl (x :: xs) = w.enc x ++ w.fl xs := rfl
theorem Wd.fl_app (xs ys : List α) : w.fl (xs ++ ys) = w.fl xs ++ w.fl ys := by simp [Wd.fl]
theorem Wd.fl_len (xs : List α) : (w.fl xs).length = xs.length * w.W := by
  induction xs with
  | nil => simp [Wd.fl]
  | cons x xs ih => rw [fl_cons, List.length_append, w.len, ih, List.length_cons, Nat.succ_mul]; omega
theorem Wd.fl_one (xs : List α) : (w.fl xs).all AV.one = true := by
  simp only [Wd.fl, List.all_eq_true, List.mem_flatMap]
  rintro v ⟨a, _, hv⟩
  exact List.all_eq_true.1 (w.one a) v hv
theorem Wd.fl_take (xs : List α) (n : Nat) : (w.fl xs).take (n * w.W) = w.fl (xs.take n) := by
  induction xs generalizing n with
  | nil => simp [Wd.fl]
  | cons x xs ih =>
    cases n with
    | zero => simp [Wd.fl]
    | succ n =>
      rw [fl_cons, List.take_succ_cons, fl_cons, ← ih, List.take_append, w.len, Nat.succ_mul, List.take_of_length_le (by rw [w.len]; omega), Nat.add_sub_cancel]
theorem Wd.fl_drop (xs : List α) (n : Nat) : (w.fl xs).drop (n * w.W) = w.fl (xs.drop n) := by
  induction xs generalizing n with
  | nil => simp [Wd.fl]
  | cons x xs ih =>
    cases n with
    | zero => simp [Wd.fl]
    | succ n =>
      rw [fl_cons, List.drop_succ_cons, ← ih, List.drop_append, w.len, Nat.succ_mul, List.drop_of_length_le (by rw [w.len]; omega), Nat.add_sub_cancel, List.nil_append]
theorem Wd.fl_split {xs : List α} {i : Nat} (h : i < xs.length) : w.fl xs = w.fl (xs.take i) ++ (w.enc xs[i] ++ w.fl (xs.drop (i + 1))) := by
  rw [← fl_cons, ← fl_app, ← List.drop_eq_getElem_cons h, List.take_append_drop]
theorem Wd.fl_get {xs : List α} {i : Nat} (h : i < xs.length) {j : Nat} (hj : j < w.W) : (w.fl xs)[i * w.W + j]? = (w.enc xs[i])[j]? := by
  have hl : (w.fl (xs.take i)).length = i * w.W := by rw [fl_len, List.length_take, Nat.min_eq_left (by omega)]
  rw [fl_split h, List.getElem?_append_right (by omega), hl, Nat.add_sub_cancel_left, List.getElem?_append_left (by rw [w.len]; exact hj)]
theorem Wd.fl_seg {xs : List α} {i : Nat} (h : i < xs.length) : ((w.fl xs).drop (i * w.W)).take w.W = w.enc xs[i] := by
  rw [fl_drop, List.drop_eq_getElem_cons h, fl_cons, List.take_left' (w.len _)]
theorem set_app {l m : List AV} {i : Nat} {v : AV} (h : l.length ≤ i) : (l ++ m).set i v = l ++ m.set (i - l.length) v := by
  rw [List.set_append_right _ _ h]
theorem take_set' {xs : List α} {i : Nat} {x : α} : (xs.set i x).take i = xs.take i := by
  rw [List.take_set_of_le (Nat.le_refl _)]
theorem drop_set' {xs : List α} {i : Nat} {x : α} : (xs.set i x).drop (i + 1) = xs.drop (i + 1) := by
  rw [List.drop_set_of_lt (by omega)]
theorem Wd.fl_set {xs : List α} {i : Nat} (h : i < xs.length) {j : Nat} (hj : j < w.W) {v : AV} {x : α} (hx : w.enc x = (w.enc xs[i]).set j v) : (w.fl xs).set (i * w.W + j) v = w.fl (xs.set i x) := by
  have hl : (w.fl (xs.take i)).length = i * w.W := by rw [fl_len, List.length_take, Nat.min_eq_left (by omega)]
  have hs : i < (xs.set i x).length := by simpa using h
  rw [fl_split h, fl_split hs, take_set', drop_set', List.getElem_set_self, hx, List.set_append_right _ _ (by omega), hl, Nat.add_sub_cancel_left, List.set_append_left _ _ (by rw [w.len]; exact hj)]
theorem Wd.fl_put {xs : List α} {i : Nat} (h : i < xs.length) (x : α) : setSeg (w.fl xs) (i * w.W) (w.enc x) = w.fl (xs.set i x) := by
  have hs : i < (xs.set i x).length := by simpa using h
  rw [fl_split hs, take_set', drop_set', List.getElem_set_self, setSeg, fl_take, w.len, ← Nat.succ_mul, fl_drop]
theorem setSeg_one {cs : List AV} {i : Nat} (v : AV) (h : i < cs.length) : setSeg cs i [v] = cs.set i v := by
  rw [setSeg, List.set_eq_take_append_cons_drop, if_pos h]; rfl

/-! ### a row behind a block -/
def RowF (H : AHeap) (b : Nat) (e : TypeId) (w : Wd α) (xs : List α) : Prop := hat H b = some (.row e w.W (w.fl xs))
/-- the heap with the row as told -/
def hrow (H : AHeap) (b : Nat) (e : TypeId) (w : Wd α) (xs : List α) : AHeap := H.set b (some (.row e w.W (w.fl xs)))
theorem RowF.lt {b : Nat} {e : TypeId} {xs : List α} (h : RowF H b e w xs) : b < H.length := hat_lt h
theorem RowF.keep {b : Nat} {e : TypeId} {xs : List α} (h : RowF H b e w xs) {H' : AHeap} (k : hat H' b = hat H b) : RowF H' b e w xs := k.trans h
theorem hrow_self {b : Nat} {e : TypeId} {xs : List α} (h : RowF H b e w xs) : hrow H b e w xs = H := by
  refine hat_ext (by simp [hrow]) fun j => ?_
  rw [hrow, hat_setI]
  split
  · rename_i hj; rw [hj.1]; exact h.symm
  · rfl
theorem hrow_len {b : Nat} {e : TypeId} {xs : List α} : (hrow H b e w xs).length = H.length := by simp [hrow]
theorem hrow_at {b : Nat} {e : TypeId} {xs : List α} (hb : b < H.length) : RowF (hrow H b e w xs) b e w xs := by
  show hat (H.set b _) b = _
  rw [hat_eq _ hb]
theorem hrow_ne {b j : Nat} {e : TypeId} {xs : List α} (h : j ≠ b) : hat (hrow H b e w xs) j = hat H j := by rw [hrow, hat_ne _ h]
theorem hrow_set {b : Nat} {e : TypeId} {xs ys : List α} : hrow (hrow H b e w xs) b e w ys = hrow H b e w ys := by simp [hrow, List.set_set]
theorem hrow_keep {b : Nat} {e : TypeId} {xs : List α} : Keep H (hrow H b e w xs) (fun j => j = b) := ⟨by simp [hrow], fun j _ h => hrow_ne h⟩
/-- a field -/
theorem RowF.ld {b : Nat} {e : TypeId} {xs : List α} (h : RowF H b e w xs) {i j : Nat} (hi : i < xs.length) (hj : j < w.W) {t : TypeId} {v : AV} (hv : (w.enc xs[i])[j]? = some v) (ha : isAggT c.P t = some false) : aload c H t (.ptr (.own b) (i * w.W + j)) = some v := by
  simp only [aload, ha, Option.bind_some]
  rw [if_neg (by simp), rd_own h, w.fl_get hi hj, hv]; rfl
/-- a whole element -/
theorem RowF.ldA {b : Nat} {e : TypeId} {xs : List α} (h : RowF H b e w xs) {i : Nat} (hi : i < xs.length) {t : TypeId} (ha : isAggT c.P t = some true) (hs : szOf c.P t = some w.W) : aload c H t (.ptr (.own b) (i * w.W)) = some (.agg (w.enc xs[i])) := by
  simp only [aload, ha, hs, Option.bind_some, if_true, rd, rowOf]
  rw [show hat H b = _ from h]
  simp only [Option.bind_some]
  have hle : i * w.W + w.W ≤ (w.fl xs).length := by rw [w.fl_len, ← Nat.succ_mul]; exact Nat.mul_le_mul_right _ hi
  rw [if_pos hle, w.fl_seg hi]; rfl
/-- a field put -/
theorem RowF.st {b : Nat} {e : TypeId} {xs : List α} (h : RowF H b e w xs) {i j : Nat} (hi : i < xs.length) (hj : j < w.W) {v : AV} (h1 : v.one = true) {x : α} (hx : w.enc x = (w.enc xs[i]).set j v) : wr H (.own b) (i * w.W + j) [v] = some (hrow H b e w (xs.set i x)) := by
  have hle : i * w.W + j < (w.fl xs).length := by
    rw [w.fl_len]
    have := Nat.mul_le_mul_right w.W (show i + 1 ≤ xs.length by omega)
    rw [Nat.succ_mul] at this; omega
  simp only [wr]
  rw [show hat H b = _ from h]
  simp only []
  rw [if_pos ⟨by simp; omega, by simp [h1]⟩, setSeg_one _ hle, w.fl_set hi hj hx]; rfl
/-- a whole element put -/
theorem RowF.stA {b : Nat} {e : TypeId} {xs : List α} (h : RowF H b e w xs) {i : Nat} (hi : i < xs.length) (x : α) : wr H (.own b) (i * w.W) (w.enc x) = some (hrow H b e w (xs.set i x)) := by
  have hle : i * w.W + w.W ≤ (w.fl xs).length := by rw [w.fl_len, ← Nat.succ_mul]; exact Nat.mul_le_mul_right _ hi
  simp only [wr]
  rw [show hat H b = _ from h]
  simp only []
  rw [if_pos ⟨by rw [w.len]; exact hle, w.one x⟩, w.fl_put hi]; rfl

/-! ### slices of structs, as lists -/
def SlF (c : Ctx) (H : AHeap) (w : Wd α) (v : AV) (xs : List α) : Prop :=
  ((v = .nilslice ∨ ∃ a, v = .odd a) ∧ xs = []) ∨ ∃ l st, v = .slice l w.W st xs.length ∧ (xs ≠ [] → ∃ cs, rowOf c H l = some cs ∧ (cs.drop (st * w.W)).take (xs.length * w.W) = w.fl xs)
def ptrF (w : Wd α) (v : AV) (i : Nat) : AV := match v with | .slice l _ st _ => .ptr l ((st + i) * w.W) | _ => .nilptr
def ptrJ (w : Wd α) (v : AV) (i j : Nat) : AV := match v with | .slice l _ st _ => .ptr l ((st + i) * w.W + j) | _ => .nilptr
theorem SlF.nil : SlF c H w .nilslice [] := .inl ⟨.inl rfl, rfl⟩
theorem SlF.len {v : AV} {xs : List α} (h : SlF c H w v xs) {t e : TypeId} (ht : c.P.underlying t = some (.slice e)) : alen c H t v = some (.int .i64 xs.length) := by
  rcases h with ⟨rfl | ⟨a, rfl⟩, rfl⟩ | ⟨l, st, rfl, _⟩
  · simp [alen, ht]
  · simp [alen, ht]
  · simp [alen, ht]
theorem SlF.ia {v : AV} {xs : List α} (h : SlF c H w v xs) {t e : TypeId} (ht : c.P.underlying t = some (.slice e)) (hs : szOf c.P e = some w.W) {i : Nat} (hi : i < xs.length) (k : IntKind) : aindexAddr c t v (.int k (i : Int)) = some (ptrF w v i) := by
  rcases h with ⟨_, rfl⟩ | ⟨l, st, rfl, _⟩
  · simp at hi
  · simp only [aindexAddr, ht, Option.bind_some, hs, ptrF]
    rw [if_pos ⟨by simp, by omega, by omega⟩]
    simp
theorem SlF.fa {v : AV} {xs : List α} (h : SlF c H w v xs) {i : Nat} (hi : i < xs.length) {s : TypeId} {fs : Array Field} (hs : c.P.underlying s = some (.struct fs)) {f : Nat} {g : Field} (hg : fs[f]? = some g) {n : Nat} (hn : szOf c.P g.type = some n) (h0 : n ≠ 0) : afieldAddr c s (ptrF w v i) f = some (ptrJ w v i g.offset) := by
  rcases h with ⟨_, rfl⟩ | ⟨l, st, rfl, _⟩
  · simp at hi
  · simp only [ptrF, ptrJ, afieldAddr, hs, Option.bind_some, hg, hn, if_neg h0]
theorem SlF.at {v : AV} {xs : List α} (h : SlF c H w v xs) (h0 : xs ≠ []) : ∃ l st cs, v = .slice l w.W st xs.length ∧ rowOf c H l = some cs ∧ (cs.drop (st * w.W)).take (xs.length * w.W) = w.fl xs ∧ st * w.W + xs.length * w.W ≤ cs.length := by
  rcases h with ⟨_, rfl⟩ | ⟨l, st, rfl, hx⟩
  · exact absurd rfl h0
  · obtain ⟨cs, hr, hc⟩ := hx h0
    refine ⟨l, st, cs, rfl, hr, hc, ?_⟩
    have h2 := congrArg List.length hc
    rw [w.fl_len, List.length_take, List.length_drop] at h2
    have h3 : 0 < xs.length * w.W := Nat.mul_pos (List.length_pos_iff.2 h0) w.pos
    omega
theorem SlF.ld {v : AV} {xs : List α} (h : SlF c H w v xs) {i j : Nat} (hi : i < xs.length) (hj : j < w.W) {t : TypeId} {u : AV} (hv : (w.enc xs[i])[j]? = some u) (ha : isAggT c.P t = some false) : aload c H t (ptrJ w v i j) = some u := by
  obtain ⟨l, st, cs, rfl, hr, hc, _⟩ := h.at (by intro e; rw [e] at hi; simp at hi)
  simp only [ptrJ, aload, ha, Option.bind_some]
  rw [if_neg (by simp), rd_row hr]
  have h1 : cs[(st + i) * w.W + j]? = some u := by
    have h2 := congrArg (fun l => l[i * w.W + j]?) hc
    have hlt : i * w.W + j < xs.length * w.W := by
      have := Nat.mul_le_mul_right w.W (show i + 1 ≤ xs.length by omega)
      rw [Nat.succ_mul] at this; omega
    simp only [List.getElem?_take, if_pos hlt, List.getElem?_drop, w.fl_get hi hj, hv] at h2
    rw [← h2, Nat.add_mul]; congr 1; omega
  rw [h1]; rfl
theorem SlF.ldA {v : AV} {xs : List α} (h : SlF c H w v xs) {i : Nat} (hi : i < xs.length) {t : TypeId} (ha : isAggT c.P t = some true) (hs : szOf c.P t = some w.W) : aload c H t (ptrF w v i) = some (.agg (w.enc xs[i])) := by
  obtain ⟨l, st, cs, rfl, hr, hc, hl⟩ := h.at (by intro e; rw [e] at hi; simp at hi)
  have hle : (st + i) * w.W + w.W ≤ cs.length := by
    have := Nat.mul_le_mul_right w.W (show i + 1 ≤ xs.length by omega)
    rw [Nat.succ_mul] at this
    rw [Nat.add_mul]; omega
  simp only [ptrF, aload, ha, hs, Option.bind_some, if_true, rd, hr, if_pos hle, Option.map_some]
  congr 2
  rw [← w.fl_seg hi, ← hc, List.drop_take, List.take_take, List.drop_drop, Nat.add_mul, Nat.min_eq_left]
  have := Nat.mul_le_mul_right w.W (show i + 1 ≤ xs.length by omega)
  rw [Nat.succ_mul] at this; omega
theorem SlF.ext {v : AV} {xs : List α} (h : SlF c H w v xs) {H' : AHeap} (hk : ∀ b, v.at? = some b → hat H' b = hat H b) : SlF c H' w v xs := by
  rcases h with h | ⟨l, st, rfl, hx⟩
  · exact .inl h
  · refine .inr ⟨l, st, rfl, fun hn => ?_⟩
    obtain ⟨cs, hr, hc⟩ := hx hn
    refine ⟨cs, ?_, hc⟩
    cases l with
    | own b => simp only [rowOf, hk b rfl] at hr ⊢; exact hr
    | ext p => exact hr
theorem SlF.keep {v : AV} {xs : List α} (h : SlF c H w v xs) {H' : AHeap} {S : Nat → Prop} (hk : Keep H H' S) (hv : ∀ b, v.at? = some b → b < H.length ∧ ¬ S b) : SlF c H' w v xs :=
  h.ext fun b hb => hk.2 b (hv b hb).1 (hv b hb).2
theorem SlF.one {v : AV} {xs : List α} (h : SlF c H w v xs) : v.one = true ∧ v.cells = [v] := by
  rcases h with ⟨rfl | ⟨a, rfl⟩, _⟩ | ⟨l, st, rfl, _⟩ <;> exact ⟨rfl, rfl⟩
theorem SlF.src {v : AV} {xs : List α} (h : SlF c H w v xs) : source c H w.W v = some (xs.length, w.fl xs) := by
  rcases h with ⟨rfl | ⟨a, rfl⟩, rfl⟩ | ⟨l, st, rfl, hx⟩
  · rfl
  · rfl
  · by_cases h0 : xs = []
    · subst h0; simp [source, Wd.fl]
    · obtain ⟨l', st', cs, e, hr, hc, hl⟩ := SlF.at (c := c) (H := H) (.inr ⟨l, st, rfl, hx⟩) h0
      cases e
      have hne : xs.length ≠ 0 := by simpa using h0
      simp only [source, if_true, if_neg hne, rd, hr, Option.bind_some, if_pos hl, hc, Option.map_some]

/-- a row of one's own from its start -/
def OwnF (H : AHeap) (w : Wd α) (v : AV) (e : TypeId) (xs : List α) : Prop :=
  (v = .nilslice ∧ xs = []) ∨ ∃ b, v = .slice (.own b) w.W 0 xs.length ∧ RowF H b e w xs
theorem OwnF.nil {e : TypeId} : OwnF H w .nilslice e [] := .inl ⟨rfl, rfl⟩
theorem OwnF.sl {v : AV} {e : TypeId} {xs : List α} (h : OwnF H w v e xs) : SlF c H w v xs := by
  rcases h with h | ⟨b, rfl, hb⟩
  · exact .inl ⟨.inl h.1, h.2⟩
  · refine .inr ⟨.own b, 0, rfl, fun _ => ⟨w.fl xs, by simp only [rowOf]; rw [show hat H b = _ from hb], ?_⟩⟩
    rw [Nat.zero_mul, List.drop_zero, ← w.fl_len, List.take_length]
theorem OwnF.lt {v : AV} {e : TypeId} {xs : List α} (h : OwnF H w v e xs) {b : Nat} (hb : v.at? = some b) : b < H.length := by
  rcases h with ⟨rfl, _⟩ | ⟨b', rfl, h⟩
  · simp [AV.at?] at hb
  · simp only [AV.at?, Option.some.injEq] at hb; subst hb; exact h.lt
theorem OwnF.keep {v : AV} {e : TypeId} {xs : List α} (h : OwnF H w v e xs) {H' : AHeap} (hk : ∀ b, v.at? = some b → hat H' b = hat H b) : OwnF H' w v e xs := by
  rcases h with h | ⟨b, rfl, h⟩
  · exact .inl h
  · exact .inr ⟨b, rfl, h.keep (hk b rfl)⟩
theorem aslice_lo {v : AV} {xs : List α} (h : SlF c H w v xs) (hno : ∀ a, v ≠ .odd a) {t e : TypeId} (ht : c.P.underlying t = some (.slice e)) (hs : szOf c.P e = some w.W) {a : Nat} (ha : a ≤ xs.length) {k : IntKind} : ∃ u, aslice c H t v none (some (.int k (a : Int))) none = some (u, H) ∧ SlF c H w u (xs.take a) ∧ u.at? = v.at? ∧ (∀ a, u ≠ .odd a) := by
  rcases h with ⟨rfl | ⟨q, rfl⟩, rfl⟩ | ⟨l, st, rfl, hx⟩
  · obtain rfl : a = 0 := by simpa using ha
    exact ⟨.nilslice, by simp [aslice, ht, hs, abound], .inl ⟨.inl rfl, by simp⟩, rfl, by simp⟩
  · exact absurd rfl (hno q)
  · refine ⟨.slice l w.W st a, ?_, .inr ⟨l, st, by rw [List.length_take, Nat.min_eq_left ha], fun h0 => ?_⟩, by cases l <;> rfl, by simp⟩
    · simp only [aslice, ht, hs, Option.bind_some, abound, ne_eq, not_true, if_false, Int.toNat_natCast]
      rw [if_pos (by omega)]
      simp [ha]
    · have hne : xs ≠ [] := by rintro rfl; simp at h0
      obtain ⟨cs, hr, hc⟩ := hx hne
      refine ⟨cs, hr, ?_⟩
      rw [List.length_take, Nat.min_eq_left ha, ← w.fl_take, ← hc, List.take_take, Nat.min_eq_left (Nat.mul_le_mul_right _ ha)]
theorem aslice_hi {v : AV} {xs : List α} (h : SlF c H w v xs) (hno : ∀ a, v ≠ .odd a) {t e : TypeId} (ht : c.P.underlying t = some (.slice e)) (hs : szOf c.P e = some w.W) {a : Nat} (ha : a < xs.length) {k : IntKind} : ∃ u, aslice c H t v (some (.int k (a : Int))) none none = some (u, H) ∧ SlF c H w u (xs.drop a) ∧ u.at? = v.at? ∧ (∀ a, u ≠ .odd a) := by
  obtain ⟨l, st, cs, rfl, hr, hc, hl⟩ := h.at (by intro e; rw [e] at ha; simp at ha)
  refine ⟨.slice l w.W (st + a) (xs.length - a), ?_, .inr ⟨l, st + a, by rw [List.length_drop], fun h0 => ⟨cs, hr, ?_⟩⟩, by cases l <;> rfl, by simp⟩
  · simp only [aslice, ht, hs, Option.bind_some, abound, ne_eq, not_true, if_false, Int.toNat_natCast]
    rw [if_pos (by omega)]
    simp only [show a ≤ xs.length by omega, Nat.le_refl, true_or, and_self, if_true, ha, Option.bind_some]
    by_cases h0 : a = 0
    · subst h0; simp
    · rw [if_neg h0]
  · rw [List.length_drop, ← w.fl_drop, ← hc, List.drop_take, List.drop_drop, Nat.add_mul, Nat.sub_mul]
/-- 'v[a:]' at its end -/
theorem aslice_end {v : AV} {xs : List α} (h : SlF c H w v xs) (hx : xs ≠ []) {t e : TypeId} (ht : c.P.underlying t = some (.slice e)) (hs : szOf c.P e = some w.W) {k : IntKind} : aslice c H t v (some (.int k ((xs.length : Nat) : Int))) none none = some (.slice (fresh H) w.W 0 0, hnew H (.empty false)) := by
  obtain ⟨l, st, cs, rfl, hr, hc, hl⟩ := h.at hx
  simp only [aslice, ht, hs, Option.bind_some, abound, ne_eq, not_true, if_false, Int.toNat_natCast]
  have h0 : xs.length ≠ 0 := by simpa using hx
  rw [if_pos (by omega)]
  simp [h0]
theorem SlF.empty {l : Loc} {st : Nat} : SlF c H w (.slice l w.W st 0) [] := .inr ⟨l, st, by simp, fun h => absurd rfl h⟩

/-- an append of what another slice has -/
theorem app_nil {t e : TypeId} {k : Nat} {z : List AV} (ht : c.P.underlying t = some (.slice e)) (hi : infoSB c.P e = some (w.W, k)) (hz : zeroCells c.P e = some z) (hzl : z.length = w.W) (hk : 0 < k) {x : AV} {ys : List α} (hx : SlF c H w x ys) (hn : ys.length * k ≤ 2 ^ 47) :
    aappend c H t .nilslice x = if ys = [] then some (.nilslice, H) else some (.slice (fresh H) w.W 0 ys.length, hnew H (.row e w.W (w.fl ys))) := by
  rw [aappend_eq]
  simp only [aappend2, ht, Option.bind_some, hi, hz]
  rw [if_pos ⟨w.pos, hk, hzl⟩, hx.src]
  simp only [Option.bind_some]
  by_cases h0 : ys = []
  · subst h0; simp
  · rw [if_neg (by simpa using h0), if_neg h0, if_pos ⟨hn, w.fl_one ys⟩]
theorem app_own {t e : TypeId} {k : Nat} {z : List AV} (ht : c.P.underlying t = some (.slice e)) (hi : infoSB c.P e = some (w.W, k)) (hz : zeroCells c.P e = some z) (hzl : z.length = w.W) (hk : 0 < k) {b : Nat} {xs : List α} (hb : RowF H b e w xs) {x : AV} {ys : List α} (hx : SlF c H w x ys) (hn : (xs.length + ys.length) * k ≤ 2 ^ 47) :
    aappend c H t (.slice (.own b) w.W 0 xs.length) x = if ys = [] then some (.slice (.own b) w.W 0 xs.length, H) else some (.slice (fresh H) w.W 0 (xs.length + ys.length), hnew (H.set b none) (.row e w.W (w.fl (xs ++ ys)))) := by
  rw [aappend_eq]
  simp only [aappend2, ht, Option.bind_some, hi, hz]
  rw [if_pos ⟨w.pos, hk, hzl⟩, hx.src]
  simp only [Option.bind_some]
  by_cases h0 : ys = []
  · subst h0; simp
  · have hlen : ys.length ≠ 0 := by simpa using h0
    rw [if_neg hlen, if_neg h0, if_pos ⟨by trivial, w.fl_one ys⟩, show hat H b = _ from hb]
    simp only []
    have hl := w.fl_len xs
    rw [if_pos ⟨by trivial, by trivial, by rw [hl]; simp⟩, if_neg ?_, if_pos hn]
    · simp only [fresh, List.length_set, w.fl_app, Nat.zero_mul, List.drop_zero]
      rw [← hl, List.take_length]
    · rw [hl, Nat.zero_add, Nat.add_mul]
      have := Nat.mul_pos (Nat.pos_of_ne_zero hlen) w.pos
      omega
/-- 's = append(s, ys...)', a row of one's own -/
theorem OwnF.app {v : AV} {e : TypeId} {xs : List α} (h : OwnF H w v e xs) {t : TypeId} {k : Nat} {z : List AV} (ht : c.P.underlying t = some (.slice e)) (hi : infoSB c.P e = some (w.W, k)) (hz : zeroCells c.P e = some z) (hzl : z.length = w.W) (hk : 0 < k) {x : AV} {ys : List α} (hx : SlF c H w x ys) (h0 : ys ≠ []) (hn : (xs.length + ys.length) * k ≤ 2 ^ 47) :
    ∃ v' H', aappend c H t v x = some (v', H') ∧ OwnF H' w v' e (xs ++ ys) ∧ Keep H H' (fun j => v.at? = some j) ∧ v'.at? = some H.length ∧ H'.length = H.length + 1 := by
  rcases h with ⟨rfl, rfl⟩ | ⟨b, rfl, hb⟩
  · exact ⟨.slice (fresh H) w.W 0 ys.length, hnew H (.row e w.W (w.fl ys)), by rw [app_nil ht hi hz hzl hk hx (by simpa using hn), if_neg h0], .inr ⟨H.length, rfl, hat_nn _⟩, Keep.new _ _, rfl, by rw [len_new]⟩
  · refine ⟨.slice (fresh H) w.W 0 (xs.length + ys.length), hnew (H.set b none) (.row e w.W (w.fl (xs ++ ys))), by rw [app_own ht hi hz hzl hk hb hx hn, if_neg h0], .inr ⟨H.length, by simp [fresh], ?_⟩, ?_, rfl, by rw [len_new]; simp⟩
    · have := hat_nn (H := H.set b none) (.row e w.W (w.fl (xs ++ ys)))
      rw [List.length_set] at this
      exact this
    · refine ⟨by rw [len_new]; simp, fun j hj hne => ?_⟩
      rw [hat_nw _ (by simpa using hj), hat_ne _ (fun e => hne (by rw [e]; rfl))]
/-- one new element in a row of its own, as 'append' gets it -/
theorem SlF.single {x : α} {e : TypeId} : SlF c (hnew H (.row e w.W (w.enc x))) w (.slice (.own H.length) w.W 0 1) [x] :=
  OwnF.sl (e := e) (.inr ⟨H.length, rfl, by show hat _ _ = _; rw [hat_nn]; simp [Wd.fl]⟩)
end Go.AM
namespace Go.AM
open Go.RowKit
set_option linter.unusedSimpArgs false
set_option linter.unusedVariables false
variable {c : Ctx} {H : AHeap} {α : Type} {w : Wd α}
/-- a part of a row -/
theorem RowF.part {b : Nat} {e : TypeId} {xs : List α} (h : RowF H b e w xs) {a m : Nat} (ham : a + m ≤ xs.length) : SlF c H w (.slice (.own b) w.W a m) ((xs.drop a).take m) := by
  refine .inr ⟨.own b, a, by simp; omega, fun _ => ⟨w.fl xs, by simp only [rowOf]; rw [show hat H b = _ from h], ?_⟩⟩
  rw [w.fl_drop, show ((xs.drop a).take m).length = m by simp; omega, w.fl_take]
theorem asl_lo {t e : TypeId} (ht : c.P.underlying t = some (.slice e)) {z : Nat} (hs : szOf c.P e = some z) {l : Loc} {n i : Nat} (hi : i ≤ n) {k : IntKind} : aslice c H t (.slice l z 0 n) none (some (.int k (i : Int))) none = some (.slice l z 0 i, H) := by
  simp only [aslice, ht, hs, Option.bind_some, abound, ne_eq, not_true, if_false, Int.toNat_natCast]
  rw [if_pos (by omega)]
  simp [hi]
theorem asl_hi {t e : TypeId} (ht : c.P.underlying t = some (.slice e)) {z : Nat} (hs : szOf c.P e = some z) {l : Loc} {n i : Nat} (hi : i < n) {k : IntKind} : aslice c H t (.slice l z 0 n) (some (.int k (i : Int))) none none = some (.slice l z i (n - i), H) := by
  simp only [aslice, ht, hs, Option.bind_some, abound, ne_eq, not_true, if_false, Int.toNat_natCast]
  rw [if_pos (by omega)]
  simp only [show i ≤ n by omega, Nat.le_refl, true_or, and_self, if_true, hi, Option.bind_some, Nat.zero_add]
  by_cases h0 : i = 0
  · subst h0; simp
  · rw [if_neg h0]
theorem asl_end {t e : TypeId} (ht : c.P.underlying t = some (.slice e)) {z : Nat} (hs : szOf c.P e = some z) {l : Loc} {n : Nat} (h0 : 0 < n) {k : IntKind} : aslice c H t (.slice l z 0 n) (some (.int k (n : Int))) none none = some (.slice (fresh H) z 0 0, hnew H (.empty false)) := by
  simp only [aslice, ht, hs, Option.bind_some, abound, ne_eq, not_true, if_false, Int.toNat_natCast]
  rw [if_pos (by omega)]
  simp [show ¬ n = 0 by omega]
theorem asl_nil_lo {t e : TypeId} (ht : c.P.underlying t = some (.slice e)) {z : Nat} (hs : szOf c.P e = some z) {k : IntKind} : aslice c H t .nilslice none (some (.int k ((0 : Nat) : Int))) none = some (.nilslice, H) := by
  simp [aslice, ht, hs, abound]
theorem asl_nil_hi {t e : TypeId} (ht : c.P.underlying t = some (.slice e)) {z : Nat} (hs : szOf c.P e = some z) {k : IntKind} : aslice c H t .nilslice (some (.int k ((0 : Nat) : Int))) none none = some (.nilslice, H) := by
  simp [aslice, ht, hs, abound]
/-- one step of a region that draws its order, as 'D.local' asks for it -/
theorem Lo.mk' {κ : Kn} {T : FuncId → Spec} {ops : Array Oper} {env : AEnv} {u : Lo} {ej : AEnv} {Hj : AHeap} (v : AV) (news : AHeap) (h1 : asteps κ.c (callT κ T) ops.toList (ops.toList.take u.j) env H = some (ej, Hj)) (h2 : news.length = u.makes)
    (h3 : ∀ K : AHeap, K.length = H.length + u.ahead → (∀ b, b < H.length → hat K b = hat H b) → (∀ b ∈ u.need, hat K (H.length + b) = hat Hj (H.length + b)) → stepV κ.c (callT κ T) ops.toList (opsOf ops.toList u.j) ej K = some (some v, killK H u.kill K ++ news)) :
    ∃ ej Hj v news, asteps κ.c (callT κ T) ops.toList (ops.toList.take u.j) env H = some (ej, Hj) ∧ news.length = u.makes ∧ ∀ K : AHeap, K.length = H.length + u.ahead → (∀ b, b < H.length → hat K b = hat H b) → (∀ b ∈ u.need, hat K (H.length + b) = hat Hj (H.length + b)) → stepV κ.c (callT κ T) ops.toList (opsOf ops.toList u.j) ej K = some (v, killK H u.kill K ++ news) :=
  ⟨ej, Hj, some v, news, h1, h2, h3⟩
end Go.AM

/- jobs (own work): tasks as a list by id; what each deed does to it. No program in sight. -/
namespace Go.AM.Jb
open Go.AM
set_option linter.unusedSimpArgs false
set_option linter.unusedVariables false
structure Tk where
  id : Int
  e : Int
  p : Int
  sp : Bool
  lv : Bool
  wt : Bool
  ac : Bool
  rl : Int
  gt : Int
  dn : Bool
  ct : Int
def encT (t : Tk) : List AV := [.int .i64 t.id, .int .i64 t.e, .int .i64 t.p, .bool t.sp, .bool t.lv, .bool t.wt, .bool t.ac, .int .i64 t.rl, .int .i64 t.gt, .bool t.dn, .int .i64 t.ct]
def wT : Wd Tk := ⟨11, encT, by decide, fun _ => rfl, fun _ => rfl⟩
theorem wT_W : wT.W = 11 := rfl
theorem wT_enc (t : Tk) : wT.enc t = encT t := rfl
def tk0 : Tk := ⟨0, 0, 0, false, false, false, false, 0, 0, false, 0⟩
def new1 (id e p : Int) (sp : Bool) : Tk := ⟨id, e, p, sp, false, false, false, 0, 0, false, 0⟩

def tf (ts : List Tk) (id : Int) : Option Tk := ts.find? fun t => t.id == id
def tset (ts : List Tk) (t' : Tk) : List Tk := ts.map fun t => if t.id = t'.id then t' else t
def tdel (ts : List Tk) (id : Int) : List Tk := ts.filter fun t => t.id != id
def tins (ts : List Tk) (t : Tk) : List Tk := ts.takeWhile (fun x => decide (x.id < t.id)) ++ t :: ts.dropWhile (fun x => decide (x.id < t.id))
def Srt (ts : List Tk) : Prop := ts.Pairwise fun a b => a.id < b.id

theorem tf_some {ts : List Tk} {id : Int} {t : Tk} (h : tf ts id = some t) : t ∈ ts ∧ t.id = id := ⟨List.mem_of_find?_eq_some h, by simpa using List.find?_some h⟩
theorem tf_none {ts : List Tk} {id : Int} : tf ts id = none ↔ ∀ t ∈ ts, t.id ≠ id := by simp [tf]
theorem Srt.uniq {ts : List Tk} (h : Srt ts) {a b : Tk} (ha : a ∈ ts) (hb : b ∈ ts) (e : a.id = b.id) : a = b := by
  induction ts with
  | nil => cases ha
  | cons x r ih =>
    obtain ⟨h1, h2⟩ := List.pairwise_cons.1 h
    rcases List.mem_cons.1 ha with rfl | ha' <;> rcases List.mem_cons.1 hb with rfl | hb'
    · rfl
    · have := h1 b hb'; omega
    · have := h1 a ha'; omega
    · exact ih h2 ha' hb'
theorem Srt.tf {ts : List Tk} (h : Srt ts) {t : Tk} (ht : t ∈ ts) : tf ts t.id = some t := by
  cases hq : Jb.tf ts t.id with
  | none => exact absurd rfl (tf_none.1 hq t ht)
  | some u => obtain ⟨h1, h2⟩ := tf_some hq; rw [h.uniq h1 ht h2]
theorem tset_srt {ts : List Tk} (h : Srt ts) (t : Tk) : Srt (tset ts t) := by
  unfold Srt tset
  rw [List.pairwise_map]
  exact h.imp fun {a b} hab => by split <;> split <;> (try simp_all) <;> omega
theorem tset_mem {ts : List Tk} {t x : Tk} : x ∈ tset ts t → (x = t ∧ ∃ u ∈ ts, u.id = t.id) ∨ (x ∈ ts ∧ x.id ≠ t.id) := by
  intro h
  obtain ⟨u, hu, rfl⟩ := List.mem_map.1 h
  split
  · rename_i e; exact .inl ⟨rfl, u, hu, e⟩
  · rename_i e; exact .inr ⟨hu, e⟩
theorem tset_of {ts : List Tk} {t x : Tk} (h : (x = t ∧ ∃ u ∈ ts, u.id = t.id) ∨ (x ∈ ts ∧ x.id ≠ t.id)) : x ∈ tset ts t := by
  rcases h with ⟨rfl, u, hu, e⟩ | ⟨h, e⟩
  · exact List.mem_map.2 ⟨u, hu, if_pos e⟩
  · exact List.mem_map.2 ⟨x, h, if_neg e⟩
theorem tset_ids {ts : List Tk} {t : Tk} : (tset ts t).map Tk.id = ts.map Tk.id := by
  unfold tset
  rw [List.map_map]
  apply List.map_congr_left
  intro a _
  simp only [Function.comp]
  split <;> simp_all
theorem tset_len {ts : List Tk} {t : Tk} : (tset ts t).length = ts.length := by simp [tset]
theorem Srt.set {ts : List Tk} (h : Srt ts) {i : Nat} (hi : i < ts.length) {t : Tk} (e : ts[i].id = t.id) : tset ts t = ts.set i t := by
  apply List.ext_getElem (by simp [tset])
  intro j h1 h2
  have hj : j < ts.length := by simpa [tset] using h1
  simp only [tset, List.getElem_map, List.getElem_set]
  by_cases hij : i = j
  · subst hij; rw [if_pos e, if_pos rfl]
  · rw [if_neg hij, if_neg]
    intro e2
    have hp := List.pairwise_iff_getElem.1 h
    rcases Nat.lt_or_ge i j with h3 | h3
    · have := hp i j hi hj h3; omega
    · have := hp j i hj hi (by omega); omega
theorem tdel_srt {ts : List Tk} (h : Srt ts) (id : Int) : Srt (tdel ts id) := h.sublist List.filter_sublist
theorem tdel_mem {ts : List Tk} {id : Int} {x : Tk} : x ∈ tdel ts id ↔ x ∈ ts ∧ x.id ≠ id := by simp [tdel]
theorem Srt.del {ts : List Tk} (h : Srt ts) {i : Nat} (hi : i < ts.length) {id : Int} (e : ts[i].id = id) : tdel ts id = ts.take i ++ ts.drop (i + 1) := by
  have hp := List.pairwise_iff_getElem.1 h
  conv => lhs; rw [← List.take_append_drop i ts, List.drop_eq_getElem_cons hi]
  unfold tdel
  rw [List.filter_append, List.filter_cons, if_neg (by simp [e])]
  congr 1
  · rw [List.filter_eq_self]
    intro a ha
    obtain ⟨j, hj, rfl⟩ := List.getElem_of_mem ha
    rw [List.getElem_take]
    have hjt : j < i := by simp at hj; omega
    have := hp j i (by omega) hi hjt
    simp; omega
  · rw [List.filter_eq_self]
    intro a ha
    obtain ⟨j, hj, rfl⟩ := List.getElem_of_mem ha
    rw [List.getElem_drop]
    have hjt : i + 1 + j < ts.length := by simp at hj; omega
    have := hp i (i + 1 + j) hi hjt (by omega)
    simp; omega
theorem tdel_len {ts : List Tk} (h : Srt ts) {id : Int} {t : Tk} (ht : tf ts id = some t) : (tdel ts id).length + 1 = ts.length := by
  obtain ⟨h1, h2⟩ := tf_some ht
  obtain ⟨i, hi, he⟩ := List.getElem_of_mem h1
  rw [h.del hi (by rw [he]; exact h2)]
  simp; omega
theorem tins_mem {ts : List Tk} {t x : Tk} : x ∈ tins ts t ↔ x = t ∨ x ∈ ts := by
  unfold tins
  rw [List.mem_append, List.mem_cons]
  have : x ∈ ts ↔ x ∈ ts.takeWhile (fun x => decide (x.id < t.id)) ∨ x ∈ ts.dropWhile (fun x => decide (x.id < t.id)) := by
    rw [← List.mem_append, List.takeWhile_append_dropWhile]
  rw [this]
  constructor
  · rintro (h | h | h)
    · exact .inr (.inl h)
    · exact .inl h
    · exact .inr (.inr h)
  · rintro (h | h | h)
    · exact .inr (.inl h)
    · exact .inl h
    · exact .inr (.inr h)
theorem tins_len {ts : List Tk} {t : Tk} : (tins ts t).length = ts.length + 1 := by
  unfold tins
  have := congrArg List.length (List.takeWhile_append_dropWhile (p := fun x : Tk => decide (x.id < t.id)) (l := ts))
  simp only [List.length_append, List.length_cons] at this ⊢
  omega
theorem tins_at {ts : List Tk} (h : Srt ts) {t : Tk} {i : Nat} (hi : i ≤ ts.length) (h1 : ∀ j (hj : j < ts.length), j < i → ts[j].id < t.id) (h2 : ∀ hj : i < ts.length, ¬ ts[i].id < t.id) : tins ts t = ts.take i ++ t :: ts.drop i := by
  have key : ∀ (ts : List Tk) (i : Nat), i ≤ ts.length → (∀ j (hj : j < ts.length), j < i → ts[j].id < t.id) → (∀ hj : i < ts.length, ¬ ts[i].id < t.id) → ts.takeWhile (fun x => decide (x.id < t.id)) = ts.take i ∧ ts.dropWhile (fun x => decide (x.id < t.id)) = ts.drop i := by
    intro ts
    induction ts with
    | nil => intro i hi _ _; simp
    | cons x r ih =>
      intro i hi h1 h2
      cases i with
      | zero =>
        have := h2 (by simp)
        simp only [List.getElem_cons_zero] at this
        simp [List.takeWhile_cons, List.dropWhile_cons, this]
      | succ i =>
        have hx := h1 0 (by simp) (by omega)
        simp only [List.getElem_cons_zero] at hx
        obtain ⟨a1, a2⟩ := ih i (by simpa using hi) (fun j hj hji => by have := h1 (j + 1) (by simpa using hj) (by omega); simpa using this) (fun hj => by have := h2 (by simpa using hj); simpa using this)
        simp [List.takeWhile_cons, List.dropWhile_cons, hx, a1, a2]
  obtain ⟨a1, a2⟩ := key ts i hi h1 h2
  rw [tins, a1, a2]
theorem tins_srt {ts : List Tk} (h : Srt ts) {t : Tk} (hn : tf ts t.id = none) : Srt (tins ts t) := by
  have hn' := tf_none.1 hn
  unfold Srt tins
  have hts : (ts.takeWhile (fun x => decide (x.id < t.id)) ++ ts.dropWhile (fun x => decide (x.id < t.id))).Pairwise (fun a b : Tk => a.id < b.id) := by
    rw [List.takeWhile_append_dropWhile]; exact h
  obtain ⟨p1, p2, p3⟩ := List.pairwise_append.1 hts
  have hd : ∀ x ∈ ts.dropWhile (fun x => decide (x.id < t.id)), t.id < x.id := by
    intro x hx
    have hxts : x ∈ ts := (List.dropWhile_sublist _).mem hx
    have hne := hn' x hxts
    have : ¬ x.id < t.id := by
      intro hlt
      obtain ⟨y, r, hyr⟩ : ∃ y r, ts.dropWhile (fun x => decide (x.id < t.id)) = y :: r := by
        cases hq : ts.dropWhile (fun x => decide (x.id < t.id)) with
        | nil => rw [hq] at hx; cases hx
        | cons y r => exact ⟨y, r, rfl⟩
      have hy : ¬ y.id < t.id := by
        have := List.head?_dropWhile_not (fun x : Tk => decide (x.id < t.id)) ts
        rw [hyr] at this
        simpa using this
      rw [hyr] at hx p2
      rcases List.mem_cons.1 hx with rfl | hx'
      · exact hy hlt
      · have := (List.pairwise_cons.1 p2).1 x hx'; omega
    omega
  have ht : ∀ x ∈ ts.takeWhile (fun x => decide (x.id < t.id)), x.id < t.id := fun x hx => by
    have := List.all_eq_true.1 (List.all_takeWhile (l := ts) (p := fun x : Tk => decide (x.id < t.id))) x hx
    simpa using this
  rw [List.pairwise_append]
  refine ⟨p1, List.pairwise_cons.2 ⟨hd, p2⟩, ?_⟩
  intro a ha b hb
  rcases List.mem_cons.1 hb with rfl | hb
  · exact ht a ha
  · exact p3 a ha b hb

/-! ### deeds -/
def may (e p : Int) : Prop := 1 ≤ e ∧ e ≤ p ∧ p ≤ 1048575
instance (e p : Int) : Decidable (may e p) := by unfold may; exact inferInstance
def tjoin (k : Nat) (ts : List Tk) (id e p : Int) (sp : Bool) : List Tk × Int :=
  if ¬ may e p then (ts, 2) else if (tf ts id).isSome then (ts, 4) else if k ≤ ts.length then (ts, 6) else (tins ts (new1 id e p sp), 0)
def tleave (ts : List Tk) (id : Int) : List Tk × Bool × Int := match tf ts id with
  | none => (ts, false, 5)
  | some t => if t.lv then (ts, false, 13) else if !t.ac then (tdel ts id, true, 0) else (tset ts { t with lv := true }, false, 0)
def tarrive (ts : List Tk) (id : Int) : List Tk × Int := match tf ts id with
  | none => (ts, 5)
  | some t => if !t.sp then (ts, 9) else if t.lv then (ts, 13) else if t.ac || t.wt then (ts, 10) else (tset ts { t with wt := true }, 0)
def tfinish (ts : List Tk) (id : Int) : List Tk × Int := match tf ts id with
  | none => (ts, 5)
  | some t => if !t.ac then (ts, 11) else if t.dn || t.gt == t.e then (ts, 12) else (tset ts { t with dn := true }, 0)
def tgive (ts : List Tk) (id : Int) : List Tk × Bool := match tf ts id with
  | none => (ts, false)
  | some t => if !t.ac || t.gt == t.e then (ts, false) else (tset ts { t with gt := t.gt + 1 }, true)
def skips (t : Tk) : Bool := t.ac || (t.sp && !t.wt)
def rel1 (clock : Int) (t : Tk) : Tk := if skips t then t else { t with wt := false, ac := true, rl := clock, gt := 0, dn := false, ct := t.ct + 1 }
def trel (clock : Int) (ts : List Tk) : List Tk := ts.map (rel1 clock)
def relIds (ts : List Tk) : List Int := (ts.filter fun t => !skips t).map Tk.id
def ends (clock : Int) (t : Tk) : Bool := t.ac && decide (t.rl + t.p ≤ clock)
def idle1 (t : Tk) : Tk := { t with ac := false, rl := 0, gt := 0, dn := false }
def set1 (clock : Int) (t : Tk) : Option Tk := if ends clock t then (if t.lv then none else some (idle1 t)) else some t
def tsettle (clock : Int) (ts : List Tk) : List Tk := ts.filterMap (set1 clock)
def goneIds (clock : Int) (ts : List Tk) : List Int := (ts.filter fun t => ends clock t && t.lv).map Tk.id
def missN (clock : Int) (ts : List Tk) : Nat := (ts.filter fun t => ends clock t && t.gt != t.e).length

theorem rel1_id {clock : Int} {t : Tk} : (rel1 clock t).id = t.id := by unfold rel1; split <;> rfl
theorem set1_id {clock : Int} {t u : Tk} (h : set1 clock t = some u) : u.id = t.id := by
  unfold set1 at h
  split at h
  · split at h
    · cases h
    · cases h; rfl
  · cases h; rfl
theorem trel_srt {clock : Int} {ts : List Tk} (h : Srt ts) : Srt (trel clock ts) := by
  unfold Srt trel
  rw [List.pairwise_map]
  exact h.imp fun {a b} hab => by rw [rel1_id, rel1_id]; exact hab
theorem tsettle_srt {clock : Int} {ts : List Tk} (h : Srt ts) : Srt (tsettle clock ts) := by
  unfold Srt tsettle
  rw [List.pairwise_filterMap]
  exact h.imp fun {a b} hab x hx y hy => by rw [set1_id hx, set1_id hy]; exact hab

/-- what keeps the numbers small -/
structure Okt (n : Int) (t : Tk) : Prop where
  m : may t.e t.p
  g0 : 0 ≤ t.gt
  g1 : t.gt ≤ t.e
  r0 : 0 ≤ t.rl
  r1 : t.rl ≤ 100000
  c0 : 0 ≤ t.ct
  c1 : t.ct ≤ n
  i0 : -9223372036854775808 ≤ t.id
  i1 : t.id ≤ 9223372036854775807
def Ok (n : Int) (ts : List Tk) : Prop := ∀ t ∈ ts, Okt n t
theorem Ok.mono {n m : Int} {ts : List Tk} (h : Ok n ts) (hm : n ≤ m) : Ok m ts := fun t ht => { h t ht with c1 := by have := (h t ht).c1; omega }
theorem Ok.join {n : Int} {ts : List Tk} (h : Ok n ts) (hn : 0 ≤ n) {k : Nat} {id e p : Int} {sp : Bool} (hi : -9223372036854775808 ≤ id ∧ id ≤ 9223372036854775807) : Ok n (tjoin k ts id e p sp).1 := by
  unfold tjoin
  split
  · exact h
  · rename_i hm
    have hm : may e p := Classical.not_not.1 hm
    split
    · exact h
    · split
      · exact h
      · intro t ht
        rcases tins_mem.1 ht with rfl | ht
        · have h1 := hm.1
          exact ⟨hm, by simp [new1], by simp only [new1]; omega, by simp [new1], by simp [new1], by simp [new1], by simpa [new1] using hn, hi.1, hi.2⟩
        · exact h t ht
theorem Ok.tset {n : Int} {ts : List Tk} (h : Ok n ts) {t : Tk} (ht : Okt n t) : Ok n (tset ts t) := by
  intro x hx
  rcases tset_mem hx with ⟨rfl, _⟩ | ⟨hx, _⟩
  · exact ht
  · exact h x hx
theorem Ok.tdel {n : Int} {ts : List Tk} (h : Ok n ts) (id : Int) : Ok n (tdel ts id) := fun t ht => h t (tdel_mem.1 ht).1
theorem Ok.leave {n : Int} {ts : List Tk} (h : Ok n ts) (id : Int) : Ok n (tleave ts id).1 := by
  unfold tleave
  split
  · exact h
  · rename_i t ht
    have ho := h t (tf_some ht).1
    split
    · exact h
    · split
      · exact h.tdel id
      · exact h.tset ⟨ho.m, ho.g0, ho.g1, ho.r0, ho.r1, ho.c0, ho.c1, ho.i0, ho.i1⟩
theorem Ok.arrive {n : Int} {ts : List Tk} (h : Ok n ts) (id : Int) : Ok n (tarrive ts id).1 := by
  unfold tarrive
  split
  · exact h
  · rename_i t ht
    have ho := h t (tf_some ht).1
    split
    · exact h
    · split
      · exact h
      · split
        · exact h
        · exact h.tset ⟨ho.m, ho.g0, ho.g1, ho.r0, ho.r1, ho.c0, ho.c1, ho.i0, ho.i1⟩
theorem Ok.finish {n : Int} {ts : List Tk} (h : Ok n ts) (id : Int) : Ok n (tfinish ts id).1 := by
  unfold tfinish
  split
  · exact h
  · rename_i t ht
    have ho := h t (tf_some ht).1
    split
    · exact h
    · split
      · exact h
      · exact h.tset ⟨ho.m, ho.g0, ho.g1, ho.r0, ho.r1, ho.c0, ho.c1, ho.i0, ho.i1⟩
theorem Ok.give {n : Int} {ts : List Tk} (h : Ok n ts) (id : Int) : Ok n (tgive ts id).1 := by
  unfold tgive
  split
  · exact h
  · rename_i t ht
    have ho := h t (tf_some ht).1
    split
    · exact h
    · rename_i hc
      have : t.gt ≠ t.e := by intro e; simp [e] at hc
      have h1 := ho.g0
      have h2 := ho.g1
      exact h.tset ⟨ho.m, by show 0 ≤ t.gt + 1; omega, by show t.gt + 1 ≤ t.e; omega, ho.r0, ho.r1, ho.c0, ho.c1, ho.i0, ho.i1⟩
theorem Ok.rel {n : Int} {ts : List Tk} (h : Ok n ts) {clock : Int} (h0 : 0 ≤ clock) (h1 : clock ≤ 100000) : Ok (n + 1) (trel clock ts) := by
  intro x hx
  obtain ⟨t, ht, rfl⟩ := List.mem_map.1 hx
  have ho := h t ht
  have hc := ho.c1
  have hc0 := ho.c0
  have hm := ho.m.1
  unfold rel1
  split
  · exact { ho with c1 := by omega }
  · exact ⟨ho.m, Int.le_refl _, by show (0 : Int) ≤ t.e; omega, h0, h1, by show 0 ≤ t.ct + 1; omega, by show t.ct + 1 ≤ n + 1; omega, ho.i0, ho.i1⟩
theorem Ok.settle {n : Int} {ts : List Tk} (h : Ok n ts) (clock : Int) : Ok n (tsettle clock ts) := by
  intro x hx
  obtain ⟨t, ht, hs⟩ := List.mem_filterMap.1 hx
  have ho := h t ht
  have hm := ho.m.1
  unfold set1 at hs
  split at hs
  · split at hs
    · cases hs
    · cases hs
      exact ⟨ho.m, Int.le_refl _, by show (0 : Int) ≤ t.e; omega, Int.le_refl _, by show (0 : Int) ≤ 100000; omega, ho.c0, ho.c1, ho.i0, ho.i1⟩
  · cases hs; exact ho
end Go.AM.Jb

/- jobs.Jobs (own work): the table of tasks behind a pointer; get, IDs, Task. -/
namespace Go.Proofs.Ytecfofmndpgnjaa.sy
open Go.AM Go.AM.Hp Go.AM.Jb
set_option linter.unusedSimpArgs false
set_option linter.unusedVariables false
variable {G : List Nat → Option (List AV)} {base : Nat} {w0 : World}
set_option maxRecDepth 100000
theorem hJ30 : hasBody Try.prog 30 = true := by kernel_rfl
theorem hJ31 : hasBody Try.prog 31 = true := by kernel_rfl
theorem hJ27 : hasBody Try.prog 27 = true := by kernel_rfl
theorem hJ14 : hasBody Try.prog 14 = true := by kernel_rfl
/-- what is behind a pointer to Jobs -/
structure Jx (H : AHeap) (pj s bl k : Nat) (o : Tb) (f : Int → Option Int) (gs : List Tk) (ts : List Tk) : Prop where
  row : hat H pj = some (.row 66 2 [.ptr (.own s) 0, .slice (.own bl) 11 0 k])
  t : T H s o k f ts.length
  cells : RowF H bl 35 wT gs
  gl : gs.length = k
  fwd : ∀ t ∈ ts, ∃ n : Nat, f t.id = some (n : Int) ∧ gs[n]? = some t
  bwd : ∀ q x, f q = some x → ∃ t ∈ ts, t.id = q
  srt : Srt ts
  n1 : pj ≠ bl
  n2 : pj ≠ s ∧ ¬ Own o pj
  n3 : bl ≠ s ∧ ¬ Own o bl
def JS (H : AHeap) (pj s bl k : Nat) (o : Tb) (ts : List Tk) : Prop := ∃ f gs, Jx H pj s bl k o f gs ts
/-- what may be turned by a deed -/
def JOwn (bl : Nat) (o : Tb) : Nat → Prop := fun j => j = bl ∨ Own o j
variable {H : AHeap} {pj s bl k : Nat} {o : Tb} {f : Int → Option Int} {gs ts : List Tk}
theorem Jx.keep {H' : AHeap} (h : Jx H pj s bl k o f gs ts) (hk : ∀ j, (j = pj ∨ j = s ∨ j = bl ∨ Own o j) → hat H' j = hat H j) : Jx H' pj s bl k o f gs ts :=
  ⟨by rw [hk _ (.inl rfl)]; exact h.row, h.t.keep fun j hj => hk j (by rcases hj with h | h; exact .inr (.inl h); exact .inr (.inr (.inr h))), h.cells.keep (hk _ (.inr (.inr (.inl rfl)))), h.gl, h.fwd, h.bwd, h.srt, h.n1, h.n2, h.n3⟩
theorem Jx.lt (h : Jx H pj s bl k o f gs ts) {j : Nat} (hj : j = pj ∨ j = s ∨ j = bl ∨ Own o j) : j < H.length := by
  rcases hj with rfl | rfl | rfl | hj
  · exact hat_lt h.row
  · exact h.t.own_lt (.inl rfl)
  · exact h.cells.lt
  · exact h.t.own_lt (.inr hj)
theorem Jx.keepF {H' : AHeap} (h : Jx H pj s bl k o f gs ts) (hk : Keep H H' (fun _ => False)) : Jx H' pj s bl k o f gs ts := h.keep fun j hj => hk.2 j (h.lt hj) (fun e => e)
theorem JS.keep {H' : AHeap} (h : JS H pj s bl k o ts) (hk : ∀ j, (j = pj ∨ j = s ∨ j = bl ∨ Own o j) → hat H' j = hat H j) : JS H' pj s bl k o ts := by
  obtain ⟨f, gs, h⟩ := h; exact ⟨f, gs, h.keep hk⟩
theorem JS.lt (h : JS H pj s bl k o ts) {j : Nat} (hj : j = pj ∨ j = s ∨ j = bl ∨ Own o j) : j < H.length := by
  obtain ⟨f, gs, h⟩ := h; exact h.lt hj
theorem JS.keepF {H' : AHeap} (h : JS H pj s bl k o ts) (hk : Keep H H' (fun _ => False)) : JS H' pj s bl k o ts := h.keep fun j hj => hk.2 j (h.lt hj) (fun e => e)
/-- where a task stands -/
theorem Jx.at (h : Jx H pj s bl k o f gs ts) {id : Int} {t : Tk} (ht : tf ts id = some t) : ∃ n : Nat, f id = some (n : Int) ∧ n < gs.length ∧ gs[n]? = some t := by
  obtain ⟨h1, rfl⟩ := tf_some ht
  obtain ⟨n, h2, h3⟩ := h.fwd t h1
  exact ⟨n, h2, (List.getElem?_eq_some_iff.1 h3).1, h3⟩
theorem Jx.no (h : Jx H pj s bl k o f gs ts) {id : Int} (ht : tf ts id = none) : f id = none := by
  cases hq : f id with
  | none => rfl
  | some x =>
    obtain ⟨t, h1, h2⟩ := h.bwd _ _ hq
    exact absurd h2 (tf_none.1 ht t h1)
/-- j.get(id) -/
def GetS (ts : List Tk) (f : Int → Option Int) (gs : List Tk) (bl : Nat) (id : Int) (H : AHeap) : AV → AHeap → Prop := fun r H' => H' = H ∧
  ((tf ts id = none ∧ r = .nilptr) ∨ ∃ (t : Tk) (n : Nat), tf ts id = some t ∧ f id = some (n : Int) ∧ n < gs.length ∧ gs[n]? = some t ∧ r = .ptr (.own bl) (n * 11))
theorem get_okJ (h : Jx H pj s bl k o f gs ts) (id : Int) : ∃ r H', Pt (kn G base w0) 30 [.ptr (.own pj) 0, .int .i64 id] H r H' ∧ GetS ts f gs bl id H r H' := by
  refine Pt.fn (n := 26) (rs := [.tmp 4]) Try.func30 (b := _) rfl rfl rfl (by decide) ?_
  have l0 : aload (kn G base w0).c H 62 (.ptr (.own pj) 0) = some (.ptr (.own s) 0) := ld_own h.row rfl ag62
  have l1 : aload (kn G base w0).c H 64 (.ptr (.own pj) 1) = some (.slice (.own bl) 11 0 k) := ld_own h.row rfl ag64
  repeat (first | with_reducible refine D.sq ?_ | with_reducible refine D.bl ?_ | with_reducible refine D.skip ?_ | with_reducible refine D.rg (T := none_) (by kernel_rfl) (by simp (maxSteps := 1000000) (disch := omega) only [rulesA, rulesB, numbered, ayield, mapO, constAV, scAV, optval, abin, aint, acmp, aconv, aun, aeq, aminmax, afieldAddr, abuild, anew, fieldPlaces, afill, setSeg, kn_P, Nat.reduceAdd, Nat.reduceMul, Nat.reducePow, Nat.reduceSub, Nat.reduceEqDiff, Nat.reduceLT, Nat.reduceLeDiff, Int.reduceEq, Int.reduceNe, Int.reduceLT, Int.reduceLE, Int.reduceAdd, Int.reduceSub, Int.reduceToNat, Int.reduceBNe, Int.reduceBEq, tyR, rulesC, l0, l1]; with_reducible rfl) ?_ | with_reducible refine D.ct2 (by simp (maxSteps := 1000000) (disch := omega) only [rulesV, numbered, constAV, scAV, Nat.reduceEqDiff, Nat.reduceLT, Nat.reduceLeDiff, rulesC, l0, l1]; with_reducible rfl) (by with_reducible rfl) ?_ | with_reducible refine D.cf2 (by simp (maxSteps := 1000000) (disch := omega) only [rulesV, numbered, constAV, scAV, Nat.reduceEqDiff, Nat.reduceLT, Nat.reduceLeDiff, rulesC, l0, l1]; with_reducible rfl) (by with_reducible rfl) ?_ | with_reducible refine D.exit ?_ | with_reducible refine D.ret ?_ | simp only [rulesK, Nat.reduceEqDiff])
  obtain ⟨r1, H1, hc, rfl, rfl⟩ := call_only (κ := kn G base w0) (f := 39) (args := [.ptr (.own s) 0, .int .i64 id]) (H := H) (fun _ H r H' => r = .tuple [.int .i64 ((f id).getD 0), .bool (f id).isSome] ∧ H' = H) (getT h.t id)
  cases ht : tf ts id with
  | none =>
    have hf := h.no ht
    simp only [hf, Option.getD_none, Option.isSome_none] at hc
    refine D.rgC hc (by kernel_rfl) (by simp (maxSteps := 1000000) (disch := omega) only [rulesA, rulesB, numbered, ayield, mapO, constAV, scAV, optval, abin, aint, acmp, aconv, aun, aeq, aminmax, afieldAddr, abuild, anew, fieldPlaces, afill, setSeg, kn_P, Nat.reduceAdd, Nat.reduceMul, Nat.reducePow, Nat.reduceSub, Nat.reduceEqDiff, Nat.reduceLT, Nat.reduceLeDiff, Int.reduceEq, Int.reduceNe, Int.reduceLT, Int.reduceLE, Int.reduceAdd, Int.reduceSub, Int.reduceToNat, Int.reduceBNe, Int.reduceBEq, tyR, rulesC, hc, hb11, l0]; with_reducible rfl) ?_
    repeat (first | with_reducible refine D.sq ?_ | with_reducible refine D.bl ?_ | with_reducible refine D.skip ?_ | with_reducible refine D.rg (T := none_) (by kernel_rfl) (by simp (maxSteps := 1000000) (disch := omega) only [rulesA, rulesB, numbered, ayield, mapO, constAV, scAV, optval, abin, aint, acmp, aconv, aun, aeq, aminmax, afieldAddr, abuild, anew, fieldPlaces, afill, setSeg, kn_P, Nat.reduceAdd, Nat.reduceMul, Nat.reducePow, Nat.reduceSub, Nat.reduceEqDiff, Nat.reduceLT, Nat.reduceLeDiff, Int.reduceEq, Int.reduceNe, Int.reduceLT, Int.reduceLE, Int.reduceAdd, Int.reduceSub, Int.reduceToNat, Int.reduceBNe, Int.reduceBEq, tyR, rulesC]; with_reducible rfl) ?_ | with_reducible refine D.ct2 (by simp (maxSteps := 1000000) (disch := omega) only [rulesV, numbered, constAV, scAV, Nat.reduceEqDiff, Nat.reduceLT, Nat.reduceLeDiff, rulesC]; with_reducible rfl) (by with_reducible rfl) ?_ | with_reducible refine D.cf2 (by simp (maxSteps := 1000000) (disch := omega) only [rulesV, numbered, constAV, scAV, Nat.reduceEqDiff, Nat.reduceLT, Nat.reduceLeDiff, rulesC]; with_reducible rfl) (by with_reducible rfl) ?_ | with_reducible refine D.exit ?_ | with_reducible refine D.ret ?_ | simp only [rulesK, Nat.reduceEqDiff])
    refine ⟨_, by simp only [resOf, aresult, rulesA, rulesB, numbered, ayield, mapO, constAV, scAV, optval, abin, aint, acmp, aconv, aun, aeq, aminmax, afieldAddr, abuild, anew, fieldPlaces, afill, setSeg, kn_P, Nat.reduceAdd, Nat.reduceMul, Nat.reducePow, Nat.reduceSub, Nat.reduceEqDiff, Nat.reduceLT, Nat.reduceLeDiff, Int.reduceEq, Int.reduceNe, Int.reduceLT, Int.reduceLE, Int.reduceAdd, Int.reduceSub, Int.reduceToNat, Int.reduceBNe, Int.reduceBEq, tyR]; with_reducible rfl, ?_⟩
    exact ⟨(by first | exact rfl | exact True.intro), .inl ⟨ht, rfl⟩⟩
  | some t =>
    obtain ⟨n, hf, hn, hg⟩ := h.at ht
    simp only [hf, Option.getD_some, Option.isSome_some] at hc
    refine D.rgC hc (by kernel_rfl) (by simp (maxSteps := 1000000) (disch := omega) only [rulesA, rulesB, numbered, ayield, mapO, constAV, scAV, optval, abin, aint, acmp, aconv, aun, aeq, aminmax, afieldAddr, abuild, anew, fieldPlaces, afill, setSeg, kn_P, Nat.reduceAdd, Nat.reduceMul, Nat.reducePow, Nat.reduceSub, Nat.reduceEqDiff, Nat.reduceLT, Nat.reduceLeDiff, Int.reduceEq, Int.reduceNe, Int.reduceLT, Int.reduceLE, Int.reduceAdd, Int.reduceSub, Int.reduceToNat, Int.reduceBNe, Int.reduceBEq, tyR, rulesC, hc, hb11, l0]; with_reducible rfl) ?_
    have hx : aindexAddr (kn G base w0).c 64 (.slice (.own bl) 11 0 k) (.int .i64 (n : Int)) = some (.ptr (.own bl) (n * 11)) := ix_own Try.underlying64 sz35 (by decide) (by rw [← h.gl]; exact hn)
    repeat (first | with_reducible refine D.sq ?_ | with_reducible refine D.bl ?_ | with_reducible refine D.skip ?_ | with_reducible refine D.rg (T := none_) (by kernel_rfl) (by simp (maxSteps := 1000000) (disch := omega) only [rulesA, rulesB, numbered, ayield, mapO, constAV, scAV, optval, abin, aint, acmp, aconv, aun, aeq, aminmax, afieldAddr, abuild, anew, fieldPlaces, afill, setSeg, kn_P, Nat.reduceAdd, Nat.reduceMul, Nat.reducePow, Nat.reduceSub, Nat.reduceEqDiff, Nat.reduceLT, Nat.reduceLeDiff, Int.reduceEq, Int.reduceNe, Int.reduceLT, Int.reduceLE, Int.reduceAdd, Int.reduceSub, Int.reduceToNat, Int.reduceBNe, Int.reduceBEq, tyR, rulesC, l1, hx]; with_reducible rfl) ?_ | with_reducible refine D.ct2 (by simp (maxSteps := 1000000) (disch := omega) only [rulesV, numbered, constAV, scAV, Nat.reduceEqDiff, Nat.reduceLT, Nat.reduceLeDiff, rulesC, l1, hx]; with_reducible rfl) (by with_reducible rfl) ?_ | with_reducible refine D.cf2 (by simp (maxSteps := 1000000) (disch := omega) only [rulesV, numbered, constAV, scAV, Nat.reduceEqDiff, Nat.reduceLT, Nat.reduceLeDiff, rulesC, l1, hx]; with_reducible rfl) (by with_reducible rfl) ?_ | with_reducible refine D.exit ?_ | with_reducible refine D.ret ?_ | simp only [rulesK, Nat.reduceEqDiff])
    refine ⟨_, by simp only [resOf, aresult, rulesA, rulesB, numbered, ayield, mapO, constAV, scAV, optval, abin, aint, acmp, aconv, aun, aeq, aminmax, afieldAddr, abuild, anew, fieldPlaces, afill, setSeg, kn_P, Nat.reduceAdd, Nat.reduceMul, Nat.reducePow, Nat.reduceSub, Nat.reduceEqDiff, Nat.reduceLT, Nat.reduceLeDiff, Int.reduceEq, Int.reduceNe, Int.reduceLT, Int.reduceLE, Int.reduceAdd, Int.reduceSub, Int.reduceToNat, Int.reduceBNe, Int.reduceBEq, tyR]; with_reducible rfl, ?_⟩
    exact ⟨(by first | exact rfl | exact True.intro), .inr ⟨t, n, ht, hf, hn, hg, rfl⟩⟩

/-! ### one task's cells -/
def hz (H : AHeap) (bl n : Nat) (gs : List Tk) (u : Tk) : AHeap := hrow H bl 35 wT (gs.set n u)
theorem hz_len {n : Nat} {u : Tk} : (hz H bl n gs u).length = H.length := hrow_len
theorem hz_self (h : RowF H bl 35 wT gs) {n : Nat} {t : Tk} (hg : gs[n]? = some t) : hz H bl n gs t = H := by
  have : gs.set n t = gs := by
    apply List.ext_getElem?
    intro i
    rw [List.getElem?_set]
    split
    · rename_i e; subst e; split
      · exact hg.symm
      · rename_i hh; rw [List.getElem?_eq_none (by omega)]
    · rfl
  rw [hz, this, hrow_self h]
theorem hz_row (h : RowF H bl 35 wT gs) {n : Nat} {u : Tk} : RowF (hz H bl n gs u) bl 35 wT (gs.set n u) := hrow_at h.lt
theorem hz_ne {n j : Nat} {u : Tk} (h : j ≠ bl) : hat (hz H bl n gs u) j = hat H j := hrow_ne h
theorem hz_keep {n : Nat} {u : Tk} : Keep H (hz H bl n gs u) (fun j => j = bl) := hrow_keep
structure Cel (c : Ctx) (H : AHeap) (bl n : Nat) (t : Tk) : Prop where
  f0 : aload c H 3 (.ptr (.own bl) (n * 11 + 0)) = some (.int .i64 t.id)
  f1 : aload c H 3 (.ptr (.own bl) (n * 11 + 1)) = some (.int .i64 t.e)
  f2 : aload c H 3 (.ptr (.own bl) (n * 11 + 2)) = some (.int .i64 t.p)
  f3 : aload c H 4 (.ptr (.own bl) (n * 11 + 3)) = some (.bool t.sp)
  f4 : aload c H 4 (.ptr (.own bl) (n * 11 + 4)) = some (.bool t.lv)
  f5 : aload c H 4 (.ptr (.own bl) (n * 11 + 5)) = some (.bool t.wt)
  f6 : aload c H 4 (.ptr (.own bl) (n * 11 + 6)) = some (.bool t.ac)
  f7 : aload c H 3 (.ptr (.own bl) (n * 11 + 7)) = some (.int .i64 t.rl)
  f8 : aload c H 3 (.ptr (.own bl) (n * 11 + 8)) = some (.int .i64 t.gt)
  f9 : aload c H 4 (.ptr (.own bl) (n * 11 + 9)) = some (.bool t.dn)
  f10 : aload c H 3 (.ptr (.own bl) (n * 11 + 10)) = some (.int .i64 t.ct)
  all : aload c H 35 (.ptr (.own bl) (n * 11)) = some (.agg (encT t))
theorem cel {H : AHeap} {gs : List Tk} (h : RowF H bl 35 wT gs) {n : Nat} {t : Tk} (hg : gs[n]? = some t) : Cel (kn G base w0).c H bl n t := by
  obtain ⟨hn, hgt⟩ := List.getElem?_eq_some_iff.1 hg
  have e : ∀ (j : Nat) (v : AV), (encT t)[j]? = some v → (wT.enc gs[n])[j]? = some v := fun j v hv => by rw [hgt]; exact hv
  exact ⟨h.ld hn (j := 0) (by decide) (e 0 _ rfl) ag3, h.ld hn (j := 1) (by decide) (e 1 _ rfl) ag3, h.ld hn (j := 2) (by decide) (e 2 _ rfl) ag3, h.ld hn (j := 3) (by decide) (e 3 _ rfl) ag4, h.ld hn (j := 4) (by decide) (e 4 _ rfl) ag4, h.ld hn (j := 5) (by decide) (e 5 _ rfl) ag4,
    h.ld hn (j := 6) (by decide) (e 6 _ rfl) ag4, h.ld hn (j := 7) (by decide) (e 7 _ rfl) ag3, h.ld hn (j := 8) (by decide) (e 8 _ rfl) ag3, h.ld hn (j := 9) (by decide) (e 9 _ rfl) ag4, h.ld hn (j := 10) (by decide) (e 10 _ rfl) ag3, by rw [← hgt]; exact h.ldA hn ag35 sz35⟩
theorem hz_cel (h : RowF H bl 35 wT gs) {n : Nat} (hn : n < gs.length) (u : Tk) : Cel (kn G base w0).c (hz H bl n gs u) bl n u := cel (hz_row h) (by simp [hn])
theorem hz_hz {n : Nat} {u v : Tk} : hz (hz H bl n gs u) bl n (gs.set n u) v = hz H bl n gs v := by
  unfold hz; rw [hrow_set, List.set_set]
structure Put1 (H0 H : AHeap) (bl n : Nat) (gs : List Tk) (t : Tk) : Prop where
  s4 : ∀ v, wr H0 (.own bl) (n * 11 + 4) [.bool v] = some (hz H bl n gs { t with lv := v })
  s5 : ∀ v, wr H0 (.own bl) (n * 11 + 5) [.bool v] = some (hz H bl n gs { t with wt := v })
  s6 : ∀ v, wr H0 (.own bl) (n * 11 + 6) [.bool v] = some (hz H bl n gs { t with ac := v })
  s7 : ∀ v, wr H0 (.own bl) (n * 11 + 7) [.int .i64 v] = some (hz H bl n gs { t with rl := v })
  s8 : ∀ v, wr H0 (.own bl) (n * 11 + 8) [.int .i64 v] = some (hz H bl n gs { t with gt := v })
  s9 : ∀ v, wr H0 (.own bl) (n * 11 + 9) [.bool v] = some (hz H bl n gs { t with dn := v })
  s10 : ∀ v, wr H0 (.own bl) (n * 11 + 10) [.int .i64 v] = some (hz H bl n gs { t with ct := v })
  all : ∀ u, wr H0 (.own bl) (n * 11) (encT u) = some (hz H bl n gs u)
theorem put1 (h : RowF H bl 35 wT gs) {n : Nat} {t : Tk} (hg : gs[n]? = some t) : Put1 H H bl n gs t := by
  obtain ⟨hn, hgt⟩ := List.getElem?_eq_some_iff.1 hg
  have e : ∀ (j : Nat) (v : AV) (u : Tk), encT u = (encT t).set j v → wT.enc u = (wT.enc gs[n]).set j v := fun j v u hv => by rw [hgt]; exact hv
  exact ⟨fun v => h.st hn (j := 4) (by decide) rfl (e 4 _ _ rfl), fun v => h.st hn (j := 5) (by decide) rfl (e 5 _ _ rfl), fun v => h.st hn (j := 6) (by decide) rfl (e 6 _ _ rfl), fun v => h.st hn (j := 7) (by decide) rfl (e 7 _ _ rfl),
    fun v => h.st hn (j := 8) (by decide) rfl (e 8 _ _ rfl), fun v => h.st hn (j := 9) (by decide) rfl (e 9 _ _ rfl), fun v => h.st hn (j := 10) (by decide) rfl (e 10 _ _ rfl), fun u => h.stA hn u⟩
theorem hz_put1 (h : RowF H bl 35 wT gs) {n : Nat} (hn : n < gs.length) (u : Tk) : Put1 (hz H bl n gs u) H bl n gs u := by
  have := put1 (hz_row h (n := n) (u := u)) (n := n) (t := u) (by simp [hn])
  obtain ⟨a, b, c, d, e, f, g, i⟩ := this
  exact ⟨fun v => by rw [a, hz_hz], fun v => by rw [b, hz_hz], fun v => by rw [c, hz_hz], fun v => by rw [d, hz_hz], fun v => by rw [e, hz_hz], fun v => by rw [f, hz_hz], fun v => by rw [g, hz_hz], fun v => by rw [i, hz_hz]⟩
/-- a task turned -/
theorem Jx.set (h : Jx H pj s bl k o f gs ts) {t t' : Tk} (ht : tf ts t.id = some t) (he : t'.id = t.id) {n : Nat} (hf : f t.id = some (n : Int)) (hg : gs[n]? = some t) : Jx (hz H bl n gs t') pj s bl k o f (gs.set n t') (tset ts t') := by
  have hn := (List.getElem?_eq_some_iff.1 hg).1
  refine ⟨by rw [hz_ne h.n1]; exact h.row, ?_, hz_row h.cells, by simpa using h.gl, ?_, ?_, tset_srt h.srt _, h.n1, h.n2, h.n3⟩
  · rw [tset_len]
    exact h.t.keep fun j hj => hz_ne (by rintro rfl; rcases hj with e | e; exact h.n3.1 e; exact h.n3.2 e)
  · intro x hx
    rcases tset_mem hx with ⟨rfl, _⟩ | ⟨hx, hne⟩
    · exact ⟨n, by rw [he]; exact hf, by simp [hn]⟩
    · obtain ⟨m, h1, h2⟩ := h.fwd x hx
      refine ⟨m, h1, ?_⟩
      rw [List.getElem?_set_ne]
      · exact h2
      · rintro rfl
        rw [hg] at h2
        have e := Option.some.inj h2
        exact hne (by rw [he, e])
  · intro q x hq
    obtain ⟨u, h1, h2⟩ := h.bwd q x hq
    have : u.id ∈ (tset ts t').map Tk.id := by rw [tset_ids]; exact List.mem_map_of_mem h1
    obtain ⟨y, hy, e⟩ := List.mem_map.1 this
    exact ⟨y, hy, by rw [e, h2]⟩
/-- a task that is gone -/
theorem Jx.del (h : Jx H pj s bl k o f gs ts) {t : Tk} (ht : tf ts t.id = some t) {n : Nat} (hf : f t.id = some (n : Int)) (hg : gs[n]? = some t) {H' : AHeap} {o' : Tb} {c' : Nat} (hl : ts.length = c' + 1) (hT : T H' s o' k (upd1 f t.id none) c') (hk : Keep (hz H bl n gs tk0) H' (Own o)) (ho : ∀ j, Own o' j → Own o j ∨ H.length ≤ j) :
    Jx H' pj s bl k o' (upd1 f t.id none) (gs.set n tk0) (tdel ts t.id) := by
  have hat1 : ∀ j, j < H.length → j ≠ bl → ¬ Own o j → hat H' j = hat H j := fun j hj h1 h2 => by rw [hk.2 j (by rw [hz_len]; exact hj) h2, hz_ne h1]
  have hpl := hat_lt h.row
  have hbl := h.cells.lt
  refine ⟨by rw [hat1 pj hpl h.n1 h.n2.2]; exact h.row, ?_, ?_, by simpa using h.gl, ?_, ?_, tdel_srt h.srt _, h.n1, ⟨h.n2.1, fun e => ?_⟩, ⟨h.n3.1, fun e => ?_⟩⟩
  · have := tdel_len h.srt ht
    rw [show (tdel ts t.id).length = c' by omega]; exact hT
  · exact (hz_row h.cells).keep (hk.2 bl (by rw [hz_len]; exact hbl) h.n3.2)
  · intro x hx
    obtain ⟨hx, hne⟩ := tdel_mem.1 hx
    obtain ⟨m, h1, h2⟩ := h.fwd x hx
    refine ⟨m, by rw [upd1, if_neg hne]; exact h1, ?_⟩
    rw [List.getElem?_set_ne]
    · exact h2
    · rintro rfl
      rw [hg] at h2
      exact hne (by rw [Option.some.inj h2])
  · intro q x hq
    unfold upd1 at hq
    split at hq
    · cases hq
    · rename_i hne
      obtain ⟨u, h1, h2⟩ := h.bwd q x hq
      exact ⟨u, tdel_mem.2 ⟨h1, by rw [h2]; exact hne⟩, h2⟩
  · rcases ho _ e with e | e
    · exact h.n2.2 e
    · omega
  · rcases ho _ e with e | e
    · exact h.n3.2 e
    · omega
/-- a task that is new -/
theorem Jx.ins (h : Jx H pj s bl k o f gs ts) {t : Tk} (ht : tf ts t.id = none) {n : Nat} (hn : n < k) (hfree : ∀ q, f q ≠ some (n : Int)) {H' : AHeap} (hT : T H' s o k (upd1 f t.id (some (n : Int))) (ts.length + 1)) (hk : Keep H H' (Own o)) :
    Jx (hz H' bl n gs t) pj s bl k o (upd1 f t.id (some (n : Int))) (gs.set n t) (tins ts t) := by
  have hpl := hat_lt h.row
  have hbl := h.cells.lt
  have hrow : RowF H' bl 35 wT gs := h.cells.keep (hk.2 bl hbl h.n3.2)
  refine ⟨by rw [hz_ne h.n1, hk.2 pj hpl h.n2.2]; exact h.row, ?_, hz_row hrow, by simpa using h.gl, ?_, ?_, tins_srt h.srt ht, h.n1, h.n2, h.n3⟩
  · rw [tins_len]
    exact hT.keep fun j hj => hz_ne (by rintro rfl; rcases hj with e | e; exact h.n3.1 e; exact h.n3.2 e)
  · intro x hx
    rcases tins_mem.1 hx with rfl | hx
    · exact ⟨n, by rw [upd1, if_pos rfl], by simp [h.gl, hn]⟩
    · obtain ⟨m, h1, h2⟩ := h.fwd x hx
      have hne : x.id ≠ t.id := tf_none.1 ht x hx
      refine ⟨m, by rw [upd1, if_neg hne]; exact h1, ?_⟩
      rw [List.getElem?_set_ne]
      · exact h2
      · rintro rfl
        exact hfree _ h1
  · intro q x hq
    unfold upd1 at hq
    split at hq
    · rename_i e; exact ⟨t, tins_mem.2 (.inl rfl), e.symm⟩
    · obtain ⟨u, h1, h2⟩ := h.bwd q x hq
      exact ⟨u, tins_mem.2 (.inr h1), h2⟩
end Go.Proofs.Ytecfofmndpgnjaa.sy

/- jobs.Jobs (own work): IDs, Task, gone, Join, Leave, Arrive, Finish, Give walked. -/
namespace Go.Proofs.Ytecfofmndpgnjaa.sy
open Go.AM Go.AM.Hp Go.AM.Jb
set_option linter.unusedSimpArgs false
set_option linter.unusedVariables false
variable {G : List Nat → Option (List AV)} {base : Nat} {w0 : World}
set_option maxRecDepth 100000
set_option maxHeartbeats 8000000
variable {H : AHeap} {pj s bl k : Nat} {o : Tb} {f : Int → Option Int} {gs ts : List Tk}
/-- what a deed may turn -/
structure Kp (H H' : AHeap) (bl : Nat) (o o' : Tb) : Prop where
  keep : Keep H H' (JOwn bl o)
  own : ∀ j, Own o' j → Own o j ∨ H.length ≤ j
theorem Kp.refl : Kp H H bl o o := ⟨Keep.refl _, fun _ => .inl⟩
theorem Kp.hz {n : Nat} {u : Tk} : Kp H (hz H bl n gs u) bl o o := ⟨hz_keep.mono fun _ _ e => .inl e, fun _ => .inl⟩
theorem Kp.keepF {H' : AHeap} (h : Keep H H' (fun _ => False)) : Kp H H' bl o o := ⟨h.mono fun _ _ e => e.elim, fun _ => .inl⟩
theorem Kp.trans {H1 H2 : AHeap} {o1 o2 : Tb} (h : Kp H H1 bl o o1) (h' : Kp H1 H2 bl o1 o2) : Kp H H2 bl o o2 :=
  ⟨h.keep.trans' h'.keep fun j hj e => by
    rcases e with e | e
    · exact .inl e
    · rcases h.own j e with e | e
      · exact .inr e
      · omega, fun j e => by
    rcases h'.own j e with e | e
    · exact h.own j e
    · exact .inr (Nat.le_trans h.keep.1 e)⟩
/-- the ids in their order -/
theorem sorted_same : ∀ {a b : List Int}, a.Pairwise (· < ·) → b.Pairwise (· < ·) → (∀ q, q ∈ a ↔ q ∈ b) → a = b
  | [], [], _, _, _ => rfl
  | [], y :: b, _, _, h => by have := (h y).2 (by simp); cases this
  | x :: a, [], _, _, h => by have := (h x).1 (by simp); cases this
  | x :: a, y :: b, ha, hb, h => by
    obtain ⟨a1, a2⟩ := List.pairwise_cons.1 ha
    obtain ⟨b1, b2⟩ := List.pairwise_cons.1 hb
    have hxy : x = y := by
      rcases List.mem_cons.1 ((h x).1 (by simp)) with e | e
      · exact e
      · rcases List.mem_cons.1 ((h y).2 (by simp)) with e' | e'
        · exact e'.symm
        · have := b1 x e; have := a1 y e'; omega
    subst hxy
    rw [sorted_same a2 b2 fun q => ?_]
    constructor
    · intro hq
      rcases List.mem_cons.1 ((h q).1 (by simp [hq])) with e | e
      · subst e; have := a1 q hq; omega
      · exact e
    · intro hq
      rcases List.mem_cons.1 ((h q).2 (by simp [hq])) with e | e
      · subst e; have := b1 q hq; omega
      · exact e
def ids (ts : List Tk) : List Int := ts.map Tk.id
def IdsO (ts : List Tk) (H : AHeap) : AV → AHeap → Prop := fun r H' => Go.AM.Own H' r 3 (ints (ids ts)) ∧ Keep H H' (fun _ => False) ∧ ∀ b, r.at? = some b → H.length ≤ b
def IdsJ (ts : List Tk) (H : AHeap) : AV → AHeap → Prop := fun r H' => Sl (kn G base w0).c H' r (ints (ids ts)) ∧ Keep H H' (fun _ => False) ∧ ∀ b, r.at? = some b → H.length ≤ b
theorem ids_own (h : Jx H pj s bl k o f gs ts) : ∃ r H', Pt (kn G base w0) 27 [.ptr (.own pj) 0] H r H' ∧ IdsO ts H r H' := by
  have l0 : aload (kn G base w0).c H 62 (.ptr (.own pj) 0) = some (.ptr (.own s) 0) := ld_own h.row rfl ag62
  refine Pt.fn (n := 10) (rs := [.tmp 2]) Try.func27 (b := _) rfl rfl rfl (by decide) ?_
  repeat (first | with_reducible refine D.sq ?_ | with_reducible refine D.bl ?_ | with_reducible refine D.skip ?_ | with_reducible refine D.rg (T := none_) (by kernel_rfl) (by simp (maxSteps := 1000000) (disch := omega) only [rulesA, rulesB, numbered, ayield, mapO, constAV, scAV, optval, abin, aint, acmp, aconv, aun, aeq, aminmax, afieldAddr, abuild, anew, fieldPlaces, afill, setSeg, kn_P, Nat.reduceAdd, Nat.reduceMul, Nat.reducePow, Nat.reduceSub, Nat.reduceEqDiff, Nat.reduceLT, Nat.reduceLeDiff, Int.reduceEq, Int.reduceNe, Int.reduceLT, Int.reduceLE, Int.reduceAdd, Int.reduceSub, Int.reduceToNat, Int.reduceBNe, Int.reduceBEq, tyR, rulesC, l0]; with_reducible rfl) ?_ | with_reducible refine D.ct2 (by simp (maxSteps := 1000000) (disch := omega) only [rulesV, numbered, constAV, scAV, Nat.reduceEqDiff, Nat.reduceLT, Nat.reduceLeDiff, rulesC, l0]; with_reducible rfl) (by with_reducible rfl) ?_ | with_reducible refine D.cf2 (by simp (maxSteps := 1000000) (disch := omega) only [rulesV, numbered, constAV, scAV, Nat.reduceEqDiff, Nat.reduceLT, Nat.reduceLeDiff, rulesC, l0]; with_reducible rfl) (by with_reducible rfl) ?_ | with_reducible refine D.exit ?_ | with_reducible refine D.ret ?_ | simp only [rulesK, Nat.reduceEqDiff])
  obtain ⟨r1, H1, hc, zs, z1, z2, z3, z4, z5, z6⟩ := call_only (κ := kn G base w0) (f := 35) (args := [.ptr (.own s) 0]) (H := H) (fun _ H r H' => IdsT H f ts.length r H') (idsT h.t)
  refine D.rgC hc (by kernel_rfl) (by simp (maxSteps := 1000000) (disch := omega) only [rulesA, rulesB, numbered, ayield, mapO, constAV, scAV, optval, abin, aint, acmp, aconv, aun, aeq, aminmax, afieldAddr, abuild, anew, fieldPlaces, afill, setSeg, kn_P, Nat.reduceAdd, Nat.reduceMul, Nat.reducePow, Nat.reduceSub, Nat.reduceEqDiff, Nat.reduceLT, Nat.reduceLeDiff, Int.reduceEq, Int.reduceNe, Int.reduceLT, Int.reduceLE, Int.reduceAdd, Int.reduceSub, Int.reduceToNat, Int.reduceBNe, Int.reduceBEq, tyR, rulesC, hc, hb13, l0]; with_reducible rfl) ?_
  repeat (first | with_reducible refine D.sq ?_ | with_reducible refine D.bl ?_ | with_reducible refine D.skip ?_ | with_reducible refine D.rg (T := none_) (by kernel_rfl) (by simp (maxSteps := 1000000) (disch := omega) only [rulesA, rulesB, numbered, ayield, mapO, constAV, scAV, optval, abin, aint, acmp, aconv, aun, aeq, aminmax, afieldAddr, abuild, anew, fieldPlaces, afill, setSeg, kn_P, Nat.reduceAdd, Nat.reduceMul, Nat.reducePow, Nat.reduceSub, Nat.reduceEqDiff, Nat.reduceLT, Nat.reduceLeDiff, Int.reduceEq, Int.reduceNe, Int.reduceLT, Int.reduceLE, Int.reduceAdd, Int.reduceSub, Int.reduceToNat, Int.reduceBNe, Int.reduceBEq, tyR, rulesC]; with_reducible rfl) ?_ | with_reducible refine D.ct2 (by simp (maxSteps := 1000000) (disch := omega) only [rulesV, numbered, constAV, scAV, Nat.reduceEqDiff, Nat.reduceLT, Nat.reduceLeDiff, rulesC]; with_reducible rfl) (by with_reducible rfl) ?_ | with_reducible refine D.cf2 (by simp (maxSteps := 1000000) (disch := omega) only [rulesV, numbered, constAV, scAV, Nat.reduceEqDiff, Nat.reduceLT, Nat.reduceLeDiff, rulesC]; with_reducible rfl) (by with_reducible rfl) ?_ | with_reducible refine D.exit ?_ | with_reducible refine D.ret ?_ | simp only [rulesK, Nat.reduceEqDiff])
  refine ⟨_, by simp only [resOf, aresult, rulesA, rulesB, numbered, ayield, mapO, constAV, scAV, optval, abin, aint, acmp, aconv, aun, aeq, aminmax, afieldAddr, abuild, anew, fieldPlaces, afill, setSeg, kn_P, Nat.reduceAdd, Nat.reduceMul, Nat.reducePow, Nat.reduceSub, Nat.reduceEqDiff, Nat.reduceLT, Nat.reduceLeDiff, Int.reduceEq, Int.reduceNe, Int.reduceLT, Int.reduceLE, Int.reduceAdd, Int.reduceSub, Int.reduceToNat, Int.reduceBNe, Int.reduceBEq, tyR]; with_reducible rfl, ?_⟩
  have : zs = ids ts := by
    refine sorted_same z1 (by unfold ids; rw [List.pairwise_map]; exact h.srt) fun q => ?_
    rw [z2]
    constructor
    · rintro ⟨x, hx⟩
      obtain ⟨t, h1, h2⟩ := h.bwd q x hx
      exact List.mem_map.2 ⟨t, h1, h2⟩
    · intro hq
      obtain ⟨t, h1, rfl⟩ := List.mem_map.1 hq
      obtain ⟨n, h2, _⟩ := h.fwd t h1
      exact ⟨_, h2⟩
  subst this
  exact ⟨z4, z5, z6⟩
theorem ids_okJ (h : Jx H pj s bl k o f gs ts) : ∃ r H', Pt (kn G base w0) 27 [.ptr (.own pj) 0] H r H' ∧ IdsJ (G := G) (base := base) (w0 := w0) ts H r H' := by
  obtain ⟨r, H', hp, h1, h2, h3⟩ := ids_own (G := G) (base := base) (w0 := w0) h
  exact ⟨r, H', hp, h1.sl, h2, h3⟩
theorem e0 : [AV.int .i64 0, .int .i64 0, .int .i64 0, .bool false, .bool false, .bool false, .bool false, .int .i64 0, .int .i64 0, .bool false, .int .i64 0] = encT tk0 := rfl
theorem encT_len (u : Tk) : (encT u).length = 11 := rfl
theorem encT_one (u : Tk) : (encT u).all AV.one = true := rfl
theorem bx_st {e : TypeId} (u v : Tk) : wr (hnew H (.row e 11 (encT u))) (.own H.length) 0 (encT v) = some (hnew H (.row e 11 (encT v))) := by
  simp only [wr, hat_nn]
  rw [if_pos ⟨by simp [encT], wT.one v⟩]
  simp [setSeg, encT, hnew]
theorem bx_ld {c : Ctx} {e t : TypeId} (ha : isAggT c.P t = some true) (hs : szOf c.P t = some 11) (u : Tk) : aload c (hnew H (.row e 11 (encT u))) t (.ptr (.own H.length) 0) = some (.agg (encT u)) := by
  simp only [aload, ha, hs, Option.bind_some, if_true, rd, rowOf, hat_nn]
  rw [if_pos (by simp [encT])]; rfl
/-- j.Task(id) -/
def TaskS (ts : List Tk) (id : Int) (H : AHeap) : AV → AHeap → Prop := fun r H' => (∃ u, H' = hnew H (.row 35 11 (encT u))) ∧ ((tf ts id = none ∧ r = .tuple [.agg (encT tk0), .bool false]) ∨ ∃ t, tf ts id = some t ∧ r = .tuple [.agg (encT t), .bool true])
theorem task_ok (h : Jx H pj s bl k o f gs ts) (id : Int) : ∃ r H', Pt (kn G base w0) 14 [.ptr (.own pj) 0, .int .i64 id] H r H' ∧ TaskS ts id H r H' := by
  refine Pt.fn (n := 16) (rs := [.cell 4 35, .tmp 5]) Try.func14 (b := _) rfl rfl rfl (by decide) ?_
  repeat (first | with_reducible refine D.sq ?_ | with_reducible refine D.bl ?_ | with_reducible refine D.skip ?_ | with_reducible refine D.rg (T := none_) (by kernel_rfl) (by simp (maxSteps := 1000000) (disch := omega) only [rulesA, rulesB, numbered, ayield, mapO, constAV, scAV, optval, abin, aint, acmp, aconv, aun, aeq, aminmax, afieldAddr, abuild, anew, fieldPlaces, afill, setSeg, kn_P, Nat.reduceAdd, Nat.reduceMul, Nat.reducePow, Nat.reduceSub, Nat.reduceEqDiff, Nat.reduceLT, Nat.reduceLeDiff, Int.reduceEq, Int.reduceNe, Int.reduceLT, Int.reduceLE, Int.reduceAdd, Int.reduceSub, Int.reduceToNat, Int.reduceBNe, Int.reduceBEq, tyR, rulesC, fresh]; with_reducible rfl) ?_ | with_reducible refine D.ct2 (by simp (maxSteps := 1000000) (disch := omega) only [rulesV, numbered, constAV, scAV, Nat.reduceEqDiff, Nat.reduceLT, Nat.reduceLeDiff, rulesC, fresh]; with_reducible rfl) (by with_reducible rfl) ?_ | with_reducible refine D.cf2 (by simp (maxSteps := 1000000) (disch := omega) only [rulesV, numbered, constAV, scAV, Nat.reduceEqDiff, Nat.reduceLT, Nat.reduceLeDiff, rulesC, fresh]; with_reducible rfl) (by with_reducible rfl) ?_ | with_reducible refine D.exit ?_ | with_reducible refine D.ret ?_ | simp only [rulesK, Nat.reduceEqDiff])
  rw [e0]
  have hk : Keep H (hnew H (.row 35 11 (encT tk0))) (fun _ => False) := Keep.new _ _
  have h1 := h.keepF hk
  have b1 := bx_st (H := H) (e := 35) tk0
  have b2 : ∀ u, aload (kn G base w0).c (hnew H (.row 35 11 (encT u))) 35 (.ptr (.own H.length) 0) = some (.agg (encT u)) := bx_ld ag35 sz35
  have e35 : ∀ l off u H, astore (kn G base w0).c H 35 (.ptr l off) (.agg (encT u)) = wr H l off (encT u) := fun l off u H => by simp [astore, kn_P, sz35, cells_agg, encT_len]
  generalize hH1 : hnew H (.row 35 11 (encT tk0)) = H1 at *
  obtain ⟨r1, H2, hc, rfl, hg⟩ := call_only (κ := kn G base w0) (f := 30) (args := [.ptr (.own pj) 0, .int .i64 id]) (H := H1) (fun _ H r H' => GetS ts f gs bl id H r H') (get_okJ h1 id)
  rcases hg with ⟨hn, rfl⟩ | ⟨t, n, ht, hf, hn, hg, rfl⟩
  · refine D.rgC hc (by kernel_rfl) (by simp (maxSteps := 1000000) (disch := omega) only [rulesA, rulesB, numbered, ayield, mapO, constAV, scAV, optval, abin, aint, acmp, aconv, aun, aeq, aminmax, afieldAddr, abuild, anew, fieldPlaces, afill, setSeg, kn_P, Nat.reduceAdd, Nat.reduceMul, Nat.reducePow, Nat.reduceSub, Nat.reduceEqDiff, Nat.reduceLT, Nat.reduceLeDiff, Int.reduceEq, Int.reduceNe, Int.reduceLT, Int.reduceLE, Int.reduceAdd, Int.reduceSub, Int.reduceToNat, Int.reduceBNe, Int.reduceBEq, tyR, rulesC, hc, hJ30]; with_reducible rfl) ?_
    repeat (first | with_reducible refine D.sq ?_ | with_reducible refine D.bl ?_ | with_reducible refine D.skip ?_ | with_reducible refine D.rg (T := none_) (by kernel_rfl) (by simp (maxSteps := 1000000) (disch := omega) only [rulesA, rulesB, numbered, ayield, mapO, constAV, scAV, optval, abin, aint, acmp, aconv, aun, aeq, aminmax, afieldAddr, abuild, anew, fieldPlaces, afill, setSeg, kn_P, Nat.reduceAdd, Nat.reduceMul, Nat.reducePow, Nat.reduceSub, Nat.reduceEqDiff, Nat.reduceLT, Nat.reduceLeDiff, Int.reduceEq, Int.reduceNe, Int.reduceLT, Int.reduceLE, Int.reduceAdd, Int.reduceSub, Int.reduceToNat, Int.reduceBNe, Int.reduceBEq, tyR, rulesC, e0, e35, b1]; with_reducible rfl) ?_ | with_reducible refine D.ct2 (by simp (maxSteps := 1000000) (disch := omega) only [rulesV, numbered, constAV, scAV, Nat.reduceEqDiff, Nat.reduceLT, Nat.reduceLeDiff, rulesC, e0, e35, b1]; with_reducible rfl) (by with_reducible rfl) ?_ | with_reducible refine D.cf2 (by simp (maxSteps := 1000000) (disch := omega) only [rulesV, numbered, constAV, scAV, Nat.reduceEqDiff, Nat.reduceLT, Nat.reduceLeDiff, rulesC, e0, e35, b1]; with_reducible rfl) (by with_reducible rfl) ?_ | with_reducible refine D.exit ?_ | with_reducible refine D.ret ?_ | simp only [rulesK, Nat.reduceEqDiff])
    refine ⟨_, by simp only [resOf, aresult, rulesA, rulesB, numbered, ayield, mapO, constAV, scAV, optval, abin, aint, acmp, aconv, aun, aeq, aminmax, afieldAddr, abuild, anew, fieldPlaces, afill, setSeg, kn_P, Nat.reduceAdd, Nat.reduceMul, Nat.reducePow, Nat.reduceSub, Nat.reduceEqDiff, Nat.reduceLT, Nat.reduceLeDiff, Int.reduceEq, Int.reduceNe, Int.reduceLT, Int.reduceLE, Int.reduceAdd, Int.reduceSub, Int.reduceToNat, Int.reduceBNe, Int.reduceBEq, tyR, b2]; with_reducible rfl, ?_⟩
    exact ⟨⟨tk0, rfl⟩, .inl ⟨hn, rfl⟩⟩
  · refine D.rgC hc (by kernel_rfl) (by simp (maxSteps := 1000000) (disch := omega) only [rulesA, rulesB, numbered, ayield, mapO, constAV, scAV, optval, abin, aint, acmp, aconv, aun, aeq, aminmax, afieldAddr, abuild, anew, fieldPlaces, afill, setSeg, kn_P, Nat.reduceAdd, Nat.reduceMul, Nat.reducePow, Nat.reduceSub, Nat.reduceEqDiff, Nat.reduceLT, Nat.reduceLeDiff, Int.reduceEq, Int.reduceNe, Int.reduceLT, Int.reduceLE, Int.reduceAdd, Int.reduceSub, Int.reduceToNat, Int.reduceBNe, Int.reduceBEq, tyR, rulesC, hc, hJ30]; with_reducible rfl) ?_
    repeat (first | with_reducible refine D.sq ?_ | with_reducible refine D.bl ?_ | with_reducible refine D.skip ?_ | with_reducible refine D.rg (T := none_) (by kernel_rfl) (by simp (maxSteps := 1000000) (disch := omega) only [rulesA, rulesB, numbered, ayield, mapO, constAV, scAV, optval, abin, aint, acmp, aconv, aun, aeq, aminmax, afieldAddr, abuild, anew, fieldPlaces, afill, setSeg, kn_P, Nat.reduceAdd, Nat.reduceMul, Nat.reducePow, Nat.reduceSub, Nat.reduceEqDiff, Nat.reduceLT, Nat.reduceLeDiff, Int.reduceEq, Int.reduceNe, Int.reduceLT, Int.reduceLE, Int.reduceAdd, Int.reduceSub, Int.reduceToNat, Int.reduceBNe, Int.reduceBEq, tyR, rulesC, (cel (G := G) (base := base) (w0 := w0) h1.cells hg).all, e35, b1]; with_reducible rfl) ?_ | with_reducible refine D.ct2 (by simp (maxSteps := 1000000) (disch := omega) only [rulesV, numbered, constAV, scAV, Nat.reduceEqDiff, Nat.reduceLT, Nat.reduceLeDiff, rulesC, (cel (G := G) (base := base) (w0 := w0) h1.cells hg).all, e35, b1]; with_reducible rfl) (by with_reducible rfl) ?_ | with_reducible refine D.cf2 (by simp (maxSteps := 1000000) (disch := omega) only [rulesV, numbered, constAV, scAV, Nat.reduceEqDiff, Nat.reduceLT, Nat.reduceLeDiff, rulesC, (cel (G := G) (base := base) (w0 := w0) h1.cells hg).all, e35, b1]; with_reducible rfl) (by with_reducible rfl) ?_ | with_reducible refine D.exit ?_ | with_reducible refine D.ret ?_ | simp only [rulesK, Nat.reduceEqDiff])
    refine ⟨_, by simp only [resOf, aresult, rulesA, rulesB, numbered, ayield, mapO, constAV, scAV, optval, abin, aint, acmp, aconv, aun, aeq, aminmax, afieldAddr, abuild, anew, fieldPlaces, afill, setSeg, kn_P, Nat.reduceAdd, Nat.reduceMul, Nat.reducePow, Nat.reduceSub, Nat.reduceEqDiff, Nat.reduceLT, Nat.reduceLeDiff, Int.reduceEq, Int.reduceNe, Int.reduceLT, Int.reduceLE, Int.reduceAdd, Int.reduceSub, Int.reduceToNat, Int.reduceBNe, Int.reduceBEq, tyR, b2]; with_reducible rfl, ?_⟩
    exact ⟨⟨t, rfl⟩, .inr ⟨t, ht, rfl⟩⟩
/-- j.gone(id) -/
def GoneS (t : Tk) (H : AHeap) (pj s bl k : Nat) (o : Tb) (ts : List Tk) : AV → AHeap → Prop := fun r H' => r = .tuple [] ∧ ∃ o', JS H' pj s bl k o' (tdel ts t.id) ∧ Kp H H' bl o o'
theorem gone_ok (h : Jx H pj s bl k o f gs ts) {t : Tk} (ht : tf ts t.id = some t) : ∃ r H', Pt (kn G base w0) 31 [.ptr (.own pj) 0, .int .i64 t.id] H r H' ∧ GoneS t H pj s bl k o ts r H' := by
  have e35 : ∀ l off u H, astore (kn G base w0).c H 35 (.ptr l off) (.agg (encT u)) = wr H l off (encT u) := fun l off u H => by simp [astore, kn_P, sz35, cells_agg, encT_len]
  refine Pt.fn (n := 15) (rs := []) Try.func31 (b := _) rfl rfl rfl (by decide) ?_
  refine D.sq ?_
  obtain ⟨r1, H2, hc, rfl, hg⟩ := call_only (κ := kn G base w0) (f := 30) (args := [.ptr (.own pj) 0, .int .i64 t.id]) (H := H) (fun _ H r H' => GetS ts f gs bl t.id H r H') (get_okJ h t.id)
  rcases hg with ⟨hn, rfl⟩ | ⟨t', n, ht', hf, hn, hg, rfl⟩
  · rw [ht] at hn; cases hn
  rw [ht] at ht'; cases ht'
  have p1 := (put1 h.cells hg).all
  refine D.rgC hc (by kernel_rfl) (by simp (maxSteps := 1000000) (disch := omega) only [rulesA, rulesB, numbered, ayield, mapO, constAV, scAV, optval, abin, aint, acmp, aconv, aun, aeq, aminmax, afieldAddr, abuild, anew, fieldPlaces, afill, setSeg, kn_P, Nat.reduceAdd, Nat.reduceMul, Nat.reducePow, Nat.reduceSub, Nat.reduceEqDiff, Nat.reduceLT, Nat.reduceLeDiff, Int.reduceEq, Int.reduceNe, Int.reduceLT, Int.reduceLE, Int.reduceAdd, Int.reduceSub, Int.reduceToNat, Int.reduceBNe, Int.reduceBEq, tyR, rulesC, hc, hJ30, e0, e35, p1 tk0]; with_reducible rfl) ?_
  simp only [rulesK, Nat.reduceEqDiff]
  have hT : T (hz H2 bl n gs tk0) s o k f ts.length := h.t.keep fun j hj => hz_ne (by rintro rfl; rcases hj with e | e; exact h.n3.1 e; exact h.n3.2 e)
  have l0 : aload (kn G base w0).c (hz H2 bl n gs tk0) 62 (.ptr (.own pj) 0) = some (.ptr (.own s) 0) := ld_own (by rw [hz_ne h.n1]; exact h.row) rfl ag62
  obtain ⟨r2, H3, hc2, hd⟩ := call_only (κ := kn G base w0) (f := 40) (args := [.ptr (.own s) 0, .int .i64 t.id]) (H := hz H2 bl n gs tk0) (fun _ H r H' => DropT t.id H s o k f ts.length r H') (dropT hT t.id)
  rcases hd with ⟨hno, _, _⟩ | ⟨m, b', c', hm, hmk, rfl, hcc, hT3, hb', hK3⟩
  · rw [hno] at hf; cases hf
  refine D.rgC hc2 (by kernel_rfl) (by simp (maxSteps := 1000000) (disch := omega) only [rulesA, rulesB, numbered, ayield, mapO, constAV, scAV, optval, abin, aint, acmp, aconv, aun, aeq, aminmax, afieldAddr, abuild, anew, fieldPlaces, afill, setSeg, kn_P, Nat.reduceAdd, Nat.reduceMul, Nat.reducePow, Nat.reduceSub, Nat.reduceEqDiff, Nat.reduceLT, Nat.reduceLeDiff, Int.reduceEq, Int.reduceNe, Int.reduceLT, Int.reduceLE, Int.reduceAdd, Int.reduceSub, Int.reduceToNat, Int.reduceBNe, Int.reduceBEq, tyR, rulesC, hc2, hb10, l0]; with_reducible rfl) ?_
  simp only [rulesK, Nat.reduceEqDiff]
  refine ⟨_, by simp only [resOf, aresult, rulesA, rulesB, numbered, ayield, mapO, constAV, scAV, optval, abin, aint, acmp, aconv, aun, aeq, aminmax, afieldAddr, abuild, anew, fieldPlaces, afill, setSeg, kn_P, Nat.reduceAdd, Nat.reduceMul, Nat.reducePow, Nat.reduceSub, Nat.reduceEqDiff, Nat.reduceLT, Nat.reduceLeDiff, Int.reduceEq, Int.reduceNe, Int.reduceLT, Int.reduceLE, Int.reduceAdd, Int.reduceSub, Int.reduceToNat, Int.reduceBNe, Int.reduceBEq, tyR]; with_reducible rfl, ?_⟩
  refine ⟨rfl, _, ⟨_, _, h.del ht hf hg hcc hT3 hK3 ?_⟩, ⟨?_, ?_⟩⟩
  · rintro j (e | e | e | e | e)
    · exact .inl (.inl e)
    · exact .inl (.inr (.inl e))
    · exact .inl (.inr (.inr (.inl e)))
    · exact .inl (.inr (.inr (.inr (.inl e))))
    · rcases hb' with hb' | hb'
      · exact .inl (.inr (.inr (.inr (.inr (e.trans hb')))))
      · rw [hz_len] at hb'; exact .inr (by have : j = b' := e; omega)
  · exact (hz_keep.mono (S' := JOwn bl o) fun _ _ e => .inl e).trans' (hK3.mono (S' := JOwn bl o) fun _ _ e => .inr e) fun j hj e => e
  · rintro j (e | e | e | e | e)
    · exact .inl (.inl e)
    · exact .inl (.inr (.inl e))
    · exact .inl (.inr (.inr (.inl e)))
    · exact .inl (.inr (.inr (.inr (.inl e))))
    · rcases hb' with hb' | hb'
      · exact .inl (.inr (.inr (.inr (.inr (e.trans hb')))))
      · rw [hz_len] at hb'; exact .inr (by have : j = b' := e; omega)

end Go.Proofs.Ytecfofmndpgnjaa.sy

/- jobs.Jobs (own work): IDs, Task, gone, Join, Leave, Arrive, Finish, Give walked. -/
namespace Go.Proofs.Ytecfofmndpgnjaa.sy
open Go.AM Go.AM.Hp Go.AM.Jb
set_option linter.unusedSimpArgs false
set_option linter.unusedVariables false
variable {G : List Nat → Option (List AV)} {base : Nat} {w0 : World}
set_option maxRecDepth 100000
set_option maxHeartbeats 8000000
variable {H : AHeap} {pj s bl k : Nat} {o : Tb} {f : Int → Option Int} {gs ts : List Tk}
/-- j.Join(id, e, p, sporadic) -/
def DeedS (q : List Tk × Int) (H : AHeap) (pj s bl k : Nat) (o : Tb) : AV → AHeap → Prop := fun r H' => r = .int .i64 q.2 ∧ ∃ o', JS H' pj s bl k o' q.1 ∧ Kp H H' bl o o'
theorem as35 {l : Go.AM.Loc} {off : Nat} {u : Tk} {H : AHeap} : astore (kn G base w0).c H 35 (.ptr l off) (.agg (encT u)) = wr H l off (encT u) := by simp [astore, kn_P, sz35, cells_agg, encT_len]
theorem bld35 (id e p : Int) (sp : Bool) : abuild (kn G base w0).c 35 [(0, .int .i64 id), (1, .int .i64 e), (2, .int .i64 p), (3, .bool sp)] = some (.agg (encT (new1 id e p sp))) := by kernel_rfl
theorem join_ok (h : Jx H pj s bl k o f gs ts) {id e p : Int} (sp : Bool) (hid : -9223372036854775808 ≤ id ∧ id ≤ 9223372036854775807) : ∃ r H', Pt (kn G base w0) 10 [.ptr (.own pj) 0, .int .i64 id, .int .i64 e, .int .i64 p, .bool sp] H r H' ∧ DeedS (tjoin k ts id e p sp) H pj s bl k o r H' := by
  have l0 : aload (kn G base w0).c H 62 (.ptr (.own pj) 0) = some (.ptr (.own s) 0) := ld_own h.row rfl ag62
  refine Pt.fn (n := 51) (rs := [.tmp 10]) Try.func10 (b := _) rfl rfl rfl (by decide) ?_
  by_cases hm : may e p
  rotate_left
  · have hj : tjoin k ts id e p sp = (ts, 2) := by rw [tjoin, if_pos hm]
    rw [hj]
    have hcase : e < 1 ∨ (1 ≤ e ∧ p < e) ∨ (1 ≤ e ∧ e ≤ p ∧ 1048575 < p) := by unfold may at hm; omega
    rcases hcase with h1 | ⟨h1, h2⟩ | ⟨h1, h2, h3⟩
    all_goals
      repeat (first | with_reducible refine D.sq ?_ | with_reducible refine D.bl ?_ | with_reducible refine D.skip ?_ | with_reducible refine D.rg (T := none_) (by kernel_rfl) (by simp (maxSteps := 1000000) (disch := omega) only [rulesA, rulesB, numbered, ayield, mapO, constAV, scAV, optval, abin, aint, acmp, aconv, aun, aeq, aminmax, afieldAddr, abuild, anew, fieldPlaces, afill, setSeg, kn_P, Nat.reduceAdd, Nat.reduceMul, Nat.reducePow, Nat.reduceSub, Nat.reduceEqDiff, Nat.reduceLT, Nat.reduceLeDiff, Int.reduceEq, Int.reduceNe, Int.reduceLT, Int.reduceLE, Int.reduceAdd, Int.reduceSub, Int.reduceToNat, Int.reduceBNe, Int.reduceBEq, tyR, rulesC]; with_reducible rfl) ?_ | with_reducible refine D.ct2 (by simp (maxSteps := 1000000) (disch := omega) only [rulesV, numbered, constAV, scAV, Nat.reduceEqDiff, Nat.reduceLT, Nat.reduceLeDiff, rulesC]; with_reducible rfl) (by with_reducible rfl) ?_ | with_reducible refine D.cf2 (by simp (maxSteps := 1000000) (disch := omega) only [rulesV, numbered, constAV, scAV, Nat.reduceEqDiff, Nat.reduceLT, Nat.reduceLeDiff, rulesC]; with_reducible rfl) (by with_reducible rfl) ?_ | with_reducible refine D.exit ?_ | with_reducible refine D.ret ?_ | simp only [rulesK, Nat.reduceEqDiff])
      refine ⟨_, by simp only [resOf, aresult, rulesA, rulesB, numbered, ayield, mapO, constAV, scAV, optval, abin, aint, acmp, aconv, aun, aeq, aminmax, afieldAddr, abuild, anew, fieldPlaces, afill, setSeg, kn_P, Nat.reduceAdd, Nat.reduceMul, Nat.reducePow, Nat.reduceSub, Nat.reduceEqDiff, Nat.reduceLT, Nat.reduceLeDiff, Int.reduceEq, Int.reduceNe, Int.reduceLT, Int.reduceLE, Int.reduceAdd, Int.reduceSub, Int.reduceToNat, Int.reduceBNe, Int.reduceBEq, tyR]; with_reducible rfl, ?_⟩
      exact ⟨rfl, o, ⟨f, gs, h⟩, Kp.refl⟩
  obtain ⟨h1, h2, h3⟩ := hm
  repeat (first | with_reducible refine D.sq ?_ | with_reducible refine D.bl ?_ | with_reducible refine D.skip ?_ | with_reducible refine D.rg (T := none_) (by kernel_rfl) (by simp (maxSteps := 1000000) (disch := omega) only [rulesA, rulesB, numbered, ayield, mapO, constAV, scAV, optval, abin, aint, acmp, aconv, aun, aeq, aminmax, afieldAddr, abuild, anew, fieldPlaces, afill, setSeg, kn_P, Nat.reduceAdd, Nat.reduceMul, Nat.reducePow, Nat.reduceSub, Nat.reduceEqDiff, Nat.reduceLT, Nat.reduceLeDiff, Int.reduceEq, Int.reduceNe, Int.reduceLT, Int.reduceLE, Int.reduceAdd, Int.reduceSub, Int.reduceToNat, Int.reduceBNe, Int.reduceBEq, tyR, rulesC]; with_reducible rfl) ?_ | with_reducible refine D.ct2 (by simp (maxSteps := 1000000) (disch := omega) only [rulesV, numbered, constAV, scAV, Nat.reduceEqDiff, Nat.reduceLT, Nat.reduceLeDiff, rulesC]; with_reducible rfl) (by with_reducible rfl) ?_ | with_reducible refine D.cf2 (by simp (maxSteps := 1000000) (disch := omega) only [rulesV, numbered, constAV, scAV, Nat.reduceEqDiff, Nat.reduceLT, Nat.reduceLeDiff, rulesC]; with_reducible rfl) (by with_reducible rfl) ?_ | with_reducible refine D.exit ?_ | with_reducible refine D.ret ?_ | simp only [rulesK, Nat.reduceEqDiff])
  obtain ⟨r1, H1, hc, hp⟩ := call_only (κ := kn G base w0) (f := 29) (args := [.ptr (.own s) 0, .int .i64 id]) (H := H) (fun _ H r H' => PutT id H s o k f ts.length r H') (putT h.t hid)
  have hm : may e p := ⟨h1, h2, h3⟩
  rcases hp with ⟨x, hx, rfl, rfl⟩ | ⟨hno, hcn, hfull, rfl, rfl⟩ | ⟨hno, hcn, n, hn, hn1, hn2, rfl, hT3, hK3⟩
  · refine D.rgC hc (by kernel_rfl) (by simp (maxSteps := 1000000) (disch := omega) only [rulesA, rulesB, numbered, ayield, mapO, constAV, scAV, optval, abin, aint, acmp, aconv, aun, aeq, aminmax, afieldAddr, abuild, anew, fieldPlaces, afill, setSeg, kn_P, Nat.reduceAdd, Nat.reduceMul, Nat.reducePow, Nat.reduceSub, Nat.reduceEqDiff, Nat.reduceLT, Nat.reduceLeDiff, Int.reduceEq, Int.reduceNe, Int.reduceLT, Int.reduceLE, Int.reduceAdd, Int.reduceSub, Int.reduceToNat, Int.reduceBNe, Int.reduceBEq, tyR, rulesC, hc, hb9, l0]; with_reducible rfl) ?_
    repeat (first | with_reducible refine D.sq ?_ | with_reducible refine D.bl ?_ | with_reducible refine D.skip ?_ | with_reducible refine D.rg (T := none_) (by kernel_rfl) (by simp (maxSteps := 1000000) (disch := omega) only [rulesA, rulesB, numbered, ayield, mapO, constAV, scAV, optval, abin, aint, acmp, aconv, aun, aeq, aminmax, afieldAddr, abuild, anew, fieldPlaces, afill, setSeg, kn_P, Nat.reduceAdd, Nat.reduceMul, Nat.reducePow, Nat.reduceSub, Nat.reduceEqDiff, Nat.reduceLT, Nat.reduceLeDiff, Int.reduceEq, Int.reduceNe, Int.reduceLT, Int.reduceLE, Int.reduceAdd, Int.reduceSub, Int.reduceToNat, Int.reduceBNe, Int.reduceBEq, tyR, rulesC]; with_reducible rfl) ?_ | with_reducible refine D.ct2 (by simp (maxSteps := 1000000) (disch := omega) only [rulesV, numbered, constAV, scAV, Nat.reduceEqDiff, Nat.reduceLT, Nat.reduceLeDiff, rulesC]; with_reducible rfl) (by with_reducible rfl) ?_ | with_reducible refine D.cf2 (by simp (maxSteps := 1000000) (disch := omega) only [rulesV, numbered, constAV, scAV, Nat.reduceEqDiff, Nat.reduceLT, Nat.reduceLeDiff, rulesC]; with_reducible rfl) (by with_reducible rfl) ?_ | with_reducible refine D.exit ?_ | with_reducible refine D.ret ?_ | simp only [rulesK, Nat.reduceEqDiff])
    refine ⟨_, by simp only [resOf, aresult, rulesA, rulesB, numbered, ayield, mapO, constAV, scAV, optval, abin, aint, acmp, aconv, aun, aeq, aminmax, afieldAddr, abuild, anew, fieldPlaces, afill, setSeg, kn_P, Nat.reduceAdd, Nat.reduceMul, Nat.reducePow, Nat.reduceSub, Nat.reduceEqDiff, Nat.reduceLT, Nat.reduceLeDiff, Int.reduceEq, Int.reduceNe, Int.reduceLT, Int.reduceLE, Int.reduceAdd, Int.reduceSub, Int.reduceToNat, Int.reduceBNe, Int.reduceBEq, tyR]; with_reducible rfl, ?_⟩
    obtain ⟨t, t1, t2⟩ := h.bwd id x hx
    have : tf ts id = some t := by rw [← t2]; exact h.srt.tf t1
    rw [tjoin, if_neg (by simpa using hm), this]
    exact ⟨rfl, o, ⟨f, gs, h⟩, Kp.refl⟩
  all_goals
    have hnf : tf ts id = none := by
      rw [tf_none]
      rintro t t1 rfl
      obtain ⟨m, g1, _⟩ := h.fwd t t1
      rw [hno] at g1; cases g1
  · refine D.rgC hc (by kernel_rfl) (by simp (maxSteps := 1000000) (disch := omega) only [rulesA, rulesB, numbered, ayield, mapO, constAV, scAV, optval, abin, aint, acmp, aconv, aun, aeq, aminmax, afieldAddr, abuild, anew, fieldPlaces, afill, setSeg, kn_P, Nat.reduceAdd, Nat.reduceMul, Nat.reducePow, Nat.reduceSub, Nat.reduceEqDiff, Nat.reduceLT, Nat.reduceLeDiff, Int.reduceEq, Int.reduceNe, Int.reduceLT, Int.reduceLE, Int.reduceAdd, Int.reduceSub, Int.reduceToNat, Int.reduceBNe, Int.reduceBEq, tyR, rulesC, hc, hb9, l0]; with_reducible rfl) ?_
    repeat (first | with_reducible refine D.sq ?_ | with_reducible refine D.bl ?_ | with_reducible refine D.skip ?_ | with_reducible refine D.rg (T := none_) (by kernel_rfl) (by simp (maxSteps := 1000000) (disch := omega) only [rulesA, rulesB, numbered, ayield, mapO, constAV, scAV, optval, abin, aint, acmp, aconv, aun, aeq, aminmax, afieldAddr, abuild, anew, fieldPlaces, afill, setSeg, kn_P, Nat.reduceAdd, Nat.reduceMul, Nat.reducePow, Nat.reduceSub, Nat.reduceEqDiff, Nat.reduceLT, Nat.reduceLeDiff, Int.reduceEq, Int.reduceNe, Int.reduceLT, Int.reduceLE, Int.reduceAdd, Int.reduceSub, Int.reduceToNat, Int.reduceBNe, Int.reduceBEq, tyR, rulesC]; with_reducible rfl) ?_ | with_reducible refine D.ct2 (by simp (maxSteps := 1000000) (disch := omega) only [rulesV, numbered, constAV, scAV, Nat.reduceEqDiff, Nat.reduceLT, Nat.reduceLeDiff, rulesC]; with_reducible rfl) (by with_reducible rfl) ?_ | with_reducible refine D.cf2 (by simp (maxSteps := 1000000) (disch := omega) only [rulesV, numbered, constAV, scAV, Nat.reduceEqDiff, Nat.reduceLT, Nat.reduceLeDiff, rulesC]; with_reducible rfl) (by with_reducible rfl) ?_ | with_reducible refine D.exit ?_ | with_reducible refine D.ret ?_ | simp only [rulesK, Nat.reduceEqDiff])
    refine ⟨_, by simp only [resOf, aresult, rulesA, rulesB, numbered, ayield, mapO, constAV, scAV, optval, abin, aint, acmp, aconv, aun, aeq, aminmax, afieldAddr, abuild, anew, fieldPlaces, afill, setSeg, kn_P, Nat.reduceAdd, Nat.reduceMul, Nat.reducePow, Nat.reduceSub, Nat.reduceEqDiff, Nat.reduceLT, Nat.reduceLeDiff, Int.reduceEq, Int.reduceNe, Int.reduceLT, Int.reduceLE, Int.reduceAdd, Int.reduceSub, Int.reduceToNat, Int.reduceBNe, Int.reduceBEq, tyR]; with_reducible rfl, ?_⟩
    rw [tjoin, if_neg (by simpa using hm), hnf, if_neg (by simp), if_pos (by omega)]
    exact ⟨rfl, o, ⟨f, gs, h⟩, Kp.refl⟩
  · refine D.rgC hc (by kernel_rfl) (by simp (maxSteps := 1000000) (disch := omega) only [rulesA, rulesB, numbered, ayield, mapO, constAV, scAV, optval, abin, aint, acmp, aconv, aun, aeq, aminmax, afieldAddr, abuild, anew, fieldPlaces, afill, setSeg, kn_P, Nat.reduceAdd, Nat.reduceMul, Nat.reducePow, Nat.reduceSub, Nat.reduceEqDiff, Nat.reduceLT, Nat.reduceLeDiff, Int.reduceEq, Int.reduceNe, Int.reduceLT, Int.reduceLE, Int.reduceAdd, Int.reduceSub, Int.reduceToNat, Int.reduceBNe, Int.reduceBEq, tyR, rulesC, hc, hb9, l0]; with_reducible rfl) ?_
    have hpl := hat_lt h.row
    have hbl := h.cells.lt
    have l1 : aload (kn G base w0).c H1 64 (.ptr (.own pj) 1) = some (.slice (.own bl) 11 0 k) := ld_own ((hK3.2 pj hpl h.n2.2).trans h.row) rfl ag64
    have hrow : RowF H1 bl 35 wT gs := h.cells.keep (hK3.2 bl hbl h.n3.2)
    have hx : aindexAddr (kn G base w0).c 64 (.slice (.own bl) 11 0 k) (.int .i64 (n : Int)) = some (.ptr (.own bl) (n * 11)) := ix_own Try.underlying64 sz35 (by decide) hn
    have hgl : n < gs.length := by rw [h.gl]; exact hn
    have hgn : gs[n]? = some gs[n] := List.getElem?_eq_getElem hgl
    have pA := (put1 hrow hgn).all (new1 id e p sp)
    repeat (first | with_reducible refine D.sq ?_ | with_reducible refine D.bl ?_ | with_reducible refine D.skip ?_ | with_reducible refine D.rg (T := none_) (by kernel_rfl) (by simp (maxSteps := 1000000) (disch := omega) only [rulesA, rulesB, numbered, ayield, mapO, constAV, scAV, optval, abin, aint, acmp, aconv, aun, aeq, aminmax, afieldAddr, anew, fieldPlaces, afill, setSeg, kn_P, Nat.reduceAdd, Nat.reduceMul, Nat.reducePow, Nat.reduceSub, Nat.reduceEqDiff, Nat.reduceLT, Nat.reduceLeDiff, Int.reduceEq, Int.reduceNe, Int.reduceLT, Int.reduceLE, Int.reduceAdd, Int.reduceSub, Int.reduceToNat, Int.reduceBNe, Int.reduceBEq, tyR, rulesC, l1, hx, bld35, as35, pA]; with_reducible rfl) ?_ | with_reducible refine D.ct2 (by simp (maxSteps := 1000000) (disch := omega) only [rulesV, numbered, constAV, scAV, Nat.reduceEqDiff, Nat.reduceLT, Nat.reduceLeDiff, rulesC, l1, hx, bld35, as35, pA]; with_reducible rfl) (by with_reducible rfl) ?_ | with_reducible refine D.cf2 (by simp (maxSteps := 1000000) (disch := omega) only [rulesV, numbered, constAV, scAV, Nat.reduceEqDiff, Nat.reduceLT, Nat.reduceLeDiff, rulesC, l1, hx, bld35, as35, pA]; with_reducible rfl) (by with_reducible rfl) ?_ | with_reducible refine D.exit ?_ | with_reducible refine D.ret ?_ | simp only [rulesK, Nat.reduceEqDiff])
    refine ⟨_, by simp only [resOf, aresult, rulesA, rulesB, numbered, ayield, mapO, constAV, scAV, optval, abin, aint, acmp, aconv, aun, aeq, aminmax, afieldAddr, abuild, anew, fieldPlaces, afill, setSeg, kn_P, Nat.reduceAdd, Nat.reduceMul, Nat.reducePow, Nat.reduceSub, Nat.reduceEqDiff, Nat.reduceLT, Nat.reduceLeDiff, Int.reduceEq, Int.reduceNe, Int.reduceLT, Int.reduceLE, Int.reduceAdd, Int.reduceSub, Int.reduceToNat, Int.reduceBNe, Int.reduceBEq, tyR]; with_reducible rfl, ?_⟩
    rw [tjoin, if_neg (by simpa using hm), hnf, if_neg (by simp), if_neg (by omega)]
    refine ⟨rfl, o, ⟨_, _, h.ins (t := new1 id e p sp) hnf hn hn1 hT3 hK3⟩, (Kp.trans ⟨hK3.mono fun _ _ e => .inr e, fun _ => .inl⟩ Kp.hz)⟩
end Go.Proofs.Ytecfofmndpgnjaa.sy

/- the document's own answer to jobs (own work): its table behind a pointer; At, TaskMay, without walked. -/
namespace Go.Proofs.Ytecfofmndpgnjaa.sy
open Go.AM Go.AM.Hp Go.AM.Jb
set_option linter.unusedSimpArgs false
set_option linter.unusedVariables false
variable {G : List Nat → Option (List AV)} {base : Nat} {w0 : World}
set_option maxRecDepth 100000
set_option maxHeartbeats 8000000
theorem hM24 : hasBody Try.prog 24 = true := by kernel_rfl
theorem hM33 : hasBody Try.prog 33 = true := by kernel_rfl
theorem hM32 : hasBody Try.prog 32 = true := by kernel_rfl
variable {H : AHeap} {bl : Nat} {gs : List Tk}
/-! ### one task's cells -/
def mz (H : AHeap) (bl n : Nat) (gs : List Tk) (u : Tk) : AHeap := hrow H bl 54 wT (gs.set n u)
theorem mz_len {n : Nat} {u : Tk} : (mz H bl n gs u).length = H.length := hrow_len
theorem mz_self (h : RowF H bl 54 wT gs) {n : Nat} {t : Tk} (hg : gs[n]? = some t) : mz H bl n gs t = H := by
  have : gs.set n t = gs := by
    apply List.ext_getElem?
    intro i
    rw [List.getElem?_set]
    split
    · rename_i e; subst e; split
      · exact hg.symm
      · rename_i hh; rw [List.getElem?_eq_none (by omega)]
    · rfl
  rw [mz, this, hrow_self h]
theorem mz_row (h : RowF H bl 54 wT gs) {n : Nat} {u : Tk} : RowF (mz H bl n gs u) bl 54 wT (gs.set n u) := hrow_at h.lt
theorem mz_ne {n j : Nat} {u : Tk} (h : j ≠ bl) : hat (mz H bl n gs u) j = hat H j := hrow_ne h
theorem mz_keep {n : Nat} {u : Tk} : Keep H (mz H bl n gs u) (fun j => j = bl) := hrow_keep
structure CelM (c : Ctx) (H : AHeap) (bl n : Nat) (t : Tk) : Prop where
  f0 : aload c H 3 (.ptr (.own bl) (n * 11 + 0)) = some (.int .i64 t.id)
  f1 : aload c H 3 (.ptr (.own bl) (n * 11 + 1)) = some (.int .i64 t.e)
  f2 : aload c H 3 (.ptr (.own bl) (n * 11 + 2)) = some (.int .i64 t.p)
  f3 : aload c H 4 (.ptr (.own bl) (n * 11 + 3)) = some (.bool t.sp)
  f4 : aload c H 4 (.ptr (.own bl) (n * 11 + 4)) = some (.bool t.lv)
  f5 : aload c H 4 (.ptr (.own bl) (n * 11 + 5)) = some (.bool t.wt)
  f6 : aload c H 4 (.ptr (.own bl) (n * 11 + 6)) = some (.bool t.ac)
  f7 : aload c H 3 (.ptr (.own bl) (n * 11 + 7)) = some (.int .i64 t.rl)
  f8 : aload c H 3 (.ptr (.own bl) (n * 11 + 8)) = some (.int .i64 t.gt)
  f9 : aload c H 4 (.ptr (.own bl) (n * 11 + 9)) = some (.bool t.dn)
  f10 : aload c H 3 (.ptr (.own bl) (n * 11 + 10)) = some (.int .i64 t.ct)
  all : aload c H 54 (.ptr (.own bl) (n * 11)) = some (.agg (encT t))
theorem celM {H : AHeap} {gs : List Tk} (h : RowF H bl 54 wT gs) {n : Nat} {t : Tk} (hg : gs[n]? = some t) : CelM (kn G base w0).c H bl n t := by
  obtain ⟨hn, hgt⟩ := List.getElem?_eq_some_iff.1 hg
  have e : ∀ (j : Nat) (v : AV), (encT t)[j]? = some v → (wT.enc gs[n])[j]? = some v := fun j v hv => by rw [hgt]; exact hv
  exact ⟨h.ld hn (j := 0) (by decide) (e 0 _ rfl) ag3, h.ld hn (j := 1) (by decide) (e 1 _ rfl) ag3, h.ld hn (j := 2) (by decide) (e 2 _ rfl) ag3, h.ld hn (j := 3) (by decide) (e 3 _ rfl) ag4, h.ld hn (j := 4) (by decide) (e 4 _ rfl) ag4, h.ld hn (j := 5) (by decide) (e 5 _ rfl) ag4,
    h.ld hn (j := 6) (by decide) (e 6 _ rfl) ag4, h.ld hn (j := 7) (by decide) (e 7 _ rfl) ag3, h.ld hn (j := 8) (by decide) (e 8 _ rfl) ag3, h.ld hn (j := 9) (by decide) (e 9 _ rfl) ag4, h.ld hn (j := 10) (by decide) (e 10 _ rfl) ag3, by rw [← hgt]; exact h.ldA hn ag54 sz54⟩
theorem mz_celM (h : RowF H bl 54 wT gs) {n : Nat} (hn : n < gs.length) (u : Tk) : CelM (kn G base w0).c (mz H bl n gs u) bl n u := celM (mz_row h) (by simp [hn])
theorem mz_mz {n : Nat} {u v : Tk} : mz (mz H bl n gs u) bl n (gs.set n u) v = mz H bl n gs v := by
  unfold mz; rw [hrow_set, List.set_set]
structure PutM (H0 H : AHeap) (bl n : Nat) (gs : List Tk) (t : Tk) : Prop where
  s4 : ∀ v, wr H0 (.own bl) (n * 11 + 4) [.bool v] = some (mz H bl n gs { t with lv := v })
  s5 : ∀ v, wr H0 (.own bl) (n * 11 + 5) [.bool v] = some (mz H bl n gs { t with wt := v })
  s6 : ∀ v, wr H0 (.own bl) (n * 11 + 6) [.bool v] = some (mz H bl n gs { t with ac := v })
  s7 : ∀ v, wr H0 (.own bl) (n * 11 + 7) [.int .i64 v] = some (mz H bl n gs { t with rl := v })
  s8 : ∀ v, wr H0 (.own bl) (n * 11 + 8) [.int .i64 v] = some (mz H bl n gs { t with gt := v })
  s9 : ∀ v, wr H0 (.own bl) (n * 11 + 9) [.bool v] = some (mz H bl n gs { t with dn := v })
  s10 : ∀ v, wr H0 (.own bl) (n * 11 + 10) [.int .i64 v] = some (mz H bl n gs { t with ct := v })
  all : ∀ u, wr H0 (.own bl) (n * 11) (encT u) = some (mz H bl n gs u)
theorem putM (h : RowF H bl 54 wT gs) {n : Nat} {t : Tk} (hg : gs[n]? = some t) : PutM H H bl n gs t := by
  obtain ⟨hn, hgt⟩ := List.getElem?_eq_some_iff.1 hg
  have e : ∀ (j : Nat) (v : AV) (u : Tk), encT u = (encT t).set j v → wT.enc u = (wT.enc gs[n]).set j v := fun j v u hv => by rw [hgt]; exact hv
  exact ⟨fun v => h.st hn (j := 4) (by decide) rfl (e 4 _ _ rfl), fun v => h.st hn (j := 5) (by decide) rfl (e 5 _ _ rfl), fun v => h.st hn (j := 6) (by decide) rfl (e 6 _ _ rfl), fun v => h.st hn (j := 7) (by decide) rfl (e 7 _ _ rfl),
    fun v => h.st hn (j := 8) (by decide) rfl (e 8 _ _ rfl), fun v => h.st hn (j := 9) (by decide) rfl (e 9 _ _ rfl), fun v => h.st hn (j := 10) (by decide) rfl (e 10 _ _ rfl), fun u => h.stA hn u⟩
theorem mz_putM (h : RowF H bl 54 wT gs) {n : Nat} (hn : n < gs.length) (u : Tk) : PutM (mz H bl n gs u) H bl n gs u := by
  have := putM (mz_row h (n := n) (u := u)) (n := n) (t := u) (by simp [hn])
  obtain ⟨a, b, c, d, e, f, g, i⟩ := this
  exact ⟨fun v => by rw [a, mz_mz], fun v => by rw [b, mz_mz], fun v => by rw [c, mz_mz], fun v => by rw [d, mz_mz], fun v => by rw [e, mz_mz], fun v => by rw [f, mz_mz], fun v => by rw [g, mz_mz], fun v => by rw [i, mz_mz]⟩

/-! ### the table -/
structure Mx (H : AHeap) (pm : Nat) (N : Int) (v : AV) (ts : List Tk) : Prop where
  row : hat H pm = some (.row 47 2 [.int .i64 N, v])
  own : OwnF H wT v 54 ts
  ne : v.at? ≠ some pm
  srt : Srt ts
variable {pm : Nat} {N : Int} {v : AV} {ts : List Tk}
def MOwn (pm : Nat) (v : AV) : Nat → Prop := fun j => j = pm ∨ v.at? = some j
theorem Mx.lt (h : Mx H pm N v ts) {j : Nat} (hj : MOwn pm v j) : j < H.length := by
  rcases hj with rfl | hj
  · exact hat_lt h.row
  · exact h.own.lt hj
theorem Mx.keep {H' : AHeap} (h : Mx H pm N v ts) (hk : ∀ j, MOwn pm v j → hat H' j = hat H j) : Mx H' pm N v ts :=
  ⟨by rw [hk pm (.inl rfl)]; exact h.row, h.own.keep fun b hb => hk b (.inr hb), h.ne, h.srt⟩
theorem Mx.blk (h : Mx H pm N v ts) (h0 : ts ≠ []) : ∃ bm, v = .slice (.own bm) 11 0 ts.length ∧ RowF H bm 54 wT ts ∧ bm ≠ pm := by
  rcases h.own with ⟨_, rfl⟩ | ⟨bm, rfl, hr⟩
  · exact absurd rfl h0
  · exact ⟨bm, rfl, hr, fun e => h.ne (by rw [e]; rfl)⟩
/-- what a deed may turn -/
structure Mk (H H' : AHeap) (pm : Nat) (v v' : AV) : Prop where
  keep : Keep H H' (MOwn pm v)
  own : ∀ b, v'.at? = some b → v.at? = some b ∨ H.length ≤ b
theorem Mk.refl : Mk H H pm v v := ⟨Keep.refl _, fun _ => .inl⟩
theorem m0 (h : Mx H pm N v ts) : aload (kn G base w0).c H 3 (.ptr (.own pm) 0) = some (.int .i64 N) := ld_own h.row rfl ag3
theorem m1 (h : Mx H pm N v ts) : aload (kn G base w0).c H 45 (.ptr (.own pm) 1) = some v := ld_own h.row rfl ag45
theorem ix45 {bm i n : Nat} (hi : i < n) : aindexAddr (kn G base w0).c 45 (.slice (.own bm) 11 0 n) (.int .i64 (i : Int)) = some (.ptr (.own bm) (i * 11)) := ix_own Try.underlying45 sz54 (by decide) hi
/-- j.At(id) -/
def AtS (ts : List Tk) (id : Int) (H : AHeap) : AV → AHeap → Prop := fun r H' => H' = H ∧ ((tf ts id = none ∧ r = .int .i64 (-1)) ∨ ∃ (t : Tk) (i : Nat), tf ts id = some t ∧ ts[i]? = some t ∧ i < ts.length ∧ r = .int .i64 i)
theorem at_ok (h : Mx H pm N v ts) (id : Int) (hl : ts.length ≤ 1000000) : ∃ r H', Pt (kn G base w0) 24 [.ptr (.own pm) 0, .int .i64 id] H r H' ∧ AtS ts id H r H' := by
  refine Pt.fn (n := 26) (rs := [.tmp 4]) Try.func24 (b := _) rfl rfl rfl (by decide) ?_
  have e1 := m1 (G := G) (base := base) (w0 := w0) h
  have el := h.own.sl.len (c := (kn G base w0).c) Try.underlying45
  repeat (first | with_reducible refine D.sq ?_ | with_reducible refine D.bl ?_ | with_reducible refine D.skip ?_ | with_reducible refine D.rg (T := none_) (by kernel_rfl) (by simp (maxSteps := 1000000) (disch := omega) only [rulesA, rulesB, numbered, ayield, mapO, constAV, scAV, optval, abin, aint, acmp, aconv, aun, aeq, aminmax, afieldAddr, abuild, anew, fieldPlaces, afill, setSeg, kn_P, Nat.reduceAdd, Nat.reduceMul, Nat.reducePow, Nat.reduceSub, Nat.reduceEqDiff, Nat.reduceLT, Nat.reduceLeDiff, Int.reduceEq, Int.reduceNe, Int.reduceLT, Int.reduceLE, Int.reduceAdd, Int.reduceSub, Int.reduceToNat, Int.reduceBNe, Int.reduceBEq, tyR, rulesC]; with_reducible rfl) ?_ | with_reducible refine D.ct2 (by simp (maxSteps := 1000000) (disch := omega) only [rulesV, numbered, constAV, scAV, Nat.reduceEqDiff, Nat.reduceLT, Nat.reduceLeDiff, rulesC]; with_reducible rfl) (by with_reducible rfl) ?_ | with_reducible refine D.cf2 (by simp (maxSteps := 1000000) (disch := omega) only [rulesV, numbered, constAV, scAV, Nat.reduceEqDiff, Nat.reduceLT, Nat.reduceLeDiff, rulesC]; with_reducible rfl) (by with_reducible rfl) ?_ | with_reducible refine D.exit ?_ | with_reducible refine D.ret ?_ | simp only [rulesK, Nat.reduceEqDiff])
  refine D.lp (fun m env H' => ∃ i : Nat, m = ts.length - i ∧ i ≤ ts.length ∧ H' = H ∧ (∀ j (hj : j < ts.length), j < i → ts[j].id ≠ id) ∧ ELe (E 26 [(5, .int .i64 i), (0, .ptr (.own pm) 0), (1, .int .i64 id)]) env) ts.length
    ⟨0, by omega, by omega, rfl, fun j hj h0 => by omega, by exact E_le (by decide) (E_size _ _) (by simp only [List.forall_mem_cons, List.not_mem_nil, false_implies, implies_true, and_true, E_get, Nat.reduceEqDiff, Nat.reduceLT, Nat.reduceLeDiff, if_true, if_false, and_self, true_and] <;> first | rfl | exact ⟨rfl, rfl⟩)⟩ ?_
  rintro m env H' ⟨i, rfl, hi, rfl, hno, he⟩
  refine D.forget he ?_
  clear he
  by_cases hin : i < ts.length
  rotate_left
  · obtain rfl : i = ts.length := by omega
    repeat (first | with_reducible refine D.sq ?_ | with_reducible refine D.bl ?_ | with_reducible refine D.skip ?_ | with_reducible refine D.rg (T := none_) (by kernel_rfl) (by simp (maxSteps := 1000000) (disch := omega) only [rulesA, rulesB, numbered, ayield, mapO, constAV, scAV, optval, abin, aint, acmp, aconv, aun, aeq, aminmax, afieldAddr, abuild, anew, fieldPlaces, afill, setSeg, kn_P, Nat.reduceAdd, Nat.reduceMul, Nat.reducePow, Nat.reduceSub, Nat.reduceEqDiff, Nat.reduceLT, Nat.reduceLeDiff, Int.reduceEq, Int.reduceNe, Int.reduceLT, Int.reduceLE, Int.reduceAdd, Int.reduceSub, Int.reduceToNat, Int.reduceBNe, Int.reduceBEq, tyR, rulesC, e1, el]; with_reducible rfl) ?_ | with_reducible refine D.ct2 (by simp (maxSteps := 1000000) (disch := omega) only [rulesV, numbered, constAV, scAV, Nat.reduceEqDiff, Nat.reduceLT, Nat.reduceLeDiff, rulesC, e1, el]; with_reducible rfl) (by with_reducible rfl) ?_ | with_reducible refine D.cf2 (by simp (maxSteps := 1000000) (disch := omega) only [rulesV, numbered, constAV, scAV, Nat.reduceEqDiff, Nat.reduceLT, Nat.reduceLeDiff, rulesC, e1, el]; with_reducible rfl) (by with_reducible rfl) ?_ | with_reducible refine D.exit ?_ | with_reducible refine D.ret ?_ | simp only [rulesK, Nat.reduceEqDiff])
    refine ⟨_, by simp only [resOf, aresult, rulesA, rulesB, numbered, ayield, mapO, constAV, scAV, optval, abin, aint, acmp, aconv, aun, aeq, aminmax, afieldAddr, abuild, anew, fieldPlaces, afill, setSeg, kn_P, Nat.reduceAdd, Nat.reduceMul, Nat.reducePow, Nat.reduceSub, Nat.reduceEqDiff, Nat.reduceLT, Nat.reduceLeDiff, Int.reduceEq, Int.reduceNe, Int.reduceLT, Int.reduceLE, Int.reduceAdd, Int.reduceSub, Int.reduceToNat, Int.reduceBNe, Int.reduceBEq, tyR]; with_reducible rfl, ?_⟩
    refine ⟨rfl, .inl ⟨tf_none.2 fun t ht e => ?_, rfl⟩⟩
    obtain ⟨j, hj, rfl⟩ := List.getElem_of_mem ht
    exact hno j hj hj e
  obtain ⟨bm, rfl, hr, hb⟩ := h.blk (by rintro rfl; simp at hin)
  have F := celM (G := G) (base := base) (w0 := w0) hr (List.getElem?_eq_getElem hin)
  by_cases hid : ts[i].id = id
  · have f0 := F.f0
    rw [hid] at f0
    repeat (first | with_reducible refine D.sq ?_ | with_reducible refine D.bl ?_ | with_reducible refine D.skip ?_ | with_reducible refine D.rg (T := none_) (by kernel_rfl) (by simp (maxSteps := 1000000) (disch := omega) only [rulesA, rulesB, numbered, ayield, mapO, constAV, scAV, optval, abin, aint, acmp, aconv, aun, aeq, aminmax, afieldAddr, abuild, anew, fieldPlaces, afill, setSeg, kn_P, Nat.reduceAdd, Nat.reduceMul, Nat.reducePow, Nat.reduceSub, Nat.reduceEqDiff, Nat.reduceLT, Nat.reduceLeDiff, Int.reduceEq, Int.reduceNe, Int.reduceLT, Int.reduceLE, Int.reduceAdd, Int.reduceSub, Int.reduceToNat, Int.reduceBNe, Int.reduceBEq, tyR, rulesC, e1, el, ix45 (G := G) (base := base) (w0 := w0) (bm := bm) hin, f0]; with_reducible rfl) ?_ | with_reducible refine D.ct2 (by simp (maxSteps := 1000000) (disch := omega) only [rulesV, numbered, constAV, scAV, Nat.reduceEqDiff, Nat.reduceLT, Nat.reduceLeDiff, rulesC, e1, el, ix45 (G := G) (base := base) (w0 := w0) (bm := bm) hin, f0]; with_reducible rfl) (by with_reducible rfl) ?_ | with_reducible refine D.cf2 (by simp (maxSteps := 1000000) (disch := omega) only [rulesV, numbered, constAV, scAV, Nat.reduceEqDiff, Nat.reduceLT, Nat.reduceLeDiff, rulesC, e1, el, ix45 (G := G) (base := base) (w0 := w0) (bm := bm) hin, f0]; with_reducible rfl) (by with_reducible rfl) ?_ | with_reducible refine D.exit ?_ | with_reducible refine D.ret ?_ | simp only [rulesK, Nat.reduceEqDiff])
    refine ⟨_, by simp only [resOf, aresult, rulesA, rulesB, numbered, ayield, mapO, constAV, scAV, optval, abin, aint, acmp, aconv, aun, aeq, aminmax, afieldAddr, abuild, anew, fieldPlaces, afill, setSeg, kn_P, Nat.reduceAdd, Nat.reduceMul, Nat.reducePow, Nat.reduceSub, Nat.reduceEqDiff, Nat.reduceLT, Nat.reduceLeDiff, Int.reduceEq, Int.reduceNe, Int.reduceLT, Int.reduceLE, Int.reduceAdd, Int.reduceSub, Int.reduceToNat, Int.reduceBNe, Int.reduceBEq, tyR]; with_reducible rfl, ?_⟩
    refine ⟨rfl, .inr ⟨ts[i], i, ?_, List.getElem?_eq_getElem hin, hin, rfl⟩⟩
    rw [← hid]; exact h.srt.tf (List.getElem_mem hin)
  · repeat (first | with_reducible refine D.sq ?_ | with_reducible refine D.bl ?_ | with_reducible refine D.skip ?_ | with_reducible refine D.rg (T := none_) (by kernel_rfl) (by simp (maxSteps := 1000000) (disch := omega) only [rulesA, rulesB, numbered, ayield, mapO, constAV, scAV, optval, abin, aint, acmp, aconv, aun, aeq, aminmax, afieldAddr, abuild, anew, fieldPlaces, afill, setSeg, kn_P, Nat.reduceAdd, Nat.reduceMul, Nat.reducePow, Nat.reduceSub, Nat.reduceEqDiff, Nat.reduceLT, Nat.reduceLeDiff, Int.reduceEq, Int.reduceNe, Int.reduceLT, Int.reduceLE, Int.reduceAdd, Int.reduceSub, Int.reduceToNat, Int.reduceBNe, Int.reduceBEq, tyR, rulesC, e1, el, ix45 (G := G) (base := base) (w0 := w0) (bm := bm) hin, F.f0]; with_reducible rfl) ?_ | with_reducible refine D.ct2 (by simp (maxSteps := 1000000) (disch := omega) only [rulesV, numbered, constAV, scAV, Nat.reduceEqDiff, Nat.reduceLT, Nat.reduceLeDiff, rulesC, e1, el, ix45 (G := G) (base := base) (w0 := w0) (bm := bm) hin, F.f0]; with_reducible rfl) (by with_reducible rfl) ?_ | with_reducible refine D.cf2 (by simp (maxSteps := 1000000) (disch := omega) only [rulesV, numbered, constAV, scAV, Nat.reduceEqDiff, Nat.reduceLT, Nat.reduceLeDiff, rulesC, e1, el, ix45 (G := G) (base := base) (w0 := w0) (bm := bm) hin, F.f0]; with_reducible rfl) (by with_reducible rfl) ?_ | with_reducible refine D.exit ?_ | with_reducible refine D.ret ?_ | simp only [rulesK, Nat.reduceEqDiff])
    refine ⟨ts.length - (i + 1), by omega, i + 1, (by first | exact rfl | exact True.intro), by omega, (by first | exact rfl | exact True.intro), fun j hj hji => ?_, by exact E_le (by decide) (E_size _ _) (by simp only [List.forall_mem_cons, List.not_mem_nil, false_implies, implies_true, and_true, E_get, Nat.reduceEqDiff, Nat.reduceLT, Nat.reduceLeDiff, if_true, if_false, and_self, true_and] <;> first | rfl | exact ⟨rfl, rfl⟩)⟩
    by_cases e : j = i
    · subst e; exact hid
    · exact hno j hj (by omega)
theorem may_ok (e p : Int) : ∃ r H', Pt (kn G base w0) 32 [.int .i64 e, .int .i64 p] H r H' ∧ (r = .bool (decide (may e p)) ∧ H' = H) := by
  refine Pt.fn (n := 20) (rs := [.tmp 4]) Try.func32 (b := _) rfl rfl rfl (by decide) ?_
  by_cases h1 : 1 ≤ p
  · by_cases h2 : p ≤ 1048575
    · by_cases h3 : 1 ≤ e
      · by_cases h4 : e ≤ p
        · repeat (first | with_reducible refine D.sq ?_ | with_reducible refine D.bl ?_ | with_reducible refine D.skip ?_ | with_reducible refine D.rg (T := none_) (by kernel_rfl) (by simp (maxSteps := 1000000) (disch := omega) only [rulesA, rulesB, numbered, ayield, mapO, constAV, scAV, optval, abin, aint, acmp, aconv, aun, aeq, aminmax, afieldAddr, abuild, anew, fieldPlaces, afill, setSeg, kn_P, Nat.reduceAdd, Nat.reduceMul, Nat.reducePow, Nat.reduceSub, Nat.reduceEqDiff, Nat.reduceLT, Nat.reduceLeDiff, Int.reduceEq, Int.reduceNe, Int.reduceLT, Int.reduceLE, Int.reduceAdd, Int.reduceSub, Int.reduceToNat, Int.reduceBNe, Int.reduceBEq, tyR, rulesC]; with_reducible rfl) ?_ | with_reducible refine D.ct2 (by simp (maxSteps := 1000000) (disch := omega) only [rulesV, numbered, constAV, scAV, Nat.reduceEqDiff, Nat.reduceLT, Nat.reduceLeDiff, rulesC]; with_reducible rfl) (by with_reducible rfl) ?_ | with_reducible refine D.cf2 (by simp (maxSteps := 1000000) (disch := omega) only [rulesV, numbered, constAV, scAV, Nat.reduceEqDiff, Nat.reduceLT, Nat.reduceLeDiff, rulesC]; with_reducible rfl) (by with_reducible rfl) ?_ | with_reducible refine D.exit ?_ | with_reducible refine D.ret ?_ | simp only [rulesK, Nat.reduceEqDiff])
          refine ⟨_, by simp only [resOf, aresult, rulesA, rulesB, numbered, ayield, mapO, constAV, scAV, optval, abin, aint, acmp, aconv, aun, aeq, aminmax, afieldAddr, abuild, anew, fieldPlaces, afill, setSeg, kn_P, Nat.reduceAdd, Nat.reduceMul, Nat.reducePow, Nat.reduceSub, Nat.reduceEqDiff, Nat.reduceLT, Nat.reduceLeDiff, Int.reduceEq, Int.reduceNe, Int.reduceLT, Int.reduceLE, Int.reduceAdd, Int.reduceSub, Int.reduceToNat, Int.reduceBNe, Int.reduceBEq, tyR]; with_reducible rfl, ?_⟩
          exact ⟨by rw [decide_eq_true (show may e p from ⟨h3, h4, h2⟩)], (by first | exact rfl | exact True.intro)⟩
        · repeat (first | with_reducible refine D.sq ?_ | with_reducible refine D.bl ?_ | with_reducible refine D.skip ?_ | with_reducible refine D.rg (T := none_) (by kernel_rfl) (by simp (maxSteps := 1000000) (disch := omega) only [rulesA, rulesB, numbered, ayield, mapO, constAV, scAV, optval, abin, aint, acmp, aconv, aun, aeq, aminmax, afieldAddr, abuild, anew, fieldPlaces, afill, setSeg, kn_P, Nat.reduceAdd, Nat.reduceMul, Nat.reducePow, Nat.reduceSub, Nat.reduceEqDiff, Nat.reduceLT, Nat.reduceLeDiff, Int.reduceEq, Int.reduceNe, Int.reduceLT, Int.reduceLE, Int.reduceAdd, Int.reduceSub, Int.reduceToNat, Int.reduceBNe, Int.reduceBEq, tyR, rulesC]; with_reducible rfl) ?_ | with_reducible refine D.ct2 (by simp (maxSteps := 1000000) (disch := omega) only [rulesV, numbered, constAV, scAV, Nat.reduceEqDiff, Nat.reduceLT, Nat.reduceLeDiff, rulesC]; with_reducible rfl) (by with_reducible rfl) ?_ | with_reducible refine D.cf2 (by simp (maxSteps := 1000000) (disch := omega) only [rulesV, numbered, constAV, scAV, Nat.reduceEqDiff, Nat.reduceLT, Nat.reduceLeDiff, rulesC]; with_reducible rfl) (by with_reducible rfl) ?_ | with_reducible refine D.exit ?_ | with_reducible refine D.ret ?_ | simp only [rulesK, Nat.reduceEqDiff])
          refine ⟨_, by simp only [resOf, aresult, rulesA, rulesB, numbered, ayield, mapO, constAV, scAV, optval, abin, aint, acmp, aconv, aun, aeq, aminmax, afieldAddr, abuild, anew, fieldPlaces, afill, setSeg, kn_P, Nat.reduceAdd, Nat.reduceMul, Nat.reducePow, Nat.reduceSub, Nat.reduceEqDiff, Nat.reduceLT, Nat.reduceLeDiff, Int.reduceEq, Int.reduceNe, Int.reduceLT, Int.reduceLE, Int.reduceAdd, Int.reduceSub, Int.reduceToNat, Int.reduceBNe, Int.reduceBEq, tyR]; with_reducible rfl, ?_⟩
          exact ⟨by rw [decide_eq_false (show ¬ may e p from fun h => h4 h.2.1)], (by first | exact rfl | exact True.intro)⟩
      · repeat (first | with_reducible refine D.sq ?_ | with_reducible refine D.bl ?_ | with_reducible refine D.skip ?_ | with_reducible refine D.rg (T := none_) (by kernel_rfl) (by simp (maxSteps := 1000000) (disch := omega) only [rulesA, rulesB, numbered, ayield, mapO, constAV, scAV, optval, abin, aint, acmp, aconv, aun, aeq, aminmax, afieldAddr, abuild, anew, fieldPlaces, afill, setSeg, kn_P, Nat.reduceAdd, Nat.reduceMul, Nat.reducePow, Nat.reduceSub, Nat.reduceEqDiff, Nat.reduceLT, Nat.reduceLeDiff, Int.reduceEq, Int.reduceNe, Int.reduceLT, Int.reduceLE, Int.reduceAdd, Int.reduceSub, Int.reduceToNat, Int.reduceBNe, Int.reduceBEq, tyR, rulesC]; with_reducible rfl) ?_ | with_reducible refine D.ct2 (by simp (maxSteps := 1000000) (disch := omega) only [rulesV, numbered, constAV, scAV, Nat.reduceEqDiff, Nat.reduceLT, Nat.reduceLeDiff, rulesC]; with_reducible rfl) (by with_reducible rfl) ?_ | with_reducible refine D.cf2 (by simp (maxSteps := 1000000) (disch := omega) only [rulesV, numbered, constAV, scAV, Nat.reduceEqDiff, Nat.reduceLT, Nat.reduceLeDiff, rulesC]; with_reducible rfl) (by with_reducible rfl) ?_ | with_reducible refine D.exit ?_ | with_reducible refine D.ret ?_ | simp only [rulesK, Nat.reduceEqDiff])
        refine ⟨_, by simp only [resOf, aresult, rulesA, rulesB, numbered, ayield, mapO, constAV, scAV, optval, abin, aint, acmp, aconv, aun, aeq, aminmax, afieldAddr, abuild, anew, fieldPlaces, afill, setSeg, kn_P, Nat.reduceAdd, Nat.reduceMul, Nat.reducePow, Nat.reduceSub, Nat.reduceEqDiff, Nat.reduceLT, Nat.reduceLeDiff, Int.reduceEq, Int.reduceNe, Int.reduceLT, Int.reduceLE, Int.reduceAdd, Int.reduceSub, Int.reduceToNat, Int.reduceBNe, Int.reduceBEq, tyR]; with_reducible rfl, ?_⟩
        exact ⟨by rw [decide_eq_false (show ¬ may e p from fun h => h3 h.1)], (by first | exact rfl | exact True.intro)⟩
    · repeat (first | with_reducible refine D.sq ?_ | with_reducible refine D.bl ?_ | with_reducible refine D.skip ?_ | with_reducible refine D.rg (T := none_) (by kernel_rfl) (by simp (maxSteps := 1000000) (disch := omega) only [rulesA, rulesB, numbered, ayield, mapO, constAV, scAV, optval, abin, aint, acmp, aconv, aun, aeq, aminmax, afieldAddr, abuild, anew, fieldPlaces, afill, setSeg, kn_P, Nat.reduceAdd, Nat.reduceMul, Nat.reducePow, Nat.reduceSub, Nat.reduceEqDiff, Nat.reduceLT, Nat.reduceLeDiff, Int.reduceEq, Int.reduceNe, Int.reduceLT, Int.reduceLE, Int.reduceAdd, Int.reduceSub, Int.reduceToNat, Int.reduceBNe, Int.reduceBEq, tyR, rulesC]; with_reducible rfl) ?_ | with_reducible refine D.ct2 (by simp (maxSteps := 1000000) (disch := omega) only [rulesV, numbered, constAV, scAV, Nat.reduceEqDiff, Nat.reduceLT, Nat.reduceLeDiff, rulesC]; with_reducible rfl) (by with_reducible rfl) ?_ | with_reducible refine D.cf2 (by simp (maxSteps := 1000000) (disch := omega) only [rulesV, numbered, constAV, scAV, Nat.reduceEqDiff, Nat.reduceLT, Nat.reduceLeDiff, rulesC]; with_reducible rfl) (by with_reducible rfl) ?_ | with_reducible refine D.exit ?_ | with_reducible refine D.ret ?_ | simp only [rulesK, Nat.reduceEqDiff])
      refine ⟨_, by simp only [resOf, aresult, rulesA, rulesB, numbered, ayield, mapO, constAV, scAV, optval, abin, aint, acmp, aconv, aun, aeq, aminmax, afieldAddr, abuild, anew, fieldPlaces, afill, setSeg, kn_P, Nat.reduceAdd, Nat.reduceMul, Nat.reducePow, Nat.reduceSub, Nat.reduceEqDiff, Nat.reduceLT, Nat.reduceLeDiff, Int.reduceEq, Int.reduceNe, Int.reduceLT, Int.reduceLE, Int.reduceAdd, Int.reduceSub, Int.reduceToNat, Int.reduceBNe, Int.reduceBEq, tyR]; with_reducible rfl, ?_⟩
      exact ⟨by rw [decide_eq_false (show ¬ may e p from fun h => h2 h.2.2)], (by first | exact rfl | exact True.intro)⟩
  · repeat (first | with_reducible refine D.sq ?_ | with_reducible refine D.bl ?_ | with_reducible refine D.skip ?_ | with_reducible refine D.rg (T := none_) (by kernel_rfl) (by simp (maxSteps := 1000000) (disch := omega) only [rulesA, rulesB, numbered, ayield, mapO, constAV, scAV, optval, abin, aint, acmp, aconv, aun, aeq, aminmax, afieldAddr, abuild, anew, fieldPlaces, afill, setSeg, kn_P, Nat.reduceAdd, Nat.reduceMul, Nat.reducePow, Nat.reduceSub, Nat.reduceEqDiff, Nat.reduceLT, Nat.reduceLeDiff, Int.reduceEq, Int.reduceNe, Int.reduceLT, Int.reduceLE, Int.reduceAdd, Int.reduceSub, Int.reduceToNat, Int.reduceBNe, Int.reduceBEq, tyR, rulesC]; with_reducible rfl) ?_ | with_reducible refine D.ct2 (by simp (maxSteps := 1000000) (disch := omega) only [rulesV, numbered, constAV, scAV, Nat.reduceEqDiff, Nat.reduceLT, Nat.reduceLeDiff, rulesC]; with_reducible rfl) (by with_reducible rfl) ?_ | with_reducible refine D.cf2 (by simp (maxSteps := 1000000) (disch := omega) only [rulesV, numbered, constAV, scAV, Nat.reduceEqDiff, Nat.reduceLT, Nat.reduceLeDiff, rulesC]; with_reducible rfl) (by with_reducible rfl) ?_ | with_reducible refine D.exit ?_ | with_reducible refine D.ret ?_ | simp only [rulesK, Nat.reduceEqDiff])
    refine ⟨_, by simp only [resOf, aresult, rulesA, rulesB, numbered, ayield, mapO, constAV, scAV, optval, abin, aint, acmp, aconv, aun, aeq, aminmax, afieldAddr, abuild, anew, fieldPlaces, afill, setSeg, kn_P, Nat.reduceAdd, Nat.reduceMul, Nat.reducePow, Nat.reduceSub, Nat.reduceEqDiff, Nat.reduceLT, Nat.reduceLeDiff, Int.reduceEq, Int.reduceNe, Int.reduceLT, Int.reduceLE, Int.reduceAdd, Int.reduceSub, Int.reduceToNat, Int.reduceBNe, Int.reduceBEq, tyR]; with_reducible rfl, ?_⟩
    exact ⟨by rw [decide_eq_false (show ¬ may e p from fun h => by have := h.1; have := h.2.1; omega)], (by first | exact rfl | exact True.intro)⟩
end Go.Proofs.Ytecfofmndpgnjaa.sy
