/-
  WHAT THE ABSTRACT MACHINE's heap says of the model's world (own work): where each abstract block lies ('Pl'), what a value is ('VR'), what a block holds ('ObjR'), the whole ('Rel'), and how two states lie one behind another ('Post').
-/
import Derived.Test.YtecfofmndpgnjaaAmCore
import Derived.Below
import Derived.Laws.CopyRow
import Derived.WalkKit
namespace Go.AM
open Go.RowKit

structure Place where
  b : Nat
  off : Nat
  cap : Nat

abbrev Pl := Loc → Option Place

mutual
def VR (ρ : Pl) : AV → Value → Prop
  | .bool b, x => x = .bool b
  | .int k n, x => x = .int k n
  | .str s, x => x = .string ⟨s.toArray⟩
  | .nilptr, x => x = .pointer none
  | .ptr l off, x => ∃ p, ρ l = some p ∧ x = .pointer (some ⟨p.b, p.off + off, none⟩)
  | .nilslice, x => x = .slice none 0 0
  | .slice l esz start len, x => ∃ p, ρ l = some p ∧ start + len ≤ p.cap ∧ x = .slice (some ⟨p.b, p.off + start * esz, none⟩) len (p.cap - start)
  | .odd a, x => x = .slice (some a) 0 0
  | .nilmap, x => x = .map none
  | .map l, x => ∃ p, ρ l = some p ∧ x = .map (some p.b)
  | .nilfunc, x => x = .nilFunc
  | .func fn a b, x => ∃ xs ys, VRs ρ a xs ∧ VRs ρ b ys ∧ x = .func fn xs.toArray ys.toArray
  | .niliface, x => x = .nilIface
  | .iface t v, x => ∃ y, VR ρ v y ∧ x = .iface t y
  | .agg l, x => ∃ xs, VRs ρ l xs ∧ x = .agg xs.toArray
  | .tuple l, x => ∃ xs, VRs ρ l xs ∧ x = .tuple xs.toArray
def VRs (ρ : Pl) : List AV → List Value → Prop
  | [], xs => xs = []
  | v :: vs, xs => ∃ y ys, xs = y :: ys ∧ VR ρ v y ∧ VRs ρ vs ys
end

def Ext (ρ ρ' : Pl) : Prop := ∀ l p, ρ l = some p → ρ' l = some p
theorem Ext.refl (ρ : Pl) : Ext ρ ρ := fun _ _ h => h
theorem Ext.trans {a b c : Pl} (h : Ext a b) (k : Ext b c) : Ext a c := fun l p e => k l p (h l p e)

mutual
theorem VR.mono {ρ ρ' : Pl} (h : Ext ρ ρ') : ∀ {v : AV} {x : Value}, VR ρ v x → VR ρ' v x
  | .bool _, _, e => e
  | .int _ _, _, e => e
  | .str _, _, e => e
  | .nilptr, _, e => e
  | .ptr _ _, _, ⟨p, e, hx⟩ => ⟨p, h _ _ e, hx⟩
  | .nilslice, _, e => e
  | .slice _ _ _ _, _, ⟨p, e, hx⟩ => ⟨p, h _ _ e, hx⟩
  | .odd _, _, e => e
  | .nilmap, _, e => e
  | .map _, _, ⟨p, e, hx⟩ => ⟨p, h _ _ e, hx⟩
  | .nilfunc, _, e => e
  | .func _ _ _, _, ⟨xs, ys, e, f, hx⟩ => ⟨xs, ys, VRs.mono h e, VRs.mono h f, hx⟩
  | .niliface, _, e => e
  | .iface _ _, _, ⟨y, e, hx⟩ => ⟨y, VR.mono h e, hx⟩
  | .agg _, _, ⟨xs, e, hx⟩ => ⟨xs, VRs.mono h e, hx⟩
  | .tuple _, _, ⟨xs, e, hx⟩ => ⟨xs, VRs.mono h e, hx⟩
theorem VRs.mono {ρ ρ' : Pl} (h : Ext ρ ρ') : ∀ {v : List AV} {x : List Value}, VRs ρ v x → VRs ρ' v x
  | [], _, e => e
  | _ :: _, _, ⟨y, ys, hx, e, f⟩ => ⟨y, ys, hx, VR.mono h e, VRs.mono h f⟩
end

theorem VRs.length {ρ : Pl} : ∀ {vs : List AV} {xs : List Value}, VRs ρ vs xs → xs.length = vs.length
  | [], _, h => by subst h; rfl
  | _ :: _, _, ⟨_, _, hx, _, f⟩ => by subst hx; simp [VRs.length f]

theorem VRs.get {ρ : Pl} : ∀ {vs : List AV} {xs : List Value}, VRs ρ vs xs → ∀ {j : Nat} {v : AV}, vs[j]? = some v → ∃ x, xs[j]? = some x ∧ VR ρ v x
  | [], _, _, j, v, hj => by simp at hj
  | _ :: _, _, ⟨y, ys, hx, e, f⟩, 0, v, hj => by simp at hj; subst hj hx; exact ⟨y, rfl, e⟩
  | _ :: _, _, ⟨y, ys, hx, e, f⟩, j + 1, v, hj => by subst hx; exact VRs.get f (by simpa using hj)

theorem VRs.of_get {ρ : Pl} : ∀ {vs : List AV} {xs : List Value}, xs.length = vs.length → (∀ (j : Nat) (v : AV), vs[j]? = some v → ∃ x, xs[j]? = some x ∧ VR ρ v x) → VRs ρ vs xs
  | [], xs, hl, _ => by simpa [VRs] using hl
  | v :: vs, [], hl, _ => by simp at hl
  | v :: vs, x :: xs, hl, h => by
    obtain ⟨x0, hx0, hv⟩ := h 0 v rfl
    simp at hx0; subst hx0
    exact ⟨x, xs, rfl, hv, VRs.of_get (by simpa using hl) (fun j u hj => by simpa using h (j + 1) u (by simpa using hj))⟩

theorem VRs.append {ρ : Pl} : ∀ {a b : List AV} {x y : List Value}, VRs ρ a x → VRs ρ b y → VRs ρ (a ++ b) (x ++ y)
  | [], _, _, _, h, k => by simp [VRs] at h; subst h; simpa using k
  | _ :: _, _, _, _, ⟨y, ys, hx, e, f⟩, k => by subst hx; exact ⟨y, ys ++ _, rfl, e, VRs.append f k⟩

theorem VRs.nil_iff {ρ : Pl} {x : List Value} : VRs ρ [] x ↔ x = [] := Iff.rfl

theorem VRs.take {ρ : Pl} {a : List AV} {x : List Value} (h : VRs ρ a x) (n : Nat) : VRs ρ (a.take n) (x.take n) := by
  refine VRs.of_get (by simp [h.length]) fun j v hj => ?_
  rw [List.getElem?_take] at hj ⊢
  split at hj
  · rename_i hlt; rw [if_pos hlt]; exact h.get hj
  · simp at hj

theorem VRs.drop {ρ : Pl} {a : List AV} {x : List Value} (h : VRs ρ a x) (n : Nat) : VRs ρ (a.drop n) (x.drop n) := by
  refine VRs.of_get (by simp [h.length]) fun j v hj => ?_
  rw [List.getElem?_drop] at hj ⊢
  exact h.get hj

theorem VR.one {ρ : Pl} {v : AV} {x : Value} (h : VR ρ v x) : x.oneCell' = v.one := by
  cases v <;> simp only [VR] at h
  case bool => subst h; rfl
  case int => subst h; rfl
  case str => subst h; rfl
  case nilptr => subst h; rfl
  case ptr => obtain ⟨_, _, rfl⟩ := h; rfl
  case nilslice => subst h; rfl
  case slice => obtain ⟨_, _, _, rfl⟩ := h; rfl
  case odd => subst h; rfl
  case nilmap => subst h; rfl
  case map => obtain ⟨_, _, rfl⟩ := h; rfl
  case nilfunc => subst h; rfl
  case func => obtain ⟨_, _, _, _, rfl⟩ := h; rfl
  case niliface => subst h; rfl
  case iface => obtain ⟨_, _, rfl⟩ := h; rfl
  case agg => obtain ⟨_, _, rfl⟩ := h; rfl
  case tuple => obtain ⟨_, _, rfl⟩ := h; rfl

theorem VR.cells {ρ : Pl} {v : AV} {x : Value} (h : VR ρ v x) : VRs ρ v.cells x.cells.toList := by
  have one : ∀ {v : AV} {x : Value}, VR ρ v x → v.cells = [v] → x.cells = #[x] → VRs ρ v.cells x.cells.toList := fun h e f => by
    rw [e, f]; exact ⟨_, [], rfl, h, rfl⟩
  have h0 := h
  cases v <;> simp only [VR] at h
  case agg => obtain ⟨xs, hx, rfl⟩ := h; simpa [AV.cells, Value.cells] using hx
  case bool => subst h; exact one h0 rfl rfl
  case int => subst h; exact one h0 rfl rfl
  case str => subst h; exact one h0 rfl rfl
  case nilptr => subst h; exact one h0 rfl rfl
  case ptr => obtain ⟨_, _, rfl⟩ := h; exact one h0 rfl rfl
  case nilslice => subst h; exact one h0 rfl rfl
  case slice => obtain ⟨_, _, _, rfl⟩ := h; exact one h0 rfl rfl
  case odd => subst h; exact one h0 rfl rfl
  case nilmap => subst h; exact one h0 rfl rfl
  case map => obtain ⟨_, _, rfl⟩ := h; exact one h0 rfl rfl
  case nilfunc => subst h; exact one h0 rfl rfl
  case func => obtain ⟨_, _, _, _, rfl⟩ := h; exact one h0 rfl rfl
  case niliface => subst h; exact one h0 rfl rfl
  case iface => obtain ⟨_, _, rfl⟩ := h; exact one h0 rfl rfl
  case tuple => obtain ⟨_, _, rfl⟩ := h; exact one h0 rfl rfl

/-- cells that stand in a row from a place on -/
def CellsR (ρ : Pl) (w : World) (b off : Nat) (cells : List AV) : Prop :=
  ∀ j v, cells[j]? = some v → ∃ x, w.cell? ⟨b, off + j, none⟩ = some x ∧ VR ρ v x ∧ v.one = true

inductive EntR (ρ : Pl) : List (AV × AV × Nat) → List MapEntry → Prop
  | nil : EntR ρ [] []
  | cons {k v : AV} {n : Nat} {es : List (AV × AV × Nat)} {x y : Value} {xs : List MapEntry} (hk : VR ρ k x) (hv : VR ρ v y) (h : EntR ρ es xs) : EntR ρ ((k, v, n) :: es) (⟨x, y, n⟩ :: xs)

theorem EntR.mono {ρ ρ' : Pl} (h : Ext ρ ρ') {es : List (AV × AV × Nat)} {xs : List MapEntry} (k : EntR ρ es xs) : EntR ρ' es xs := by
  induction k with
  | nil => exact .nil
  | cons hk hv _ ih => exact .cons (hk.mono h) (hv.mono h) ih

theorem EntR.length {ρ : Pl} {es : List (AV × AV × Nat)} {xs : List MapEntry} (k : EntR ρ es xs) : xs.length = es.length := by
  induction k with
  | nil => rfl
  | cons _ _ _ ih => simp [ih]

def AObj.solid : AObj → Bool
  | .empty _ => false
  | _ => true

/-- what a block holds, in the heap's own words -/
def ObjR (ρ : Pl) (p : Place) (heap : Array Obj) : AObj → Prop
  | .row ty esz cells => ∃ cs : Array Value, heap[p.b]? = some (.cells cs ty (0, 0)) ∧ p.off + p.cap * esz ≤ cs.size ∧ cells.length ≤ p.cap * esz ∧
      ∀ j v, cells[j]? = some v → ∃ x, cs[p.off + j]? = some x ∧ VR ρ v x ∧ v.one = true
  | .empty c0 => c0 = true → p.cap = 0
  | .map es clock => ∃ ents : Array MapEntry, heap[p.b]? = some (.map ents clock) ∧ EntR ρ es ents.toList
  | .siter s pos => heap[p.b]? = some (.stringIter ⟨s.toArray⟩ pos) ∧ p.off = 0
  | .miter _ _ _ _ => False

theorem ObjR.mono {ρ ρ' : Pl} (h : Ext ρ ρ') {p : Place} {hp hp' : Array Obj} {o : AObj} (hb : o.solid = true → hp'[p.b]? = hp[p.b]?) (k : ObjR ρ p hp o) : ObjR ρ' p hp' o := by
  cases o with
  | row ty esz cells =>
    obtain ⟨cs, h1, h2, h3, h4⟩ := k
    exact ⟨cs, (hb rfl).trans h1, h2, h3, fun j v hj => by obtain ⟨x, hx, hv, ho⟩ := h4 j v hj; exact ⟨x, hx, hv.mono h, ho⟩⟩
  | empty c0 => exact k
  | map es clock => obtain ⟨ents, h1, h2⟩ := k; exact ⟨ents, (hb rfl).trans h1, h2.mono h⟩
  | siter s pos => exact ⟨(hb rfl).trans k.1, k.2⟩
  | miter => exact k.elim

/-- The whole: the abstract heap H lies in the world w as ρ tells; below 'base' the world is as w0 is. -/
structure Rel (c : Ctx) (base : Nat) (w0 : World) (ρ : Pl) (H : AHeap) (w : World) : Prop where
  below : Below base w0 w
  size : base ≤ w.heap.size
  own : ∀ i o, hat H i = some o → ∃ p, ρ (.own i) = some p ∧ ObjR ρ p w.heap o ∧ (o.solid = true → base ≤ p.b)
  inj : ∀ i j o o' p q, hat H i = some o → hat H j = some o' → o.solid = true → o'.solid = true → ρ (.own i) = some p → ρ (.own j) = some q → p.b = q.b → i = j
  ext : ∀ path cells, c.G path = some cells → ∃ p, ρ (.ext path) = some p ∧ p.b < base ∧ ∀ j v, cells[j]? = some v → ∃ x, w.cell? ⟨p.b, p.off + j, none⟩ = some x ∧ VR ρ v x ∧ v.one = true
  glob : ∀ g, ∃ n, ρ (.ext [0, g]) = some ⟨g, 0, n⟩

/-- One state behind another one. -/
structure Post (c : Ctx) (base : Nat) (w0 : World) (ρ : Pl) (H : AHeap) (w : World) (ρ' : Pl) (H' : AHeap) (w' : World) : Prop where
  rel : Rel c base w0 ρ' H' w'
  ext : Ext ρ ρ'
  new : ∀ l p, ρ' l = some p → ρ l = some p ∨ ∃ i, l = .own i ∧ H.length ≤ i ∧ i < H'.length
  len : H.length ≤ H'.length
  size : w.heap.size ≤ w'.heap.size
  frame : ∀ b, b < w.heap.size → (∀ i o p, hat H i = some o → o.solid = true → ρ (.own i) = some p → p.b ≠ b) → w'.heap[b]? = w.heap[b]?
  place : ∀ i o p, hat H' i = some o → o.solid = true → ρ' (.own i) = some p → w.heap.size ≤ p.b ∨ ∃ j o' q, hat H j = some o' ∧ o'.solid = true ∧ ρ (.own j) = some q ∧ q.b = p.b

theorem Post.refl {c : Ctx} {base : Nat} {w0 w : World} {ρ : Pl} {H : AHeap} (h : Rel c base w0 ρ H w) : Post c base w0 ρ H w ρ H w :=
  ⟨h, Ext.refl _, fun _ _ e => .inl e, Nat.le_refl _, Nat.le_refl _, fun _ _ _ => rfl, fun i o p e s r => .inr ⟨i, o, p, e, s, r, rfl⟩⟩

theorem Post.trans {c : Ctx} {base : Nat} {w0 w1 w2 w3 : World} {ρ1 ρ2 ρ3 : Pl} {H1 H2 H3 : AHeap} (h : Post c base w0 ρ1 H1 w1 ρ2 H2 w2) (k : Post c base w0 ρ2 H2 w2 ρ3 H3 w3) : Post c base w0 ρ1 H1 w1 ρ3 H3 w3 where
  rel := k.rel
  ext := h.ext.trans k.ext
  new := fun l p e => by
    rcases k.new l p e with e | ⟨i, rfl, a, b⟩
    · rcases h.new l p e with e | ⟨i, rfl, a, b⟩
      · exact .inl e
      · exact .inr ⟨i, rfl, a, Nat.lt_of_lt_of_le b k.len⟩
    · exact .inr ⟨i, rfl, Nat.le_trans h.len a, b⟩
  len := Nat.le_trans h.len k.len
  size := Nat.le_trans h.size k.size
  frame := fun b hb hn => by
    rw [k.frame b (Nat.lt_of_lt_of_le hb h.size) fun i o p e s r hpb => ?_, h.frame b hb hn]
    rcases h.place i o p e s r with hge | ⟨j, o', q, e', s', r', hq⟩
    · omega
    · exact hn j o' q e' s' r' (hq.trans hpb)
  place := fun i o p e s r => by
    rcases k.place i o p e s r with hge | ⟨j, o', q, e', s', r', hq⟩
    · exact .inl (Nat.le_trans h.size hge)
    · rcases h.place j o' q e' s' r' with hge | ⟨j2, o2, q2, e2, s2, r2, hq2⟩
      · exact .inl (hq ▸ hge)
      · exact .inr ⟨j2, o2, q2, e2, s2, r2, hq2.trans hq⟩

/-! the abstract heap's own words -/

theorem hat_lt {H : AHeap} {i : Nat} {o : AObj} (h : hat H i = some o) : i < H.length := by
  unfold hat at h
  rcases Nat.lt_or_ge i H.length with h' | h'
  · exact h'
  · rw [List.getElem?_eq_none h'] at h; simp at h

theorem hat_append_lt {H K : AHeap} {i : Nat} (h : i < H.length) : hat (H ++ K) i = hat H i := by
  unfold hat; rw [List.getElem?_append_left h]

theorem hat_new (H : AHeap) (o : AObj) (i : Nat) : hat (hnew H o) i = if i = H.length then some o else hat H i := by
  unfold hnew
  by_cases h : i = H.length
  · subst h; simp [hat]
  · rw [if_neg h]
    rcases Nat.lt_or_ge i H.length with h' | h'
    · exact hat_append_lt h'
    · have : H.length + 1 ≤ i := by omega
      unfold hat
      rw [List.getElem?_eq_none (by simpa using this), List.getElem?_eq_none h']

theorem hat_set (H : AHeap) (i : Nat) (o : Option AObj) (j : Nat) (hi : i < H.length) : hat (H.set i o) j = if j = i then o else hat H j := by
  unfold hat
  by_cases h : j = i
  · subst h; simp [hi]
  · rw [if_neg h, List.getElem?_set_ne (by omega)]

theorem len_new (H : AHeap) (o : AObj) : (hnew H o).length = H.length + 1 := by simp [hnew]

def upd (ρ : Pl) (l : Loc) (p : Place) : Pl := fun m => if m = l then some p else ρ m
theorem upd_same (ρ : Pl) (l : Loc) (p : Place) : upd ρ l p l = some p := by simp [upd]
theorem upd_ne (ρ : Pl) {l m : Loc} (p : Place) (h : m ≠ l) : upd ρ l p m = ρ m := by simp [upd, h]
theorem upd_ext {ρ : Pl} {l : Loc} {p : Place} (h : ρ l = none) : Ext ρ (upd ρ l p) := fun m q e => by
  have : m ≠ l := fun hm => by subst hm; rw [h] at e; cases e
  rw [upd_ne ρ p this]; exact e

/-- A NEW BLOCK. -/
theorem post_new {c : Ctx} {base : Nat} {w0 w : World} {ρ : Pl} {H : AHeap} (h : Rel c base w0 ρ H w) (hf : ρ (.own H.length) = none) (o : AObj) (p : Place) (b : Obj) (hpb : p.b = w.heap.size)
    (ho : ObjR (upd ρ (.own H.length) p) p (w.alloc b).heap o) : Post c base w0 ρ H w (upd ρ (.own H.length) p) (hnew H o) (w.alloc b) := by
  have he : Ext ρ (upd ρ (.own H.length) p) := upd_ext hf
  have hold : ∀ k, k < w.heap.size → (w.alloc b).heap[k]? = w.heap[k]? := fun k hk => Below.heap_alloc w b k hk
  have hlt : ∀ {i o p}, hat H i = some o → ρ (.own i) = some p → o.solid = true → p.b < w.heap.size := by
    intro i o p e r s
    obtain ⟨q, hq, ho, _⟩ := h.own i o e
    rw [r] at hq; cases hq
    have hsome : ∃ x, w.heap[p.b]? = some x := by
      cases o with
      | row => obtain ⟨cs, h1, _⟩ := ho; exact ⟨_, h1⟩
      | empty => simp [AObj.solid] at s
      | map => obtain ⟨_, h1, _⟩ := ho; exact ⟨_, h1⟩
      | siter => exact ⟨_, ho.1⟩
      | miter => exact ho.elim
    obtain ⟨x, hx⟩ := hsome
    exact (Array.getElem?_eq_some_iff.1 hx).1
  refine ⟨⟨h.below.alloc h.size b, by simp; exact Nat.le_succ_of_le h.size, ?_, ?_, ?_, ?_⟩, he, ?_, by simp [hnew], by simp, fun k hk _ => hold k hk, ?_⟩
  · intro i o' e
    rw [hat_new] at e
    split at e
    · rename_i hi; subst hi; cases e
      exact ⟨p, upd_same _ _ _, ho, fun _ => hpb ▸ h.size⟩
    · obtain ⟨q, hq, ho', hb⟩ := h.own i o' e
      exact ⟨q, he _ _ hq, ho'.mono he (fun s => hold _ (hlt e hq s)), hb⟩
  · intro i j o1 o2 q1 q2 e1 e2 s1 s2 r1 r2 hq
    rw [hat_new] at e1 e2
    split at e1 <;> split at e2
    · omega
    · rename_i hi hj; subst hi
      rw [upd_same] at r1; cases r1
      rw [upd_ne ρ p (by simpa using hj)] at r2
      have := hlt e2 r2 s2; omega
    · rename_i hi hj; subst hj
      rw [upd_same] at r2; cases r2
      rw [upd_ne ρ p (by simpa using hi)] at r1
      have := hlt e1 r1 s1; omega
    · rename_i hi hj
      rw [upd_ne ρ p (by simpa using hi)] at r1
      rw [upd_ne ρ p (by simpa using hj)] at r2
      exact h.inj i j o1 o2 q1 q2 e1 e2 s1 s2 r1 r2 hq
  · intro path cells hG
    obtain ⟨q, hq, hb, hc⟩ := h.ext path cells hG
    refine ⟨q, he _ _ hq, hb, fun j v hj => ?_⟩
    obtain ⟨x, hx, hv, h1⟩ := hc j v hj
    exact ⟨x, by rw [World.cell?_alloc_lt w b _ (World.block_lt_of_cell? w _ hx)]; exact hx, hv.mono he, h1⟩
  · intro g; obtain ⟨n, hn⟩ := h.glob g; exact ⟨n, he _ _ hn⟩
  · intro l q e
    by_cases hl : l = .own H.length
    · exact .inr ⟨H.length, hl, Nat.le_refl _, by simp [hnew]⟩
    · rw [upd_ne ρ p hl] at e; exact .inl e
  · intro i o' q e s r
    rw [hat_new] at e
    split at e
    · rename_i hi; subst hi; rw [upd_same] at r; cases r; exact .inl (by omega)
    · rename_i hi
      rw [upd_ne ρ p (by simpa using hi)] at r
      exact .inr ⟨i, o', q, e, s, r, rfl⟩

theorem rel_lt {c : Ctx} {base : Nat} {w0 w : World} {ρ : Pl} {H : AHeap} (h : Rel c base w0 ρ H w) {i : Nat} {o : AObj} {p : Place} (e : hat H i = some o) (r : ρ (.own i) = some p) (s : o.solid = true) : p.b < w.heap.size := by
  obtain ⟨q, hq, ho, _⟩ := h.own i o e
  rw [r] at hq; cases hq
  have hsome : ∃ x, w.heap[p.b]? = some x := by
    cases o with
    | row => obtain ⟨cs, h1, _⟩ := ho; exact ⟨_, h1⟩
    | empty => simp [AObj.solid] at s
    | map => obtain ⟨_, h1, _⟩ := ho; exact ⟨_, h1⟩
    | siter => exact ⟨_, ho.1⟩
    | miter => exact ho.elim
  obtain ⟨x, hx⟩ := hsome
  exact (Array.getElem?_eq_some_iff.1 hx).1

/-- A BLOCK WRITTEN: the object at i becomes o' (of the same place), the model's block b. -/
theorem post_set {c : Ctx} {base : Nat} {w0 w w' : World} {ρ : Pl} {H : AHeap} (h : Rel c base w0 ρ H w) {i : Nat} {o o' : AObj} {p : Place} (e : hat H i = some o) (s : o.solid = true) (r : ρ (.own i) = some p)
    (hos : w'.os = w.os) (htp : w'.tape = w.tape) (hout : w'.output = w.output) (hsz : w'.heap.size = w.heap.size) (hbl : ∀ k, k ≠ p.b → w'.heap[k]? = w.heap[k]?) (ho' : ObjR ρ p w'.heap o') :
    Post c base w0 ρ H w ρ (H.set i (some o')) w' := by
  have hi := hat_lt e
  have hbase : base ≤ p.b := by
    obtain ⟨q, hq, _, hb⟩ := h.own i o e
    rw [r] at hq; cases hq; exact hb s
  refine ⟨⟨⟨hos.trans h.below.os, htp.trans h.below.tape, hout.trans h.below.output, by rw [hsz]; exact h.below.size, fun k hk => (hbl k (by omega)).trans (h.below.block k hk)⟩, by rw [hsz]; exact h.size, ?_, ?_, ?_, h.glob⟩, Ext.refl _, fun _ _ e => .inl e, by simp, by omega, ?_, ?_⟩
  · intro j o2 e2
    rw [hat_set H i _ j hi] at e2
    split at e2
    · rename_i hj; subst hj; cases e2; exact ⟨p, r, ho', fun _ => hbase⟩
    · rename_i hj
      obtain ⟨q, hq, ho, hb⟩ := h.own j o2 e2
      refine ⟨q, hq, ho.mono (Ext.refl _) (fun s2 => hbl _ fun hqp => ?_), hb⟩
      exact hj (h.inj j i o2 o q p e2 e s2 s hq r hqp)
  · intro j k o1 o2 q1 q2 e1 e2 s1 s2 r1 r2 hq
    rw [hat_set H i _ _ hi] at e1 e2
    split at e1 <;> split at e2
    · omega
    · rename_i hj hk; subst hj; exact h.inj j k o o2 q1 q2 e e2 s s2 r1 r2 hq
    · rename_i hj hk; subst hk; exact h.inj j k o1 o q1 q2 e1 e s1 s r1 r2 hq
    · exact h.inj j k o1 o2 q1 q2 e1 e2 s1 s2 r1 r2 hq
  · intro path cells hG
    obtain ⟨q, hq, hb, hc⟩ := h.ext path cells hG
    refine ⟨q, hq, hb, fun j v hj => ?_⟩
    obtain ⟨x, hx, hv, h1⟩ := hc j v hj
    refine ⟨x, ?_, hv, h1⟩
    rw [World.cell?_of_block (w := w) (hbl q.b (by omega))]; exact hx
  · intro b hb hn
    exact hbl b fun hbp => hn i o p e s r hbp.symm
  · intro j o2 q e2 s2 r2
    rw [hat_set H i _ j hi] at e2
    split at e2
    · rename_i hj; subst hj; exact .inr ⟨j, o, q, e, s, r2, rfl⟩
    · exact .inr ⟨j, o2, q, e2, s2, r2, rfl⟩

end Go.AM
