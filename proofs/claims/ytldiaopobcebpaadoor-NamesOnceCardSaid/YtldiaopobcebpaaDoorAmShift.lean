/-
  WHAT A CALL COMES TO WHERE NOTHING OF ONE'S OWN LIES, it comes to anywhere, its new things behind what lies there (own work).
-/
import Derived.Test.YtldiaopobcebpaaDoorM5
import Derived.Test.YtldiaopobcebpaaDoorM5
namespace Go.AM
open Go.RowKit
set_option linter.unusedSimpArgs false
set_option linter.unusedVariables false

def Loc.sh (n : Nat) : Loc → Loc
  | .own i => .own (n + i)
  | .ext p => .ext p
mutual
def AV.sh (n : Nat) : AV → AV
  | .ptr l o => .ptr (l.sh n) o
  | .slice l a b c => .slice (l.sh n) a b c
  | .map l => .map (l.sh n)
  | .func f a b => .func f (AV.shs n a) (AV.shs n b)
  | .iface t v => .iface t (AV.sh n v)
  | .agg l => .agg (AV.shs n l)
  | .tuple l => .tuple (AV.shs n l)
  | .bool b => .bool b
  | .int k n => .int k n
  | .str s => .str s
  | .nilptr => .nilptr
  | .nilslice => .nilslice
  | .odd a => .odd a
  | .nilmap => .nilmap
  | .nilfunc => .nilfunc
  | .niliface => .niliface
def AV.shs (n : Nat) : List AV → List AV
  | [] => []
  | v :: r => AV.sh n v :: AV.shs n r
end
def AObj.sh (n : Nat) : AObj → AObj
  | .row t e cs => .row t e (AV.shs n cs)
  | .empty b => .empty b
  | .map es c => .map (es.map fun x => (x.1.sh n, x.2.1.sh n, x.2.2)) c
  | .siter s p => .siter s p
  | .miter m a b c => .miter (m.map (Loc.sh n)) a b c
theorem shs_map (n : Nat) : ∀ l, AV.shs n l = l.map (AV.sh n)
  | [] => rfl
  | v :: r => by rw [AV.shs, shs_map n r]; rfl
theorem sh_one (n : Nat) (v : AV) : (v.sh n).one = v.one := by cases v <;> simp [AV.sh, AV.one]
theorem sh_solid (n : Nat) (o : AObj) : (o.sh n).solid = o.solid := by cases o <;> rfl
mutual
theorem VR.sh {ρ ρ' : Pl} {n : Nat} (h : ∀ l p, ρ l = some p → ρ' (l.sh n) = some p) : ∀ {v : AV} {x : Value}, VR ρ v x → VR ρ' (v.sh n) x
  | .bool _, _, e => e
  | .int _ _, _, e => e
  | .str _, _, e => e
  | .nilptr, _, e => e
  | .ptr _ _, _, ⟨p, e, hx⟩ => ⟨p, h _ _ e, hx⟩
  | .nilslice, _, e => e
  | .slice _ _ _ _, _, ⟨p, e, hx⟩ => ⟨p, h _ _ e, hx⟩
  | .odd _, _, e => e
  | .nilmap, _, e => e
  | .map _, _, ⟨p, e, hx⟩ => ⟨p, h _ _ e, hx⟩
  | .nilfunc, _, e => e
  | .func _ _ _, _, ⟨xs, ys, e, f, hx⟩ => ⟨xs, ys, VRs.sh h e, VRs.sh h f, hx⟩
  | .niliface, _, e => e
  | .iface _ _, _, ⟨y, e, hx⟩ => ⟨y, VR.sh h e, hx⟩
  | .agg _, _, ⟨xs, e, hx⟩ => ⟨xs, VRs.sh h e, hx⟩
  | .tuple _, _, ⟨xs, e, hx⟩ => ⟨xs, VRs.sh h e, hx⟩
theorem VRs.sh {ρ ρ' : Pl} {n : Nat} (h : ∀ l p, ρ l = some p → ρ' (l.sh n) = some p) : ∀ {v : List AV} {x : List Value}, VRs ρ v x → VRs ρ' (AV.shs n v) x
  | [], _, e => e
  | _ :: _, _, ⟨y, ys, hx, e, f⟩ => ⟨y, ys, hx, VR.sh h e, VRs.sh h f⟩
end
theorem EntR.sh {ρ ρ' : Pl} {n : Nat} (h : ∀ l p, ρ l = some p → ρ' (l.sh n) = some p) {es : List (AV × AV × Nat)} {xs : List MapEntry} (k : EntR ρ es xs) : EntR ρ' (es.map fun x => (x.1.sh n, x.2.1.sh n, x.2.2)) xs := by
  induction k with
  | nil => exact .nil
  | cons hk hv _ ih => exact .cons (hk.sh h) (hv.sh h) ih
theorem ObjR.sh {ρ ρ' : Pl} {n : Nat} (h : ∀ l p, ρ l = some p → ρ' (l.sh n) = some p) {p : Place} {hp : Array Obj} {o : AObj} (k : ObjR ρ p hp o) : ObjR ρ' p hp (o.sh n) := by
  cases o with
  | row ty esz cells =>
    obtain ⟨cs, h1, h2, h3, h4⟩ := k
    refine ⟨cs, h1, h2, by rw [shs_map, List.length_map]; exact h3, fun j v hj => ?_⟩
    rw [shs_map, List.getElem?_map, Option.map_eq_some_iff] at hj
    obtain ⟨u, hu, rfl⟩ := hj
    obtain ⟨x, hx, hv, ho⟩ := h4 j u hu
    exact ⟨x, hx, hv.sh h, by rw [sh_one]; exact ho⟩
  | empty c0 => exact k
  | map es clock => obtain ⟨ents, h1, h2⟩ := k; exact ⟨ents, h1, h2.sh h⟩
  | siter s pos => exact k
  | miter => exact k.elim
def shH (n : Nat) (K : AHeap) : AHeap := K.map fun o => o.map (AObj.sh n)
theorem hat_shH {n : Nat} {K : AHeap} {i : Nat} {o : AObj} (h : hat (shH n K) i = some o) : ∃ o', hat K i = some o' ∧ o = o'.sh n := by
  unfold hat shH at h
  rw [List.getElem?_map] at h
  unfold hat
  cases hq : K[i]? with
  | none => rw [hq] at h; cases h
  | some x =>
    rw [hq] at h
    cases x with
    | none => cases h
    | some o' => simp only [Option.map_some] at h; cases h; exact ⟨o', rfl, rfl⟩
variable {κ : Kn} {H : AHeap}
/-- the places of both -/
def plus (n : Nat) (ρ ρ' : Pl) : Pl := fun l => match l with
  | .own i => if i < n then ρ (.own i) else ρ' (.own (i - n))
  | .ext p => ρ' (.ext p)
/-- what came in leads to nothing of one's own -/
def GLow (c : Ctx) : Prop := ∀ path cells, c.G path = some cells → AV.lows 0 cells = true
theorem lows_at {n : Nat} : ∀ {l : List AV} {j : Nat} {v : AV}, AV.lows n l = true → l[j]? = some v → v.low n = true
  | [], j, v, _, h => by simp at h
  | x :: r, 0, v, hl, h => by
    have hl : AV.low n x = true ∧ AV.lows n r = true := by simpa [AV.lows] using hl
    simp at h; subst h; exact hl.1
  | x :: r, j + 1, v, hl, h => by
    have hl : AV.low n x = true ∧ AV.lows n r = true := by simpa [AV.lows] using hl
    exact lows_at hl.2 (by simpa using h)
theorem Pt.shift (hG : GLow κ.c) {f : FuncId} {args : List AV} {v : AV} {K : AHeap} (h : Pt κ f args [] v K) (ha : AV.lows 0 args = true) : Pt κ f args H (v.sh H.length) (H ++ shH H.length K) := by
  intro ρ w xs hr hf hx
  have hcut : ∀ l p, ρ l = some p → l.low 0 = true → AM.cut 0 ρ l = some p := fun l p e hl => by simp [AM.cut, hl, e]
  have hrel : Rel κ.c κ.base κ.w0 (AM.cut 0 ρ) [] w := by
    refine ⟨hr.below, hr.size, fun i o e => by simp [hat] at e, fun i j o o' p q e => by simp [hat] at e, fun path cells hGp => ?_, fun g => ?_⟩
    · obtain ⟨p, hp, hb, hc⟩ := hr.ext path cells hGp
      refine ⟨p, hcut _ _ hp rfl, hb, fun j v hj => ?_⟩
      obtain ⟨x, hx, hv, h1⟩ := hc j v hj
      exact ⟨x, hx, VR.restrict (n := 0) (ρ := AM.cut 0 ρ) (ρ' := ρ) hcut (lows_at (hG path cells hGp) hj) hv, h1⟩
    · obtain ⟨n, hn⟩ := hr.glob g
      exact ⟨n, hcut _ _ hn rfl⟩
  have hfr : Fresh (AM.cut 0 ρ) [] := fun i _ => by simp [AM.cut, Loc.low]
  refine (h _ w xs hrel hfr (VRs.restrict (n := 0) (ρ' := ρ) hcut ha hx)).mono ?_
  rintro e w' ⟨ρ', x, rfl, hvr, hp⟩
  have hsh : ∀ l p, ρ' l = some p → plus H.length ρ ρ' (l.sh H.length) = some p := by
    intro l p e
    cases l with
    | own i => simp only [Loc.sh, plus]; rw [if_neg (by omega), Nat.add_sub_cancel_left]; exact e
    | ext q => exact e
  have hold : ∀ i, i < H.length → plus H.length ρ ρ' (.own i) = ρ (.own i) := fun i hi => by simp only [plus]; rw [if_pos hi]
  have hext : Ext ρ (plus H.length ρ ρ') := by
    intro l p e
    cases l with
    | own i =>
      have hi : i < H.length := by
        rcases Nat.lt_or_ge i H.length with h | h
        · exact h
        · rw [hf i h] at e; cases e
      rw [hold i hi]; exact e
    | ext q => exact hp.ext _ _ (hcut _ _ e rfl)
  have hblk : ∀ b, b < w.heap.size → w'.heap[b]? = w.heap[b]? := fun b hb => hp.frame b hb fun i o p e => by simp [hat] at e
  have hnew : ∀ i o p, hat K i = some o → o.solid = true → ρ' (.own i) = some p → w.heap.size ≤ p.b := by
    intro i o p e s r
    rcases hp.place i o p e s r with h | ⟨j, o', q, e', _⟩
    · exact h
    · simp [hat] at e'
  refine ⟨plus H.length ρ ρ', x, rfl, hvr.sh hsh, ⟨⟨hp.rel.below, hp.rel.size, ?_, ?_, ?_, ?_⟩, hext, ?_, by simp, hp.size, fun b hb _ => hblk b hb, ?_⟩⟩
  · intro i o e
    rw [hat_app] at e
    split at e
    · rename_i hi
      obtain ⟨p, hp1, ho, hb⟩ := hr.own i o e
      exact ⟨p, by rw [hold i hi]; exact hp1, ho.mono hext (fun s => hblk _ (rel_lt hr e hp1 s)), hb⟩
    · rename_i hi
      obtain ⟨o', e', rfl⟩ := hat_shH e
      obtain ⟨p, hp1, ho, hb⟩ := hp.rel.own _ o' e'
      refine ⟨p, ?_, ho.sh hsh, fun s => hb (by rw [sh_solid] at s; exact s)⟩
      simp only [plus]; rw [if_neg hi]; exact hp1
  · intro i j o o' p q e e' s s' r r' hpq
    rw [hat_app] at e e'
    split at e <;> split at e'
    · rename_i hi hj
      rw [hold i hi] at r; rw [hold j hj] at r'
      exact hr.inj i j o o' p q e e' s s' r r' hpq
    · rename_i hi hj
      obtain ⟨o2, e2, rfl⟩ := hat_shH e'
      rw [hold i hi] at r
      simp only [plus] at r'; rw [if_neg hj] at r'
      have h1 := rel_lt hr e r s
      have h2 := hnew _ _ _ e2 (by rw [sh_solid] at s'; exact s') r'
      omega
    · rename_i hi hj
      obtain ⟨o2, e2, rfl⟩ := hat_shH e
      rw [hold j hj] at r'
      simp only [plus] at r; rw [if_neg hi] at r
      have h1 := rel_lt hr e' r' s'
      have h2 := hnew _ _ _ e2 (by rw [sh_solid] at s; exact s) r
      omega
    · rename_i hi hj
      obtain ⟨o2, e2, rfl⟩ := hat_shH e
      obtain ⟨o3, e3, rfl⟩ := hat_shH e'
      simp only [plus] at r r'
      rw [if_neg hi] at r
      rw [if_neg hj] at r'
      rw [sh_solid] at s s'
      have := hp.rel.inj _ _ o2 o3 p q e2 e3 s s' r r' hpq
      omega
  · intro path cells hGp
    obtain ⟨p, hp1, hb, hc⟩ := hp.rel.ext path cells hGp
    refine ⟨p, hp1, hb, fun j v hj => ?_⟩
    obtain ⟨x, hx, hv, h1⟩ := hc j v hj
    refine ⟨x, hx, ?_, h1⟩
    refine VR.restrict (n := 0) (ρ' := ρ') (fun l q e hl => ?_) (lows_at (hG path cells hGp) hj) hv
    cases l with
    | own i => simp [Loc.low] at hl
    | ext q => exact e
  · intro g; obtain ⟨n, hn⟩ := hp.rel.glob g; exact ⟨n, hn⟩
  · intro l q e
    cases l with
    | own i =>
      by_cases hi : i < H.length
      · rw [hold i hi] at e; exact .inl e
      · simp only [plus] at e; rw [if_neg hi] at e
        rcases hp.new _ _ e with e2 | ⟨j, hj, _, hlt⟩
        · simp [AM.cut, Loc.low] at e2
        · cases hj
          exact .inr ⟨i, rfl, by omega, by simp only [List.length_append, shH, List.length_map]; omega⟩
    | ext z =>
      rcases hp.new _ _ e with e2 | ⟨j, hj, _⟩
      · left
        simpa [AM.cut, Loc.low] using e2
      · cases hj
  · intro i o p e s r
    rw [hat_app] at e
    split at e
    · rename_i hi
      rw [hold i hi] at r
      exact .inr ⟨i, o, p, e, s, r, rfl⟩
    · rename_i hi
      obtain ⟨o2, e2, rfl⟩ := hat_shH e
      simp only [plus] at r; rw [if_neg hi] at r
      exact .inl (hnew _ _ _ e2 (by rw [sh_solid] at s; exact s) r)
/-- a law's opening: run by the kernel where nothing lies, it leaves every heap as it is -/
theorem Pt.anywhere (hG : GLow κ.c) {f : FuncId} {v : AV} {K : AHeap} (h : Pt κ f [] [] v K) (hv : v.low 0 = true) (hsh : v.sh H.length = v) : Pt κ f [] H v H := by
  have h1 := h.shift (H := H) hG rfl
  rw [hsh] at h1
  refine h1.shrink ?_ (by simp)
  have key : ∀ {v : AV}, v.low 0 = true → v.low H.length = true := fun {v} => AV.low_mono (Nat.zero_le _)
  exact key hv
end Go.AM
