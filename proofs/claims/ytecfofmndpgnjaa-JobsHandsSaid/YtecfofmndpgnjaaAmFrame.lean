/-
  A WORLD THAT HAS GROWN (own work): what a contract that leaves alone whatever lay says of the abstract heap.
-/
import Derived.Test.YtecfofmndpgnjaaAmRow
namespace Go.AM
open Go.RowKit

variable {c : Ctx} {base : Nat} {w0 w w' : World} {ρ : Pl} {H : AHeap}

theorem cell_below {B : Nat} {a b : World} (h : Below B a b) {p : Addr} (hp : p.block < B) : b.cell? p = a.cell? p := World.cell?_of_block (h.block _ hp)

/-- nothing new -/
theorem post_grow (h : Rel c base w0 ρ H w) (hb : Below w.heap.size w w') : Post c base w0 ρ H w ρ H w' := by
  refine ⟨⟨h.below.trans (hb.mono h.size), Nat.le_trans h.size hb.size, ?_, h.inj, ?_, h.glob⟩, Ext.refl _, fun l p e => .inl e, Nat.le_refl _, hb.size, fun k hk _ => hb.block k hk, fun i o p e s r => .inr ⟨i, o, p, e, s, r, rfl⟩⟩
  · intro i o e
    obtain ⟨q, hq, ho, hbs⟩ := h.own i o e
    exact ⟨q, hq, ho.mono (Ext.refl _) (fun s => hb.block _ (rel_lt h e hq s)), hbs⟩
  · intro path cells hG
    obtain ⟨q, hq, hb', hc⟩ := h.ext path cells hG
    refine ⟨q, hq, hb', fun j v hj => ?_⟩
    obtain ⟨x, hx, hv, h1⟩ := hc j v hj
    exact ⟨x, (cell_below hb (World.block_lt_of_cell? w _ hx)).trans hx, hv, h1⟩

/-- one new object -/
theorem post_fresh (h : Rel c base w0 ρ H w) (hf : ρ (.own H.length) = none) (hb : Below w.heap.size w w') (o : AObj) (p : Place) (hp : w.heap.size ≤ p.b) (ho : ObjR (upd ρ (.own H.length) p) p w'.heap o) :
    Post c base w0 ρ H w (upd ρ (.own H.length) p) (hnew H o) w' := by
  have he : Ext ρ (upd ρ (.own H.length) p) := upd_ext hf
  have hlt : ∀ {i o p}, hat H i = some o → ρ (.own i) = some p → o.solid = true → p.b < w.heap.size := fun e r s => rel_lt h e r s
  refine ⟨⟨h.below.trans (hb.mono h.size), Nat.le_trans h.size hb.size, ?_, ?_, ?_, ?_⟩, he, ?_, by simp [hnew], hb.size, fun k hk _ => hb.block k hk, ?_⟩
  · intro i o' e
    rw [hat_new] at e
    split at e
    · rename_i hi; subst hi; cases e
      exact ⟨p, upd_same _ _ _, ho, fun _ => Nat.le_trans h.size hp⟩
    · obtain ⟨q, hq, ho', hbs⟩ := h.own i o' e
      exact ⟨q, he _ _ hq, ho'.mono he (fun s => hb.block _ (hlt e hq s)), hbs⟩
  · intro i j o1 o2 q1 q2 e1 e2 s1 s2 r1 r2 hq
    rw [hat_new] at e1 e2
    split at e1 <;> split at e2
    · omega
    · rename_i hi hj; subst hi
      rw [upd_same] at r1; cases r1
      rw [upd_ne ρ p (by simpa using hj)] at r2
      have := hlt e2 r2 s2; omega
    · rename_i hi hj; subst hj
      rw [upd_same] at r2; cases r2
      rw [upd_ne ρ p (by simpa using hi)] at r1
      have := hlt e1 r1 s1; omega
    · rename_i hi hj
      rw [upd_ne ρ p (by simpa using hi)] at r1
      rw [upd_ne ρ p (by simpa using hj)] at r2
      exact h.inj i j o1 o2 q1 q2 e1 e2 s1 s2 r1 r2 hq
  · intro path cells hG
    obtain ⟨q, hq, hb', hc⟩ := h.ext path cells hG
    refine ⟨q, he _ _ hq, hb', fun j v hj => ?_⟩
    obtain ⟨x, hx, hv, h1⟩ := hc j v hj
    exact ⟨x, (cell_below hb (World.block_lt_of_cell? w _ hx)).trans hx, hv.mono he, h1⟩
  · intro g; obtain ⟨n, hn⟩ := h.glob g; exact ⟨n, he _ _ hn⟩
  · intro l q e
    by_cases hl : l = .own H.length
    · exact .inr ⟨H.length, hl, Nat.le_refl _, by simp [hnew]⟩
    · rw [upd_ne ρ p hl] at e; exact .inl e
  · intro i o' q e s r
    rw [hat_new] at e
    split at e
    · rename_i hi; subst hi; rw [upd_same] at r; cases r; exact .inl hp
    · rename_i hi
      rw [upd_ne ρ p (by simpa using hi)] at r
      exact .inr ⟨i, o', q, e, s, r, rfl⟩

def intsOf : List AV → Option (List Int)
  | [] => some []
  | .int .i64 n :: r => (intsOf r).map fun l => n :: l
  | _ :: _ => none

theorem intsOf_eq : ∀ {l : List AV} {zs : List Int}, intsOf l = some zs → l = zs.map (.int .i64)
  | [], zs, e => by simp [intsOf] at e; subst e; rfl
  | .int .i64 n :: r, zs, e => by
    simp only [intsOf, Option.map_eq_some_iff] at e
    obtain ⟨l, hl, rfl⟩ := e
    rw [intsOf_eq hl]; rfl
  | .int .i8 _ :: _, zs, e => by simp [intsOf] at e
  | .int .i16 _ :: _, zs, e => by simp [intsOf] at e
  | .int .i32 _ :: _, zs, e => by simp [intsOf] at e
  | .int .u8 _ :: _, zs, e => by simp [intsOf] at e
  | .int .u16 _ :: _, zs, e => by simp [intsOf] at e
  | .int .u32 _ :: _, zs, e => by simp [intsOf] at e
  | .int .u64 _ :: _, zs, e => by simp [intsOf] at e
  | .bool _ :: _, zs, e => by simp [intsOf] at e
  | .str _ :: _, zs, e => by simp [intsOf] at e
  | .nilptr :: _, zs, e => by simp [intsOf] at e
  | .ptr _ _ :: _, zs, e => by simp [intsOf] at e
  | .nilslice :: _, zs, e => by simp [intsOf] at e
  | .slice _ _ _ _ :: _, zs, e => by simp [intsOf] at e
  | .odd _ :: _, zs, e => by simp [intsOf] at e
  | .nilmap :: _, zs, e => by simp [intsOf] at e
  | .map _ :: _, zs, e => by simp [intsOf] at e
  | .nilfunc :: _, zs, e => by simp [intsOf] at e
  | .func _ _ _ :: _, zs, e => by simp [intsOf] at e
  | .niliface :: _, zs, e => by simp [intsOf] at e
  | .iface _ _ :: _, zs, e => by simp [intsOf] at e
  | .agg _ :: _, zs, e => by simp [intsOf] at e
  | .tuple _ :: _, zs, e => by simp [intsOf] at e

/-- a new slice of ints, as a contract with 'ownsRow' hands it back -/
theorem post_ints (h : Rel c base w0 ρ H w) (hf : ρ (.own H.length) = none) (hb : Below w.heap.size w w') {v : Value} {e : TypeId} {zs : List Int} (hr : w'.ownsRow w.heap.size e 1 v zs.length (zs.map fun x => Value.int .i64 x)) (hne : zs ≠ []) :
    ∃ ρ', VR ρ' (.slice (fresh H) 1 0 zs.length) v ∧ Post c base w0 ρ H w ρ' (hnew H (.row e 1 (zs.map (AV.int .i64)))) w' := by
  rcases hr.2 with ⟨_, h0⟩ | ⟨g, cap, cur, rfl, hg, hcur, hcap, _, hsz, hval⟩
  · exact absurd (List.length_eq_zero_iff.1 h0) hne
  · refine ⟨upd ρ (.own H.length) ⟨g, 0, cap⟩, ⟨⟨g, 0, cap⟩, upd_same _ _ _, by simpa using hcap, by simp⟩, post_fresh h hf hb _ ⟨g, 0, cap⟩ hg ⟨cur, hcur, by simp [hsz], by simpa using hcap, fun j u hj => ?_⟩⟩
    rw [List.getElem?_map] at hj
    cases hz : zs[j]? with
    | none => rw [hz] at hj; cases hj
    | some z =>
      rw [hz] at hj; cases hj
      refine ⟨.int .i64 z, ?_, rfl, rfl⟩
      have hj' : j < zs.length := (List.getElem?_eq_some_iff.1 hz).1
      have := congrArg (fun l => l[j]?) hval
      simp only [List.getElem?_map, hz, Option.map_some] at this
      rw [List.getElem?_take, if_pos (by omega)] at this
      simpa using this

end Go.AM
