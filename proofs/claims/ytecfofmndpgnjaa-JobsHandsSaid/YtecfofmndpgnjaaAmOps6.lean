/-
  THE OPERATIONS, sixth part (own work): slicing, maps written, copy, clear, the least and the greatest.
-/
import Derived.Test.YtecfofmndpgnjaaAmOps5
namespace Go.AM
open Go.RowKit
set_option linter.unusedSimpArgs false

variable {c : Ctx} {base : Nat} {w0 w : World} {ρ : Pl} {H : AHeap}

/-- an empty slice's own object -/
theorem post_empty (h : Rel c base w0 ρ H w) (hf : ρ (.own H.length) = none) (c0 : Bool) (p : Place) (hc : c0 = true → p.cap = 0) : Post c base w0 ρ H w (upd ρ (.own H.length) p) (hnew H (.empty c0)) w := by
  have hx : Ext ρ (upd ρ (.own H.length) p) := upd_ext hf
  have hcase : ∀ {j o2}, hat (hnew H (.empty c0)) j = some o2 → (j = H.length ∧ o2 = .empty c0) ∨ (j ≠ H.length ∧ hat H j = some o2) := by
    intro j o2 e2
    rw [hat_new] at e2
    split at e2
    · rename_i hj; cases e2; exact .inl ⟨hj, rfl⟩
    · rename_i hj; exact .inr ⟨hj, e2⟩
  refine ⟨⟨h.below, h.size, ?_, ?_, ?_, ?_⟩, hx, ?_, by simp [hnew], Nat.le_refl _, fun _ _ _ => rfl, ?_⟩
  · intro j o2 e2
    rcases hcase e2 with ⟨rfl, rfl⟩ | ⟨_, e2⟩
    · exact ⟨p, upd_same _ _ _, hc, fun s => by cases s⟩
    · obtain ⟨q, hq, ho, hb⟩ := h.own j o2 e2
      exact ⟨q, hx _ _ hq, ho.mono hx (fun _ => rfl), hb⟩
  · intro j k o1 o2 q1 q2 e1 e2 s1 s2 r1 r2 hq
    rcases hcase e1 with ⟨rfl, rfl⟩ | ⟨hj, f1⟩
    · cases s1
    · rcases hcase e2 with ⟨rfl, rfl⟩ | ⟨hk, f2⟩
      · cases s2
      · rw [upd_ne ρ _ (by simpa using hj)] at r1
        rw [upd_ne ρ _ (by simpa using hk)] at r2
        exact h.inj j k o1 o2 q1 q2 f1 f2 s1 s2 r1 r2 hq
  · intro path cells hG
    obtain ⟨q, hq, hb, hcc⟩ := h.ext path cells hG
    exact ⟨q, hx _ _ hq, hb, fun j v hj => by obtain ⟨x, h1, h2, h3⟩ := hcc j v hj; exact ⟨x, h1, h2.mono hx, h3⟩⟩
  · intro g; obtain ⟨n, hn⟩ := h.glob g; exact ⟨n, hx _ _ hn⟩
  · intro l q e2
    by_cases hl : l = .own H.length
    · exact .inr ⟨H.length, hl, Nat.le_refl _, by simp [hnew]⟩
    · rw [upd_ne ρ p hl] at e2; exact .inl e2
  · intro j o2 q e2 s2 r2
    rcases hcase e2 with ⟨rfl, rfl⟩ | ⟨hj, e2⟩
    · cases s2
    · rw [upd_ne ρ _ (by simpa using hj)] at r2
      exact .inr ⟨j, o2, q, e2, s2, r2, rfl⟩

def OVR (ρ : Pl) : Option AV → Option Value → Prop
  | none, none => True
  | some v, some z => VR ρ v z
  | _, _ => False

theorem abound_sound {x : Option AV} {d n : Nat} (e : abound x d = some n) {y : Option Value} (hy : OVR ρ x y) :
    (x = none ∧ y = none ∧ n = d) ∨ ∃ k, x.isSome = true ∧ y = some (.int k (n : Int)) := by
  cases x with
  | none =>
    cases y with
    | none => simp [abound] at e; exact .inl ⟨rfl, rfl, e.symm⟩
    | some _ => exact hy.elim
  | some v =>
    cases y with
    | none => exact hy.elim
    | some z =>
      cases v <;> simp only [abound] at e <;> try cases e
      rename_i k i
      split at e
      · cases e; simp only [OVR, VR] at hy; subst hy
        exact .inr ⟨k, rfl, by rw [Int.toNat_of_nonneg ‹_›]⟩
      · cases e

theorem bounds_run {lo hi : Option AV} {y z : Option Value} (hy : OVR ρ lo y) (hz : OVR ρ hi z) {len l h cap : Nat} (el : abound lo 0 = some l) (eh : abound hi len = some h) (b : Bool) (hle : l ≤ h) (hcap : h ≤ cap) (w : World) :
    (Instr.sliceBounds b len cap y z none).run c.P w = .ok (l, h, cap) w := by
  rcases abound_sound el hy with ⟨_, rfl, rfl⟩ | ⟨k, _, rfl⟩ <;> rcases abound_sound eh hz with ⟨_, rfl, rfl⟩ | ⟨k2, _, rfl⟩
  · simp [Instr.sliceBounds]
  · simp [Instr.sliceBounds, Instr.sliceBound, asIntOf, hcap]
  · simp [Instr.sliceBounds, Instr.sliceBound, asIntOf, hle]
  · simp [Instr.sliceBounds, Instr.sliceBound, asIntOf, hcap, hle]

theorem slice_sound (h : Rel c base w0 ρ H w) {t : TypeId} {x v : AV} {lo hi mx : Option AV} {H' : AHeap} (e : aslice c H t x lo hi mx = some (v, H')) (hf : H.length < H'.length → ρ (.own H.length) = none) {x' : Value} {lo' hi' mx' : Option Value} (hx : VR ρ x x') (hl : OVR ρ lo lo') (hh : OVR ρ hi hi') (hm : OVR ρ mx mx') :
    ∃ ρ' u w', (Instr.sliceAt t x' lo' hi' mx').run c.P w = .ok u w' ∧ VR ρ' v u ∧ Post c base w0 ρ H w ρ' H' w' := by
  simp only [aslice, Option.bind_eq_some_iff] at e
  obtain ⟨d, hd, e⟩ := e
  split at e
  · -- a text
    rename_i s
    split at e
    · cases e
    · rename_i hmx
      have hmn : mx' = none := by cases mx <;> cases mx' <;> simp [OVR] at hm hmx ⊢
      subst hmn
      simp only [Option.bind_eq_some_iff] at e
      obtain ⟨l, el, hh0, eh, e⟩ := e
      split at e
      · rename_i hc
        cases e
        simp only [VR] at hx; subst hx
        have hsz : (⟨s.toArray⟩ : ByteArray).size = s.length := by simp [ByteArray.size]
        have hb := bounds_run (c := c) hl hh el eh false hc.1 hc.2 w
        have hex : (⟨s.toArray⟩ : ByteArray).extract l hh0 = ⟨((s.drop l).take (hh0 - l)).toArray⟩ := by
          apply ByteArray.ext
          simp [ByteArray.data_extract, List.extract_eq_take_drop]
        refine ⟨ρ, .string ⟨((s.drop l).take (hh0 - l)).toArray⟩, w, ?_, rfl, Post.refl h⟩
        simp only [Instr.sliceAt, Sem.run_bind, run_underlying hd, Result.andThen_ok, Instr.slice, hsz]
        simp [hb, hex]
      · cases e
  · -- a nil slice
    split at e
    · cases e
    · rename_i hmx
      have hmn : mx' = none := by cases mx <;> cases mx' <;> simp [OVR] at hm hmx ⊢
      subst hmn
      simp only [Option.bind_eq_some_iff] at e
      obtain ⟨sz, hsz, l, el, hh0, eh, e⟩ := e
      split at e
      · rename_i hc
        obtain ⟨rfl, rfl⟩ := hc
        cases e
        simp only [VR] at hx; subst hx
        have hb := bounds_run (c := c) hl hh el eh true (Nat.le_refl _) (Nat.le_refl 0) w
        exact ⟨ρ, .slice none 0 0, w, by simp [Instr.sliceAt, run_underlying hd, Instr.slice, hb, szOf_run hsz], rfl, Post.refl h⟩
      · cases e
  · -- a slice
    rename_i el' loc esz start len
    obtain ⟨p, hp, hcap, rfl⟩ := hx
    simp only [Option.bind_eq_some_iff] at e
    obtain ⟨n, hn, e⟩ := e
    split at e
    · cases e
    · rename_i hne
      have hne' : n = esz := by simpa using hne
      subst hne'
      simp only [Option.bind_eq_some_iff] at e
      obtain ⟨l, el, e⟩ := e
      split at e
      · rename_i m
        simp only [Option.bind_eq_some_iff] at e
        obtain ⟨hh0, eh, mm, em, e⟩ := e
        split at e
        · rename_i hc
          obtain ⟨rfl, rfl, rfl, hsome⟩ := hc
          cases e
          have hf' := hf (by simp [hnew])
          rcases abound_sound eh hh with ⟨hn0, _, _⟩ | ⟨k2, _, rfl⟩
          · rw [hn0] at hsome; cases hsome
          cases mx' with
          | none => exact hm.elim
          | some z =>
            rcases abound_sound em (y := some z) hm with ⟨h0, _⟩ | ⟨k3, _, h3⟩
            · cases h0
            · cases h3
              refine ⟨upd ρ (.own H.length) ⟨p.b, p.off + start * n, 0⟩, .slice (some ⟨p.b, p.off + start * n, none⟩) 0 0, w, ?_, ⟨⟨p.b, p.off + start * n, 0⟩, upd_same _ _ _, by simp, by simp⟩, post_empty h hf' true _ (fun _ => rfl)⟩
              rcases abound_sound el hl with ⟨_, rfl, _⟩ | ⟨k, _, rfl⟩
              · simp [Instr.sliceAt, run_underlying hd, Instr.slice, Instr.sliceBounds, Instr.sliceBound, asIntOf, szOf_run hn]
              · simp [Instr.sliceAt, run_underlying hd, Instr.slice, Instr.sliceBounds, Instr.sliceBound, asIntOf, szOf_run hn]
        · cases e
      · have hmn : mx' = none := by cases mx' <;> simp [OVR] at hm ⊢
        subst hmn
        simp only [Option.bind_eq_some_iff] at e
        obtain ⟨hh0, eh, e⟩ := e
        split at e
        · rename_i hc
          obtain ⟨hlh, hfit⟩ := hc
          have hcap2 : hh0 ≤ p.cap - start := by
            rcases hfit with hfit | hfit
            · omega
            · unfold ownRow at hfit
              split at hfit
              · rename_i i
                split at hfit
                · rename_i ty e' cs ho
                  simp only [decide_eq_true_eq] at hfit
                  obtain ⟨rfl, hpos, hk⟩ := hfit
                  obtain ⟨q, hq, ⟨ds, g1, g2, g3, g4⟩, _⟩ := h.own i _ ho
                  obtain rfl : p = q := by rw [hp] at hq; exact Option.some.inj hq
                  have : start + hh0 ≤ p.cap := Nat.le_of_mul_le_mul_right (Nat.le_trans hk g3) hpos
                  omega
                · cases hfit
              · cases hfit
          have hb := bounds_run (c := c) hl hh el eh true hlh hcap2 w
          split at e
          · rename_i hl0
            subst hl0
            cases e
            refine ⟨ρ, .slice (some ⟨p.b, p.off + start * n, none⟩) hh0 (p.cap - start), w, ?_, ⟨p, hp, by omega, rfl⟩, Post.refl h⟩
            simp [Instr.sliceAt, run_underlying hd, Instr.slice, hb, szOf_run hn, addr_add]
          · rename_i hl0
            split at e
            · rename_i hlt
              cases e
              refine ⟨ρ, .slice (some ⟨p.b, p.off + start * n + l * n, none⟩) (hh0 - l) (p.cap - start - l), w, ?_, ⟨p, hp, by omega, by rw [Nat.add_mul, Nat.add_assoc, Nat.sub_sub]⟩, Post.refl h⟩
              have : ¬ p.cap - start = l := by omega
              simp [Instr.sliceAt, run_underlying hd, Instr.slice, hb, szOf_run hn, addr_add, this]
            · rename_i hlt
              cases e
              have hf' := hf (by simp [hnew])
              have hz0 : hh0 - l = 0 := by omega
              by_cases hq : p.cap - start = l
              · refine ⟨upd ρ (.own H.length) ⟨p.b, p.off + start * n, 0⟩, .slice (some ⟨p.b, p.off + start * n, none⟩) 0 0, w, ?_, ⟨⟨p.b, p.off + start * n, 0⟩, upd_same _ _ _, by simp, by simp⟩, post_empty h hf' false _ (fun s => by cases s)⟩
                rw [hq] at hb
                simp [Instr.sliceAt, run_underlying hd, Instr.slice, hb, szOf_run hn, addr_add, hq, hz0]
              · refine ⟨upd ρ (.own H.length) ⟨p.b, p.off + start * n + l * n, p.cap - start - l⟩, .slice (some ⟨p.b, p.off + start * n + l * n, none⟩) 0 (p.cap - start - l), w, ?_, ⟨⟨p.b, p.off + start * n + l * n, p.cap - start - l⟩, upd_same _ _ _, by simp, by simp⟩, post_empty h hf' false _ (fun s => by cases s)⟩
                simp [Instr.sliceAt, run_underlying hd, Instr.slice, hb, szOf_run hn, addr_add, hq, hz0]
        · cases e
  · cases e

/-! maps written -/

theorem EntR.get {es : List (AV × AV × Nat)} {xs : List MapEntry} (h : EntR ρ es xs) : ∀ {j : Nat} {x : MapEntry}, xs[j]? = some x → ∃ k v, es[j]? = some (k, v, x.born) ∧ VR ρ k x.key ∧ VR ρ v x.val := by
  induction h with
  | nil => intro j x hj; simp at hj
  | @cons k v n es x y xs hk hv _ ih =>
    intro j z hj
    cases j with
    | zero => simp at hj; subst hj; exact ⟨k, v, rfl, hk, hv⟩
    | succ j => exact ih (by simpa using hj)

theorem EntR.set {es : List (AV × AV × Nat)} {xs : List MapEntry} (h : EntR ρ es xs) {k v : AV} {x y : Value} (hk : VR ρ k x) (hv : VR ρ v y) : ∀ (j : Nat),
    EntR ρ (es.modify j fun e => (k, v, e.2.2)) (xs.modify j fun e => { e with key := x, val := y }) := by
  induction h with
  | nil => intro j; simp; exact .nil
  | @cons k' v' n es x' y' xs hk' hv' ht ih =>
    intro j
    cases j with
    | zero => simp; exact .cons hk hv ht
    | succ j => simp; exact .cons hk' hv' (ih j)

theorem EntR.erase {es : List (AV × AV × Nat)} {xs : List MapEntry} (h : EntR ρ es xs) : ∀ (j : Nat), EntR ρ (es.eraseIdx j) (xs.eraseIdx j) := by
  induction h with
  | nil => intro j; exact .nil
  | @cons k' v' n es x' y' xs hk' hv' ht ih =>
    intro j
    cases j with
    | zero => exact ht
    | succ j => simp; exact .cons hk' hv' (ih j)

theorem EntR.snoc {es : List (AV × AV × Nat)} {xs : List MapEntry} (h : EntR ρ es xs) {k v : AV} {n : Nat} {x y : Value} (hk : VR ρ k x) (hv : VR ρ v y) : EntR ρ (es ++ [(k, v, n)]) (xs ++ [⟨x, y, n⟩]) := by
  induction h with
  | nil => exact .cons hk hv .nil
  | cons hk' hv' _ ih => exact .cons hk' hv' ih

/-- what was found has the key itself -/
theorem findKey_same {d : TypeDesc} {k : AV} {x : Value} (hx : VR ρ k x) {es : List (AV × AV × Nat)} {xs : List MapEntry} (hr : EntR ρ es xs) : ∀ {i j : Nat} {v : AV}, findKey d k es i = some (some (j, v)) →
    i ≤ j ∧ ∃ e, xs[j - i]? = some e ∧ e.key = x := by
  induction hr with
  | nil => intro i j v e; simp [findKey] at e
  | @cons k' v' n es x' y xs hk hv _ ih =>
    intro i j v e
    simp only [findKey, Option.bind_eq_some_iff] at e
    obtain ⟨b, hb, e⟩ := e
    cases b with
    | true =>
      simp at e
      obtain ⟨rfl, _⟩ := e
      refine ⟨Nat.le_refl _, ⟨x', y, n⟩, by simp, ?_⟩
      unfold keyEq at hb
      split at hb <;> (try cases hb) <;> (simp only [VR] at hx hk) <;> subst hx hk <;> (split at hb <;> (try cases hb))
      · split at hb
        · rename_i hkk; simp at hb; subst hb hkk; rfl
        · cases hb
      · simp at hb; subst hb; rfl
      · simp at hb; subst hb; rfl
    | false =>
      obtain ⟨h1, e', h2, h3⟩ := ih (by simpa using e)
      refine ⟨by omega, e', ?_, h3⟩
      rw [show j - i = (j - (i + 1)) + 1 by omega]
      simpa using h2

theorem sameBits_self {d : TypeDesc} {k : AV} (hk : keyOk d k = true) {x : Value} (hx : VR ρ k x) : Instr.sameBits 10000 x x = true := by
  have gen : ∀ n, Instr.sameBits n x x = true := by
    intro n
    unfold keyOk at hk
    split at hk <;> (try cases hk) <;> (simp only [VR] at hx) <;> subst hx
    · unfold Instr.sameBits; simp
    · unfold Instr.sameBits
      simp [beq_toListBytes]
    · unfold Instr.sameBits; simp
  exact gen _

theorem setObj_run (w : World) (b : Nat) {es : Array MapEntry} {cl : Nat} (hb : w.heap[b]? = some (.map es cl)) (o : Obj) : (setObj b o).run c.P w = .ok () { w with heap := w.heap.setIfInBounds b o } := by
  simp [setObj, Sem.run, hb]

theorem post_map (h : Rel c base w0 ρ H w) {i : Nat} {es es' : List (AV × AV × Nat)} {clock clock' : Nat} {p : Place} (e : hat H i = some (.map es clock)) (r : ρ (.own i) = some p) {ents : Array MapEntry} (hE : EntR ρ es' ents.toList) :
    Post c base w0 ρ H w ρ (H.set i (some (.map es' clock'))) { w with heap := w.heap.setIfInBounds p.b (.map ents clock') } := by
  have hlt := rel_lt h e r rfl
  refine post_set h e rfl r rfl rfl rfl (by simp) (fun k hk => ?_) ⟨ents, ?_, hE⟩
  · simp [Array.getElem?_setIfInBounds, Ne.symm hk]
  · simp [hlt]

theorem mapUpdate_sound (h : Rel c base w0 ρ H w) {t : TypeId} {m k v : AV} {H' : AHeap} (e : amapUpdate c H t m k v = some H') {x y z : Value} (hx : VR ρ m x) (hy : VR ρ k y) (hz : VR ρ v z) :
    ∃ w', (Instr.mapUpdate t x y z).run c.P w = .ok () w' ∧ Post c base w0 ρ H w ρ H' w' := by
  simp only [amapUpdate, Option.bind_eq_some_iff] at e
  obtain ⟨d, hd, e⟩ := e
  split at e
  · rename_i kt vt
    simp only [Option.bind_eq_some_iff] at e
    obtain ⟨kd, hkd, e⟩ := e
    split at e
    · rename_i hko
      split at e
      · rename_i i
        split at e
        · rename_i es clock ho
          simp only [Option.bind_eq_some_iff] at e
          obtain ⟨r, hr, e⟩ := e
          obtain ⟨p, hp, rfl⟩ := hx
          obtain ⟨q, hq, ⟨ents, h1, h2⟩, _⟩ := h.own i _ ho
          obtain rfl : p = q := by rw [hp] at hq; exact Option.some.inj hq
          obtain ⟨r', hr1, hr2⟩ := findKey_run hkd hy h2 hr w
          have hg : (getObj p.b).run c.P w = .ok (.map ents clock) w := by simp [getObj, Sem.run, h1]
          split at e
          · rename_i j v0
            cases e
            cases r' with
            | none => exact hr2.elim
            | some q =>
              obtain ⟨j', y0⟩ := q
              obtain ⟨rfl, _⟩ := hr2
              obtain ⟨_, en, he1, he2⟩ := findKey_same hy h2 hr
              simp only [Nat.sub_zero] at he1
              have hent : ents[j]? = some en := by simpa using he1
              refine ⟨_, ?_, post_map h ho hp (ents := ents.modify j fun e => { e with key := y, val := z }) (clock' := clock) ?_⟩
              · simp [Instr.mapUpdate, run_underlying hd, hg, checkKey_run hkd hko hy, hr1, hent, he2, Instr.keyThatStays, sameBits_self hko hy, setObj_run (c := c) w p.b h1]
              · rw [Array.toList_modify]; exact h2.set hy hz j
          · cases e
            cases r' with
            | some q => exact hr2.elim
            | none =>
              refine ⟨_, ?_, post_map h ho hp (ents := ents.push ⟨y, z, clock⟩) (clock' := clock + 1) ?_⟩
              · simp [Instr.mapUpdate, run_underlying hd, hg, checkKey_run hkd hko hy, hr1, setObj_run (c := c) w p.b h1]
              · rw [Array.toList_push]; exact h2.snoc hy hz
        · cases e
      · cases e
    · cases e
  · cases e

theorem EntR.setKey {es : List (AV × AV × Nat)} {xs : List MapEntry} (h : EntR ρ es xs) {k : AV} {x : Value} (hk : VR ρ k x) : ∀ (j : Nat),
    EntR ρ (es.modify j fun e => (k, e.2.1, e.2.2)) (xs.modify j fun e => { e with key := x }) := by
  induction h with
  | nil => intro j; simp; exact .nil
  | @cons k' v' n es x' y' xs hk' hv' ht ih =>
    intro j
    cases j with
    | zero => simp; exact .cons hk hv' ht
    | succ j => simp; exact .cons hk' hv' (ih j)

theorem EntR.setVal {es : List (AV × AV × Nat)} {xs : List MapEntry} (h : EntR ρ es xs) {v : AV} {y : Value} (hv : VR ρ v y) : ∀ (j : Nat),
    EntR ρ (es.modify j fun e => (e.1, v, e.2.2)) (xs.modify j fun e => { e with val := y }) := by
  induction h with
  | nil => intro j; simp; exact .nil
  | @cons k' v' n es x' y' xs hk' hv' ht ih =>
    intro j
    cases j with
    | zero => simp; exact .cons hk' hv ht
    | succ j => simp; exact .cons hk' hv' (ih j)

theorem EntR.born {es : List (AV × AV × Nat)} {xs : List MapEntry} (h : EntR ρ es xs) : ∀ (j : Nat), (xs[j]?).map (·.born) = (es[j]?).map (·.2.2) := by
  induction h with
  | nil => intro j; simp
  | cons _ _ _ ih =>
    intro j
    cases j with
    | zero => simp
    | succ j => simpa using ih j

theorem EntR.stamp {es : List (AV × AV × Nat)} {xs : List MapEntry} (h : EntR ρ es xs) (b : Int) : ∀ {i j : Nat}, stampAt b es i = some j → i ≤ j ∧ xs.findIdx? (fun e => (e.born : Int) == b) = some (j - i) := by
  induction h with
  | nil => intro i j e; simp [stampAt] at e
  | @cons k' v' n es x' y' xs hk' hv' ht ih =>
    intro i j e
    simp only [stampAt] at e
    rw [List.findIdx?_cons]
    split at e
    · rename_i hb
      cases e
      exact ⟨Nat.le_refl _, by simp only [hb]; simp⟩
    · rename_i hb
      obtain ⟨h1, h2⟩ := ih e
      refine ⟨by omega, ?_⟩
      have hb' : ((n : Int) == b) = false := by simpa using hb
      simp only [hb', h2]
      simp; omega

theorem mapEntry_sound (h : Rel c base w0 ρ H w) {t : TypeId} {m k v : AV} {H' : AHeap} (e : amapEntry c H t m k = some (v, H')) {x y : Value} (hx : VR ρ m x) (hy : VR ρ k y) :
    ∃ u w', (Instr.mapEntry t x y).run c.P w = .ok u w' ∧ VR ρ v u ∧ Post c base w0 ρ H w ρ H' w' := by
  simp only [amapEntry, Option.bind_eq_some_iff] at e
  obtain ⟨d, hd, e⟩ := e
  split at e
  · rename_i kt vt
    simp only [Option.bind_eq_some_iff] at e
    obtain ⟨kd, hkd, e⟩ := e
    split at e
    · rename_i hko
      split at e
      · rename_i i
        split at e
        · rename_i es clock ho
          simp only [Option.bind_eq_some_iff] at e
          obtain ⟨r, hr, e⟩ := e
          obtain ⟨p, hp, rfl⟩ := hx
          obtain ⟨q, hq, ⟨ents, h1, h2⟩, _⟩ := h.own i _ ho
          obtain rfl : p = q := by rw [hp] at hq; exact Option.some.inj hq
          obtain ⟨r', hr1, hr2⟩ := findKey_run hkd hy h2 hr w
          have hg : (getObj p.b).run c.P w = .ok (.map ents clock) w := by simp [getObj, Sem.run, h1]
          split at e
          · rename_i j v0
            simp only [Option.some.injEq, Prod.mk.injEq] at e
            obtain ⟨rfl, rfl⟩ := e
            cases r' with
            | none => exact hr2.elim
            | some q =>
              obtain ⟨j', y0⟩ := q
              obtain ⟨rfl, hv0⟩ := hr2
              obtain ⟨_, en, he1, he2⟩ := findKey_same hy h2 hr
              simp only [Nat.sub_zero] at he1
              have hent : ents[j]? = some en := by simpa using he1
              have hb := h2.born j
              rw [he1] at hb
              simp only [Option.map_some] at hb
              refine ⟨.tuple #[y0, .int .i64 (en.born : Int)], _, ?_, ⟨[y0, .int .i64 (en.born : Int)], ⟨y0, _, rfl, hv0, _, [], rfl, ?_, rfl⟩, rfl⟩, post_map h ho hp (ents := ents.modify j fun e => { e with key := y }) (clock' := clock) ?_⟩
              · simp [Instr.mapEntry, run_underlying hd, hg, checkKey_run hkd hko hy, hr1, hent, he2, Instr.keyThatStays, sameBits_self hko hy, setObj_run (c := c) w p.b h1, goInt]
              · rw [← hb]; rfl
              · rw [Array.toList_modify]; exact h2.setKey hy j
          · simp only [Option.map_eq_some_iff, Prod.mk.injEq] at e
            obtain ⟨z, hz, rfl, rfl⟩ := e
            obtain ⟨zz, hzz, hzv⟩ := zeroAV_run (c := c) (ρ := ρ) hz w
            cases r' with
            | some q => exact hr2.elim
            | none =>
              refine ⟨.tuple #[zz, .int .i64 (clock : Int)], _, ?_, ⟨[zz, .int .i64 (clock : Int)], ⟨zz, _, rfl, hzv, _, [], rfl, rfl, rfl⟩, rfl⟩, post_map h ho hp (ents := ents.push ⟨y, zz, clock⟩) (clock' := clock + 1) ?_⟩
              · simp [Instr.mapEntry, run_underlying hd, hg, checkKey_run hkd hko hy, hr1, hzz, setObj_run (c := c) w p.b h1, goInt]
              · rw [Array.toList_push]; exact h2.snoc hy hzv
        · cases e
      · cases e
    · cases e
  · cases e

theorem entryStore_sound (h : Rel c base w0 ρ H w) (t : TypeId) {m s v : AV} {H' : AHeap} (e : aentryStore H m s v = some H') {x y z : Value} (hx : VR ρ m x) (hy : VR ρ s y) (hz : VR ρ v z) :
    ∃ w', (Instr.entryStore t x y z).run c.P w = .ok () w' ∧ Post c base w0 ρ H w ρ H' w' := by
  unfold aentryStore at e
  split at e
  · rename_i i k born
    split at e
    · rename_i es clock ho
      simp only [Option.map_eq_some_iff] at e
      obtain ⟨j, hj, rfl⟩ := e
      obtain ⟨p, hp, rfl⟩ := hx
      simp only [VR] at hy
      subst hy
      obtain ⟨q, hq, ⟨ents, h1, h2⟩, _⟩ := h.own i _ ho
      obtain rfl : p = q := by rw [hp] at hq; exact Option.some.inj hq
      have hg : (getObj p.b).run c.P w = .ok (.map ents clock) w := by simp [getObj, Sem.run, h1]
      obtain ⟨_, hst⟩ := h2.stamp born hj
      simp only [Nat.sub_zero] at hst
      have hst' : ents.findIdx? (fun e => (e.born : Int) == born) = some j := by cases ents with | mk l => simpa using hst
      refine ⟨_, ?_, post_map h ho hp (ents := ents.modify j fun e => { e with val := z }) (clock' := clock) ?_⟩
      · simp [Instr.entryStore, hg, asInt, asIntOf, hst', setObj_run (c := c) w p.b h1]
      · rw [Array.toList_modify]; exact h2.setVal hz j
    · cases e
  · cases e

theorem delete_sound (h : Rel c base w0 ρ H w) {t ty : TypeId} {m k : AV} {H' : AHeap} (e : adelete c H t m k = some H') {x y : Value} (hx : VR ρ m x) (hy : VR ρ k y) (ts : Array TypeId) (hts : ts[0]? = some t) :
    ∃ w', (Builtin.delete_ ts ty #[x, y]).run c.P w = .ok (.tuple #[]) w' ∧ Post c base w0 ρ H w ρ H' w' := by
  simp only [adelete, Option.bind_eq_some_iff] at e
  obtain ⟨d, hd, e⟩ := e
  split at e
  · rename_i kt vt
    simp only [Option.bind_eq_some_iff] at e
    obtain ⟨kd, hkd, e⟩ := e
    split at e
    · rename_i hko
      split at e
      · cases e
        simp only [VR] at hx; subst hx
        exact ⟨w, by simp [Builtin.delete_, hts, run_underlying hd, checkKey_run hkd hko hy], Post.refl h⟩
      · rename_i i
        split at e
        · rename_i es clock ho
          simp only [Option.bind_eq_some_iff] at e
          obtain ⟨r, hr, e⟩ := e
          obtain ⟨p, hp, rfl⟩ := hx
          obtain ⟨q, hq, ⟨ents, h1, h2⟩, _⟩ := h.own i _ ho
          obtain rfl : p = q := by rw [hp] at hq; exact Option.some.inj hq
          obtain ⟨r', hr1, hr2⟩ := findKey_run hkd hy h2 hr w
          have hg : (getObj p.b).run c.P w = .ok (.map ents clock) w := by simp [getObj, Sem.run, h1]
          split at e
          · rename_i j v0
            cases e
            cases r' with
            | none => exact hr2.elim
            | some q =>
              obtain ⟨j', y0⟩ := q
              obtain ⟨rfl, _⟩ := hr2
              obtain ⟨_, en, he1, he2⟩ := findKey_same hy h2 hr
              simp only [Nat.sub_zero] at he1
              have hlt : j < ents.size := by simpa using (List.getElem?_eq_some_iff.1 he1).1
              refine ⟨_, ?_, post_map h ho hp (ents := ents.eraseIdxIfInBounds j) (clock' := clock) ?_⟩
              · simp [Builtin.delete_, hts, run_underlying hd, hg, checkKey_run hkd hko hy, hr1, setObj_run (c := c) w p.b h1]
              · rw [Array.eraseIdxIfInBounds, dif_pos hlt, Array.toList_eraseIdx]; exact h2.erase j
          · cases e
            cases r' with
            | some q => exact hr2.elim
            | none =>
              refine ⟨w, ?_, Post.refl h⟩
              have hself : ({ w with heap := w.heap.setIfInBounds p.b (.map ents clock) } : World) = w := by
                have : w.heap.setIfInBounds p.b (.map ents clock) = w.heap := by
                  apply Array.ext'
                  apply List.ext_getElem?
                  intro n
                  simp only [Array.toList_setIfInBounds, List.getElem?_set, Array.getElem?_toList]
                  split
                  · rename_i hn; subst hn
                    split
                    · exact h1.symm
                    · rename_i hge; rw [Array.getElem?_eq_none (by simpa using hge)] at h1; cases h1
                  · rfl
                rw [this]
              simp [Builtin.delete_, hts, run_underlying hd, hg, checkKey_run hkd hko hy, hr1, setObj_run (c := c) w p.b h1, hself]
        · cases e
      · cases e
    · cases e
  · cases e

/-! copy, clear -/

theorem copy_sound (h : Rel c base w0 ρ H w) {dt ty t2 : TypeId} {x y v : AV} {H' : AHeap} (e : acopy c H dt x y = some (v, H')) {x' y' : Value} (hx : VR ρ x x') (hy : VR ρ y y') (ts : Array TypeId) (hts : ts[0]? = some dt) (_hts1 : ts[1]? = some t2 ∨ True) :
    ∃ u w', (Builtin.copy_ ts ty #[x', y']).run c.P w = .ok u w' ∧ VR ρ v u ∧ Post c base w0 ρ H w ρ H' w' := by
  simp only [acopy, Option.bind_eq_some_iff] at e
  obtain ⟨d, hd, e⟩ := e
  split at e
  · rename_i el
    simp only [Option.bind_eq_some_iff] at e
    obtain ⟨n, hn, ⟨sn, cs⟩, hsrc, e⟩ := e
    obtain ⟨hlen, hcl, hc1, xs, hr, hfc⟩ := source_sound h hsrc hy
    split at e
    · cases e
      simp only [VR] at hx; subst hx
      have hf0 := hfc w (fun _ => rfl) 0 (Nat.zero_le _)
      exact ⟨goInt 0, w, by simp [Builtin.copy_, hts, run_underlying hd, hlen, szOf_run hn, hf0], rfl, Post.refl h⟩
    · rename_i l esz start dn
      obtain ⟨p, hp, hcap, rfl⟩ := hx
      split at e
      · rename_i he
        subst he
        split at e
        · rename_i h0
          cases e
          have hf0 := hfc w (fun _ => rfl) 0 (Nat.zero_le _)
          have hmin : Nat.min sn dn = 0 := h0
          exact ⟨goInt 0, w, by simp [Builtin.copy_, hts, run_underlying hd, hlen, szOf_run hn, hmin, hf0, storeCells], rfl, Post.refl h⟩
        · rename_i h0
          simp only [Option.map_eq_some_iff, Prod.mk.injEq] at e
          obtain ⟨H2, hH2, rfl, rfl⟩ := e
          have hfm := hfc w (fun _ => rfl) (min sn dn) (Nat.min_le_left _ _)
          obtain ⟨w', hw', hpost⟩ := wr_sound h hH2 hp (hr.take (min sn dn * esz))
          refine ⟨goInt (min sn dn : Nat), w', ?_, rfl, hpost⟩
          have hmin : Nat.min sn dn = min sn dn := rfl
          simp [Builtin.copy_, hts, run_underlying hd, hlen, szOf_run hn, hmin, hfm, hw']
      · cases e
    · cases e
  · cases e

end Go.AM
