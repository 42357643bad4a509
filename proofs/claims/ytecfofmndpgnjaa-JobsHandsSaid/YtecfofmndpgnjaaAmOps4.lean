/-
  THE OPERATIONS, fourth part (own work): literals, make, append, slicing.
-/
import Derived.Test.YtecfofmndpgnjaaAmOps3
namespace Go.AM
open Go.RowKit
set_option linter.unusedSimpArgs false

variable {c : Ctx} {base : Nat} {w0 w : World} {ρ : Pl} {H : AHeap}

theorem wrap64_id {n : Int} (h0 : -9223372036854775808 ≤ n) (h1 : n ≤ 9223372036854775807) : IntKind.i64.wrap n = n := IntWalk.i64_in n ⟨h0, h1⟩

theorem range0 : Array.range 0 = #[] := by apply Array.ext'; simp

theorem post_drew (h : Rel c base w0 ρ H w) : Post c base w0 ρ H w ρ H w.drew :=
  ⟨⟨h.below.drew, h.size, h.own, h.inj, h.ext, h.glob⟩, Ext.refl _, fun _ _ e => .inl e, Nat.le_refl _, Nat.le_refl _, fun _ _ _ => rfl, fun i o p e s r => .inr ⟨i, o, p, e, s, r, rfl⟩⟩

/-- an object forgotten -/
theorem post_kill (h : Rel c base w0 ρ H w) (i : Nat) (hi : i < H.length) : Post c base w0 ρ H w ρ (H.set i none) w := by
  have hsub : ∀ {j o}, hat (H.set i none) j = some o → hat H j = some o := by
    intro j o e
    rw [hat_set H i none j hi] at e
    split at e
    · cases e
    · exact e
  exact ⟨⟨h.below, h.size, fun j o e => h.own j o (hsub e), fun j k o o' p q e e' => h.inj j k o o' p q (hsub e) (hsub e'), h.ext, h.glob⟩, Ext.refl _, fun _ _ e => .inl e, by simp, Nat.le_refl _, fun _ _ _ => rfl,
    fun j o p e s r => .inr ⟨j, o, p, hsub e, s, r, rfl⟩⟩

/-- an object moved: what lay at i lies in the same block as a new one -/
theorem post_move {w' : World} (h : Rel c base w0 ρ H w) (hf : ρ (.own H.length) = none) {i : Nat} {o o' : AObj} {p p' : Place} (e : hat H i = some o) (s : o.solid = true) (r : ρ (.own i) = some p) (hpp : p'.b = p.b)
    (hos : w'.os = w.os) (htp : w'.tape = w.tape) (hout : w'.output = w.output) (hsz : w'.heap.size = w.heap.size) (hbl : ∀ k, k ≠ p.b → w'.heap[k]? = w.heap[k]?) (ho' : ObjR (upd ρ (.own H.length) p') p' w'.heap o') :
    Post c base w0 ρ H w (upd ρ (.own H.length) p') (hnew (H.set i none) o') w' := by
  have hi := hat_lt e
  have hx : Ext ρ (upd ρ (.own H.length) p') := upd_ext hf
  have hlen : (H.set i none).length = H.length := by simp
  have hbase : base ≤ p.b := by
    obtain ⟨q, hq, _, hb⟩ := h.own i o e
    rw [r] at hq; cases hq; exact hb s
  have hcase : ∀ {j o2}, hat (hnew (H.set i none) o') j = some o2 → (j = H.length ∧ o2 = o') ∨ (j ≠ H.length ∧ j ≠ i ∧ hat H j = some o2) := by
    intro j o2 e2
    rw [hat_new, hlen] at e2
    split at e2
    · rename_i hj; cases e2; exact .inl ⟨hj, rfl⟩
    · rename_i hj
      rw [hat_set H i none j hi] at e2
      split at e2
      · cases e2
      · rename_i hji; exact .inr ⟨hj, hji, e2⟩
  refine ⟨⟨⟨hos.trans h.below.os, htp.trans h.below.tape, hout.trans h.below.output, by rw [hsz]; exact h.below.size, fun k hk => (hbl k (by omega)).trans (h.below.block k hk)⟩, by rw [hsz]; exact h.size, ?_, ?_, ?_, ?_⟩, hx, ?_, by simp [hnew], by omega, ?_, ?_⟩
  · intro j o2 e2
    rcases hcase e2 with ⟨rfl, rfl⟩ | ⟨_, hji, e2⟩
    · exact ⟨p', upd_same _ _ _, ho', fun _ => by omega⟩
    · obtain ⟨q, hq, ho, hb⟩ := h.own j o2 e2
      exact ⟨q, hx _ _ hq, ho.mono hx (fun s2 => hbl _ fun hqp => hji (h.inj j i o2 o q p e2 e s2 s hq r hqp)), hb⟩
  · intro j k o1 o2 q1 q2 e1 e2 s1 s2 r1 r2 hq
    rcases hcase e1 with ⟨rfl, rfl⟩ | ⟨hj, hji, f1⟩ <;> rcases hcase e2 with ⟨rfl, rfl⟩ | ⟨hk, hki, f2⟩
    · rfl
    · rw [upd_same] at r1; cases r1
      rw [upd_ne ρ _ (by simpa using hk)] at r2
      exact absurd (h.inj k i o2 o q2 p f2 e s2 s r2 r (by omega)) hki
    · rw [upd_same] at r2; cases r2
      rw [upd_ne ρ _ (by simpa using hj)] at r1
      exact absurd (h.inj j i o1 o q1 p f1 e s1 s r1 r (by omega)) hji
    · rw [upd_ne ρ _ (by simpa using hj)] at r1
      rw [upd_ne ρ _ (by simpa using hk)] at r2
      exact h.inj j k o1 o2 q1 q2 f1 f2 s1 s2 r1 r2 hq
  · intro path cells hG
    obtain ⟨q, hq, hb, hc⟩ := h.ext path cells hG
    refine ⟨q, hx _ _ hq, hb, fun j v hj => ?_⟩
    obtain ⟨x, hxx, hv, h1⟩ := hc j v hj
    refine ⟨x, ?_, hv.mono hx, h1⟩
    rw [World.cell?_of_block (w := w) (hbl q.b (by omega))]; exact hxx
  · intro g; obtain ⟨n, hn⟩ := h.glob g; exact ⟨n, hx _ _ hn⟩
  · intro l q e2
    by_cases hl : l = .own H.length
    · exact .inr ⟨H.length, hl, Nat.le_refl _, by simp [hnew]⟩
    · rw [upd_ne ρ p' hl] at e2; exact .inl e2
  · intro b hb hn
    exact hbl b fun hbp => hn i o p e s r hbp.symm
  · intro j o2 q e2 s2 r2
    rcases hcase e2 with ⟨rfl, rfl⟩ | ⟨hj, _, e2⟩
    · rw [upd_same] at r2; cases r2; exact .inr ⟨i, o, p, e, s, r, hpp.symm⟩
    · rw [upd_ne ρ _ (by simpa using hj)] at r2
      exact .inr ⟨j, o2, q, e2, s2, r2, rfl⟩

/-! literals -/

theorem mapM_list_run {α β γ : Type} (f : α → Sem β) (g : α → Option γ) (k : γ → β) (hfg : ∀ x y, g x = some y → ∀ w, (f x).run c.P w = .ok (k y) w) : ∀ (l : List α) (r : List γ), mapO g l = some r → ∀ w, (l.mapM f).run c.P w = .ok (r.map k) w
  | [], r, e, w => by simp [mapO] at e; subst e; simp
  | x :: l, r, e, w => by
    simp only [mapO, Option.bind_eq_some_iff, Option.some.injEq] at e
    obtain ⟨y, hy, z, hz, rfl⟩ := e
    simp [List.mapM_cons, hfg x y hy, mapM_list_run f g k hfg l z hz]

theorem build_sound {t : TypeId} {ps : List (Nat × AV)} {v : AV} (e : abuild c t ps = some v) {xs : Array (Nat × Value)} (hp : PartsR ρ ps xs.toList) (w : World) :
    ∃ y, (Instr.build t xs).run c.P w = .ok y w ∧ VR ρ v y := by
  simp only [abuild, Option.bind_eq_some_iff] at e
  obtain ⟨z, hz, d, hd, e⟩ := e
  obtain ⟨zz, hzz, hv⟩ := zeroCells_run (c := c) (ρ := ρ) hz w
  split at e
  · rename_i fs
    simp only [Option.bind_eq_some_iff, Option.map_eq_some_iff] at e
    obtain ⟨pl, hpl, r, hr, rfl⟩ := e
    obtain ⟨_, ds', h1, h2⟩ := fill_sound (fun i => pl[i]?) hp hr hv
    refine ⟨.agg ds', ?_, ds'.toList, h2, by simp⟩
    have hm : (fs.mapM fun (f : Field) => (do pure (f.offset, ← sizeOf f.type) : Sem (Nat × Nat))).run c.P w = .ok pl.toArray w := by
      rw [Array.mapM_eq_mapM_toList, Sem.run_map, mapM_list_run _ (fun f : Field => (szOf c.P f.type).map fun n => (f.offset, n)) id (fun f y hy w => by
        simp only [Option.map_eq_some_iff] at hy
        obtain ⟨n, hn, rfl⟩ := hy
        simp [szOf_run hn]) fs.toList pl hpl]
      simp
    have hfun : (fun (i : Nat) => pl.toArray[i]?) = fun (i : Nat) => pl[i]? := by funext i; simp
    simp only [Instr.build, Sem.run_bind, hzz, Result.andThen_ok, run_underlying hd, hm]
    rw [show (fun (x : Nat) => pl.toArray[x]?) = fun (i : Nat) => pl[i]? from hfun, h1]
    rfl
  · rename_i n el
    simp only [Option.bind_eq_some_iff, Option.map_eq_some_iff] at e
    obtain ⟨sz, hsz, r, hr, rfl⟩ := e
    obtain ⟨_, ds', h1, h2⟩ := fill_sound (fun i => some (i * sz, sz)) hp hr hv
    refine ⟨.agg ds', ?_, ds'.toList, h2, by simp⟩
    simp only [Instr.build, Sem.run_bind, hzz, Result.andThen_ok, run_underlying hd, szOf_run hsz, h1]
    rfl
  · cases e

theorem reps_length (n : Nat) (z : List AV) : (reps n z).length = n * z.length := by
  induction n with
  | zero => simp [reps]
  | succ n ih => simp [reps, ih, Nat.add_mul, Nat.add_comm]

theorem reps_get (n : Nat) (z : List AV) (_hz : 0 < z.length) (j : Nat) (hj : j < n * z.length) : (reps n z)[j]? = z[j % z.length]? := by
  induction n generalizing j with
  | zero => simp at hj
  | succ n ih =>
    simp only [reps]
    by_cases h : j < z.length
    · rw [List.getElem?_append_left h, Nat.mod_eq_of_lt h]
    · rw [List.getElem?_append_right (by omega), ih (j - z.length) (by rw [Nat.add_mul] at hj; omega)]
      congr 1
      exact (Nat.mod_eq_sub_mod (by omega)).symm

/-- zero elements as 'make' lays them -/
theorem reps_sound {z : List AV} {zz : Array Value} (hv : VRs ρ z zz.toList) (hz : 0 < z.length) (n : Nat) : VRs ρ (reps n z) ((Array.range (n * z.length)).map (zz[· % zz.size]!)).toList := by
  have hl := hv.length
  simp only [Array.length_toList] at hl
  refine VRs.of_get (by simp [reps_length]) fun j v hj => ?_
  have hlt : j < n * z.length := by
    rw [← reps_length]; exact (List.getElem?_eq_some_iff.1 hj).1
  rw [reps_get n z hz j hlt] at hj
  obtain ⟨x, hx, hr⟩ := hv.get hj
  refine ⟨x, ?_, hr⟩
  simp only [Array.toList_map, Array.toList_range, List.getElem?_map, List.getElem?_range hlt, Option.map_some, hl]
  have : j % z.length < zz.size := by rw [hl]; exact Nat.mod_lt _ hz
  rw [getElem!_pos zz (j % z.length) this]
  simp at hx
  rw [Array.getElem?_eq_getElem this] at hx
  exact hx

theorem reps_one {z : List AV} (h : z.all AV.one = true) (n : Nat) : (reps n z).all AV.one = true := by
  induction n with
  | zero => rfl
  | succ n ih => simp only [reps, List.all_append, h, ih, Bool.and_self]

theorem afill_length {place : Nat → Option (Nat × Nat)} : ∀ {ps : List (Nat × AV)} {cs r : List AV}, afill place cs ps = some r → r.length = cs.length
  | [], cs, r, e => by simp [afill] at e; subst e; rfl
  | (i, v) :: ps, cs, r, e => by
    simp only [afill, Option.bind_eq_some_iff] at e
    obtain ⟨q, hq, e⟩ := e
    split at e
    · rename_i hc
      rw [afill_length e, setSeg_length cs q.1 v.cells (by omega)]
    · cases e

theorem buildSlice_sound (h : Rel c base w0 ρ H w) {t : TypeId} {len : Nat} {ps : List (Nat × AV)} {v : AV} {H' : AHeap} (e : abuildSlice c H t len ps = some (v, H')) (hf : ρ (.own H.length) = none) {xs : Array (Nat × Value)} (hp : PartsR ρ ps xs.toList) :
    ∃ ρ' x w', (Instr.buildSlice t len xs).run c.P w = .ok x w' ∧ VR ρ' v x ∧ Post c base w0 ρ H w ρ' H' w' := by
  simp only [abuildSlice, Option.bind_eq_some_iff] at e
  obtain ⟨d, hd, e⟩ := e
  split at e
  · rename_i el
    simp only [Option.bind_eq_some_iff] at e
    obtain ⟨n, hn, z, hz, e⟩ := e
    obtain ⟨zz, hzz, hv⟩ := zeroCells_run (c := c) (ρ := ρ) hz w
    split at e
    · rename_i hc
      obtain ⟨hc1, hc2, hc3, hc4, hc5⟩ := hc
      simp only [Option.map_eq_some_iff, Prod.mk.injEq] at e
      obtain ⟨cs, hcs, rfl, rfl⟩ := e
      have hr := reps_sound hv (by omega) len
      rw [hc2] at hr
      obtain ⟨ha, ds, h1, h2⟩ := fill_sound (fun i => some (i * n, n)) hp hcs hr
      have hlen := afill_length hcs
      rw [reps_length, hc2] at hlen
      have hdl := h2.length
      simp only [Array.length_toList] at hdl
      have hne : ¬ len * n = 0 := by
        have := Nat.mul_pos hc4 hc3; omega
      have hpost := new_row (ty := el) (esz := n) (cap := len) h hf h2 (ha (reps_one hc5 len)) (ds := ds) (fun j x hx => by simpa using hx) (by omega) (by omega)
      refine ⟨_, .slice (some ⟨w.heap.size, 0, none⟩) len len, w.alloc (.cells ds el), ?_, ⟨⟨w.heap.size, 0, len⟩, upd_same _ _ _, by simp, by simp⟩, hpost⟩
      simp only [Instr.buildSlice, Sem.run_bind, run_underlying hd, szOf_run hn, Result.andThen_ok]
      rw [if_neg (by omega), if_neg hne]
      simp only [Sem.run_bind, hzz, Result.andThen_ok, Sem.run_pure, h1]
      simp [newRow]
    · split at e
      · rename_i hc
        obtain ⟨rfl, rfl, hn0⟩ := hc
        cases e
        have hx0 : xs = #[] := by
          cases hp' : xs.toList with
          | nil => exact Array.toList_eq_nil_iff.1 hp'
          | cons a b => rw [hp'] at hp; cases hp
        subst hx0
        have hpost := new_row (ty := el) (esz := n) (cap := 0) (cs := []) (xs := []) h hf rfl rfl (ds := #[]) (fun j x hx => by simp at hx) (by simp) (by simp)
        refine ⟨_, .slice (some ⟨w.heap.size, 0, none⟩) 0 0, w.alloc (.cells #[] el), ?_, ⟨⟨w.heap.size, 0, 0⟩, upd_same _ _ _, by simp, by simp⟩, hpost⟩
        simp [Instr.buildSlice, run_underlying hd, szOf_run hn, Instr.fill, newRow, range0]
      · cases e
  · cases e

theorem makeSlice_sound (h : Rel c base w0 ρ H w) {t : TypeId} {a b v : AV} {H' : AHeap} (e : amakeSlice c H t a b = some (v, H')) (hf : ρ (.own H.length) = none) {x y : Value} (hx : VR ρ a x) (hy : VR ρ b y) :
    ∃ ρ' u w', (Instr.makeSlice t x y).run c.P w = .ok u w' ∧ VR ρ' v u ∧ Post c base w0 ρ H w ρ' H' w' := by
  unfold amakeSlice at e
  split at e
  · rename_i k1 l k2 m
    simp only [VR] at hx hy; subst hx hy
    simp only [Option.bind_eq_some_iff] at e
    obtain ⟨d, hd, e⟩ := e
    split at e
    · rename_i el
      simp only [Option.bind_eq_some_iff] at e
      obtain ⟨i, hi, z, hz, e⟩ := e
      obtain ⟨zz, hzz, hv⟩ := zeroCells_run (c := c) (ρ := ρ) hz (w := w)
      split at e
      · rename_i hc
        obtain ⟨hc1, hc2, hc3, hc4, hc5, hc6, hc7⟩ := hc
        cases e
        have hwl : IntKind.i64.wrap l = l := wrap64_id (by omega) (by omega)
        have hwm : IntKind.i64.wrap m = m := wrap64_id (by omega) (by omega)
        have hr := reps_sound hv (by omega) m.toNat
        rw [hc5] at hr
        have hpost := new_row (ty := el) (esz := i.size) (cap := m.toNat) h hf hr (reps_one hc7 m.toNat) (ds := (Array.range (m.toNat * i.size)).map (zz.cells[· % zz.cells.size]!)) (fun j x hx => by rw [← Array.getElem?_toList]; exact hx) (by simp) (by rw [reps_length, hc5]; omega)
        refine ⟨_, .slice (some ⟨w.heap.size, 0, none⟩) l.toNat m.toNat, w.alloc (.cells ((Array.range (m.toNat * i.size)).map (zz.cells[· % zz.cells.size]!)) el), ?_, ⟨⟨w.heap.size, 0, m.toNat⟩, upd_same _ _ _, by simp; omega, by simp⟩, hpost⟩
        have hb : ¬ ((i.bytes : Int) * m > 2 ^ 48) := by omega
        have htl : (decide (m < 0) || decide ((i.bytes : Int) * m > 2 ^ 48)) = false := by simp; omega
        simp only [Instr.makeSlice, Sem.run_bind, run_underlying hd, asInt, asIntOf, Sem.run_pure, Result.andThen_ok, info_run hi, hwl, hwm, htl, Bool.false_or]
        have hcond : (decide (l < 0) || decide (l > m)) = false := by simp; omega
        rw [if_neg (by rw [hcond]; simp)]
        simp only [Sem.run_bind, run_askRoom, Result.andThen_ok, sizeOf, info_run hi, Sem.run_pure]
        by_cases hm0 : m.toNat * i.size = 0
        · simp [hm0, newRow, range0]
        · rw [if_neg hm0]
          simp [hzz, newRow]
      · cases e
    · cases e
  · cases e

end Go.AM
