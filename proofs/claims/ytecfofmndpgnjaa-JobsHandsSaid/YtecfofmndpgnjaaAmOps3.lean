/-
  THE OPERATIONS, third part (own work): what makes blocks or writes to them.
-/
import Derived.Test.YtecfofmndpgnjaaAmOps2
namespace Go.AM
open Go.RowKit
set_option linter.unusedSimpArgs false

variable {c : Ctx} {base : Nat} {w0 w : World} {ρ : Pl} {H : AHeap}

theorem heap_alloc_new (w : World) (o : Obj) : (w.alloc o).heap[w.heap.size]? = some o := by
  show (w.heap.push o)[w.heap.size]? = some o
  simp

theorem seg_get {α : Type} (a v : List α) (off j : Nat) (h : off + v.length ≤ a.length) :
    (a.take off ++ (v ++ a.drop (off + v.length)))[j]? = if j < off then a[j]? else if j < off + v.length then v[j - off]? else a[j]? := by
  have ht : (a.take off).length = off := by rw [List.length_take]; omega
  split
  · rename_i hj
    rw [List.getElem?_append_left (by omega), List.getElem?_take, if_pos hj]
  · rename_i hj
    rw [List.getElem?_append_right (by omega), ht]
    split
    · rename_i hj2
      rw [List.getElem?_append_left (by omega)]
    · rename_i hj2
      rw [List.getElem?_append_right (by omega), List.getElem?_drop]
      congr 1; omega

theorem setSeg_length (cs : List AV) (off : Nat) (vs : List AV) (h : off + vs.length ≤ cs.length) : (setSeg cs off vs).length = cs.length := by
  simp [setSeg]; omega

/-- cells stored into a row -/
theorem cells_set {cs vs : List AV} {off : Nat} {xs : List Value} {ds : Array Value} {po : Nat} (hle : off + vs.length ≤ cs.length) (hr : VRs ρ vs xs) (h1 : vs.all AV.one = true) (hsz : po + off + xs.length ≤ ds.size)
    (hc : ∀ (j : Nat) (v : AV), cs[j]? = some v → ∃ x, ds[po + j]? = some x ∧ VR ρ v x ∧ v.one = true) (j : Nat) (v : AV) (hj : (setSeg cs off vs)[j]? = some v) :
    ∃ x, (ds.toList.take (po + off + 0) ++ xs ++ ds.toList.drop (po + off + 0 + xs.length)).toArray[po + j]? = some x ∧ VR ρ v x ∧ v.one = true := by
  have hl := hr.length
  rw [setSeg, seg_get cs vs off j hle] at hj
  rw [List.getElem?_toArray, List.append_assoc, Nat.add_zero, seg_get ds.toList xs (po + off) (po + j) (by simpa using hsz)]
  split at hj
  · rename_i hlt
    rw [if_pos (by omega)]
    simpa using hc j v hj
  · rename_i hge
    split at hj
    · rename_i hlt
      rw [if_neg (by omega), if_pos (by omega)]
      obtain ⟨x, hx, hv⟩ := hr.get hj
      refine ⟨x, by rw [show po + j - (po + off) = j - off by omega]; exact hx, hv, ?_⟩
      exact List.all_eq_true.1 h1 v (List.mem_of_getElem? hj)
    · rename_i hge2
      rw [if_neg (by omega), if_neg (by omega)]
      simpa using hc j v hj

theorem all_one_sound {vs : List AV} {xs : List Value} (hr : VRs ρ vs xs) (h1 : vs.all AV.one = true) : ∀ x ∈ xs, x.oneCell' = true := by
  intro x hx
  obtain ⟨j, hj⟩ := List.mem_iff_getElem?.1 hx
  have hlt : j < vs.length := by rw [← hr.length]; exact (List.getElem?_eq_some_iff.1 hj).1
  obtain ⟨y, hy, hv⟩ := hr.get (List.getElem?_eq_getElem hlt)
  rw [hj] at hy; cases hy
  rw [hv.one]
  exact List.all_eq_true.1 h1 _ (List.getElem_mem hlt)

theorem wr_sound (h : Rel c base w0 ρ H w) {l : Loc} {off : Nat} {vs : List AV} {H' : AHeap} (e : wr H l off vs = some H') {p : Place} (hp : ρ l = some p) {xs : List Value} (hr : VRs ρ vs xs) :
    ∃ w', (storeCells ⟨p.b, p.off + off, none⟩ xs).run c.P w = .ok () w' ∧ Post c base w0 ρ H w ρ H' w' := by
  unfold wr at e
  split at e
  · rename_i i
    split at e
    · rename_i ty esz cs ho
      split at e
      · rename_i hle
        obtain ⟨hle, h1⟩ := hle
        cases e
        obtain ⟨q, hq, ⟨ds, g1, g2, g3, g4⟩, hb⟩ := h.own i _ ho
        obtain rfl : p = q := by rw [hp] at hq; exact Option.some.inj hq
        have hl := hr.length
        have hsz : p.off + off + xs.length ≤ ds.size := by omega
        have hrun := run_storeCells_at (P := c.P) p.b (p.off + off) ty xs 0 ds w g1 (by omega) (all_one_sound hr h1)
        refine ⟨_, hrun, ?_⟩
        refine post_set h ho rfl hp rfl rfl rfl (by simp) (fun k hk => setRow_other w p.b k _ hk) ?_
        refine ⟨_, setRow_heap w p.b ds _ ty (0, 0) g1, ?_, ?_, fun j v hj => cells_set hle hr h1 hsz g4 j v hj⟩
        · simp; omega
        · rw [setSeg_length cs off vs hle]; exact g3
      · cases e
    · cases e
  · cases e

theorem store_sound (h : Rel c base w0 ρ H w) {t : TypeId} {a v : AV} {H' : AHeap} (e : astore c H t a v = some H') {x y : Value} (hx : VR ρ a x) (hy : VR ρ v y) :
    ∃ w', (Instr.storeAt t x y).run c.P w = .ok () w' ∧ Post c base w0 ρ H w ρ H' w' := by
  unfold astore at e
  split at e
  · rename_i l off
    obtain ⟨p, hp, rfl⟩ := hx
    simp only [Option.bind_eq_some_iff] at e
    obtain ⟨n, hn, e⟩ := e
    split at e
    · rename_i hl
      obtain ⟨w', hw, hpost⟩ := wr_sound h e hp hy.cells
      refine ⟨w', ?_, hpost⟩
      have hsz : y.cells.size = n := by have := hy.cells.length; simp at this; omega
      simp [Instr.storeAt, Instr.sureAddr, storeVar, szOf_run hn, hsz, hw]
    · cases e
  · cases e

/-- a new row -/
theorem new_row (h : Rel c base w0 ρ H w) (hf : ρ (.own H.length) = none) {ty esz cap : Nat} {cs : List AV} {xs : List Value} (hr : VRs ρ cs xs) (h1 : cs.all AV.one = true) {ds : Array Value} (hd : ∀ (j : Nat) (x : Value), xs[j]? = some x → ds[j]? = some x)
    (hcap : cap * esz ≤ ds.size) (hlen : cs.length ≤ cap * esz) :
    Post c base w0 ρ H w (upd ρ (.own H.length) ⟨w.heap.size, 0, cap⟩) (hnew H (.row ty esz cs)) (w.alloc (.cells ds ty)) := by
  refine post_new h hf _ ⟨w.heap.size, 0, cap⟩ _ rfl ⟨ds, heap_alloc_new w _, by simpa using hcap, hlen, fun j v hj => ?_⟩
  obtain ⟨x, hx, hv⟩ := hr.get hj
  exact ⟨x, by simpa using hd j x hx, hv.mono (upd_ext hf), List.all_eq_true.1 h1 v (List.mem_of_getElem? hj)⟩

theorem new_sound (h : Rel c base w0 ρ H w) {t : TypeId} {cs : List AV} {v : AV} {H' : AHeap} (e : anew c H t cs = some (v, H')) (hf : ρ (.own H.length) = none) {y : Value} (hy : VRs ρ cs y.cells.toList) :
    ∃ ρ' x w', (newVar t y).run c.P w = .ok x w' ∧ VR ρ' v (.pointer (some x)) ∧ Post c base w0 ρ H w ρ' H' w' := by
  simp only [anew, Option.bind_eq_some_iff] at e
  obtain ⟨n, hn, e⟩ := e
  split at e
  · rename_i hc
    cases e
    have hl := hy.length
    refine ⟨_, ⟨w.heap.size, 0, none⟩, w.alloc (.cells y.cells t), by simp [newVar, newRow], ?_, new_row h hf (cap := 1) hy hc.2 (ds := y.cells) (fun j x hx => by simpa using hx) (by simp at hl; omega) (by omega)⟩
    exact ⟨⟨w.heap.size, 0, 1⟩, upd_same _ _ _, by simp⟩
  · cases e

theorem alloc_sound (h : Rel c base w0 ρ H w) {t : TypeId} {z : List AV} (hz : zeroCells c.P t = some z) {v : AV} {H' : AHeap} (e : anew c H t z = some (v, H')) (hf : ρ (.own H.length) = none) :
    ∃ ρ' x w', (Instr.alloc t true (.tuple #[])).run c.P w = .ok x w' ∧ VR ρ' v x ∧ Post c base w0 ρ H w ρ' H' w' := by
  obtain ⟨y, hy, hv⟩ := zeroCells_run (c := c) (ρ := ρ) hz w
  obtain ⟨ρ', x, w', h1, h2, h3⟩ := new_sound h e hf hv
  exact ⟨ρ', _, w', by simp [Instr.alloc, hy, h1], h2, h3⟩

theorem box_sound (h : Rel c base w0 ρ H w) {t : TypeId} {u v : AV} {H' : AHeap} (e : anew c H t u.cells = some (v, H')) (hf : ρ (.own H.length) = none) {y : Value} (hy : VR ρ u y) :
    ∃ ρ' x w', (Instr.box t y).run c.P w = .ok x w' ∧ VR ρ' v x ∧ Post c base w0 ρ H w ρ' H' w' := by
  obtain ⟨ρ', x, w', h1, h2, h3⟩ := new_sound h e hf hy.cells
  exact ⟨ρ', _, w', by simp [Instr.box, h1], h2, h3⟩

/-! literals -/

theorem fold_set (off : Nat) : ∀ (xs : List Value) (i : Nat) (cs : Array Value), off + i + xs.length ≤ cs.size →
    (xs.zipIdx i).foldl (fun (cs : Array Value) (p : Value × Nat) => cs.setIfInBounds (off + p.2) p.1) cs = (cs.toList.take (off + i) ++ (xs ++ cs.toList.drop (off + i + xs.length))).toArray
  | [], i, cs, _ => by simp
  | x :: r, i, cs, h => by
    simp only [List.length_cons] at h
    rw [List.zipIdx_cons, List.foldl_cons, fold_set off r (i + 1) _ (by simp; omega)]
    apply Array.ext'
    apply List.ext_getElem?
    intro j
    simp only [Array.toList_setIfInBounds]
    rw [seg_get (cs.toList.set (off + i) x) r (off + (i + 1)) j (by simp; omega)]
    have e2 := seg_get cs.toList (x :: r) (off + i) j (by simp; omega)
    simp only [List.length_cons] at e2 ⊢
    rw [e2, List.getElem?_set]
    by_cases h1 : j < off + i
    · rw [if_pos (by omega), if_pos h1, if_neg (by omega)]
    · rw [if_neg h1]
      by_cases h2 : j = off + i
      · subst h2
        rw [if_pos (by omega), if_pos rfl, if_pos (by simp; omega)]
        rw [if_pos (by omega)]; simp
      · by_cases h3 : j < off + (i + 1) + r.length
        · rw [if_neg (by omega), if_pos h3, if_pos (by omega), show j - (off + i) = (j - (off + (i + 1))) + 1 by omega]
          simp
        · rw [if_neg (by omega), if_neg h3, if_neg (by omega), if_neg (by omega)]

inductive PartsR (ρ : Pl) : List (Nat × AV) → List (Nat × Value) → Prop
  | nil : PartsR ρ [] []
  | cons {i : Nat} {v : AV} {x : Value} {ps : List (Nat × AV)} {xs : List (Nat × Value)} (hv : VR ρ v x) (h : PartsR ρ ps xs) : PartsR ρ ((i, v) :: ps) ((i, x) :: xs)

theorem fill_sound (place : Nat → Option (Nat × Nat)) : ∀ {ps : List (Nat × AV)} {xs : List (Nat × Value)}, PartsR ρ ps xs → ∀ {cs : List AV} {r : List AV} {ds : Array Value}, afill place cs ps = some r → VRs ρ cs ds.toList →
    (cs.all AV.one = true → r.all AV.one = true) ∧ ∃ ds', Instr.fill place ds xs = some ds' ∧ VRs ρ r ds'.toList := by
  intro ps xs hp
  induction hp with
  | nil => intro cs r ds e hr; simp [afill] at e; subst e; exact ⟨id, ds, rfl, hr⟩
  | @cons i v x ps xs hv _ ih =>
    intro cs r ds e hr
    simp only [afill, Option.bind_eq_some_iff] at e
    obtain ⟨q, hq, e⟩ := e
    split at e
    · rename_i hc
      obtain ⟨hc1, hc2, hc3⟩ := hc
      have hcl := hv.cells.length
      have hdl := hr.length
      simp only [Array.length_toList] at hcl hdl
      have hle : q.1 + v.cells.length ≤ cs.length := by omega
      have hrel : VRs ρ (setSeg cs q.1 v.cells) (x.cells.zipIdx.foldl (fun (cs : Array Value) (p : Value × Nat) => cs.setIfInBounds (q.1 + p.2) p.1) ds).toList := by
        rw [← Array.foldl_toList, Array.toList_zipIdx, fold_set q.1 x.cells.toList 0 ds (by simp; omega)]
        refine VRs.of_get (by simp [setSeg]; omega) fun j u hj => ?_
        rw [setSeg, seg_get cs v.cells q.1 j hle] at hj
        simp only [Nat.add_zero]
        rw [seg_get ds.toList x.cells.toList q.1 j (by simp; omega)]
        split at hj
        · rename_i h1; rw [if_pos h1]; exact hr.get hj
        · rename_i h1; rw [if_neg h1]
          split at hj
          · rename_i h2; rw [if_pos (by simp; omega)]; exact hv.cells.get hj
          · rename_i h2; rw [if_neg (by simp; omega)]; exact hr.get hj
      obtain ⟨ha, ds', h1, h2⟩ := ih e hrel
      refine ⟨fun hall => ha ?_, ds', ?_, h2⟩
      · rw [List.all_eq_true] at hall hc3 ⊢
        intro u hu
        simp only [setSeg, List.mem_append] at hu
        rcases hu with hu | hu | hu
        · exact hall u (List.mem_of_mem_take hu)
        · exact hc3 u hu
        · exact hall u (List.mem_of_mem_drop hu)
      · simp only [Instr.fill, hq]
        rw [if_neg (by simp; omega)]
        exact h1
    · cases e

end Go.AM
