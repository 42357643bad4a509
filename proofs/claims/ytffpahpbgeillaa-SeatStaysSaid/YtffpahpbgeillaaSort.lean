/-
  SLICES.SORT OVER A ROW OF ONE'S OWN (own work over the shelf's contract), in the words of the walks with arguments.
-/
import Derived.Test.YtffpahpbgeillaaAmSlice
import Derived.Test.YtffpahpbgeillaaAmKeys
import Derived.Shelf.SortM.Plain
import Derived.Shelf.SortM.SortNone
import Derived.Test.YtffpahpbgeillaaProg
import Derived.KernelRfl
namespace Go.Proofs.Ytffpahpbgeillaa.sorts
open Go.RowKit Go.Shelf Go.AM Go.Maps Go.Sort
set_option linter.unusedVariables false
def sortA_ren : Go.Shelf.Ren := ⟨fun | 5 => 23 | 8 => 27 | 7 => 26 | 19 => 37 | 20 => 38 | 10 => 28 | 11 => 29 | 12 => 30 | 13 => 31 | 14 => 32 | 15 => 33 | 16 => 34 | 17 => 35 | 18 => 36 | 30 => 39 | 31 => 40 | 32 => 41 | 33 => 42 | 34 => 43 | 35 => 44 | 40 => 45 | n => n, fun | 23 => 26 | 25 => 3 | 3 => 3 | 32 => 66 | 22 => 26 | 0 => 0 | 44 => 76 | 46 => 78 | 4 => 4 | 36 => 69 | 35 => 68 | 41 => 43 | 5 => 5 | 9 => 9 | 53 => 79 | 57 => 83 | 63 => 85 | 64 => 86 | n => n, fun | n => n⟩
theorem sortA : Go.Proofs.SlLaysM.n5 Try.prog sortA_ren := {
  mixed := by kernel_rfl
  f5 := ⟨Try.f23.name, by decide, Try.func23.trans (congrArg some (by kernel_rfl))⟩
  f7 := ⟨Try.f26.name, by decide, Try.func26.trans (congrArg some (by kernel_rfl))⟩
  f8 := Try.func27.trans (congrArg some (by kernel_rfl))
  f10 := ⟨Try.f28.name, by decide, Try.func28.trans (congrArg some (by kernel_rfl))⟩
  f11 := ⟨Try.f29.name, by decide, Try.func29.trans (congrArg some (by kernel_rfl))⟩
  f12 := ⟨Try.f30.name, by decide, Try.func30.trans (congrArg some (by kernel_rfl))⟩
  f13 := ⟨Try.f31.name, by decide, Try.func31.trans (congrArg some (by kernel_rfl))⟩
  f14 := ⟨Try.f32.name, by decide, Try.func32.trans (congrArg some (by kernel_rfl))⟩
  f15 := ⟨Try.f33.name, by decide, Try.func33.trans (congrArg some (by kernel_rfl))⟩
  f16 := ⟨Try.f34.name, by decide, Try.func34.trans (congrArg some (by kernel_rfl))⟩
  f17 := ⟨Try.f35.name, by decide, Try.func35.trans (congrArg some (by kernel_rfl))⟩
  f18 := ⟨Try.f36.name, by decide, Try.func36.trans (congrArg some (by kernel_rfl))⟩
  f19 := Try.func37.trans (congrArg some (by kernel_rfl))
  f20 := Try.func38.trans (congrArg some (by kernel_rfl))
  f30 := ⟨Try.f39.name, by decide, Try.func39.trans (congrArg some (by kernel_rfl))⟩
  f31 := Try.func40.trans (congrArg some (by kernel_rfl))
  f32 := Try.func41.trans (congrArg some (by kernel_rfl))
  f33 := ⟨Try.f42.name, by decide, Try.func42.trans (congrArg some (by kernel_rfl))⟩
  f34 := ⟨Try.f43.name, by decide, Try.func43.trans (congrArg some (by kernel_rfl))⟩
  f35 := ⟨Try.f44.name, by decide, Try.func44.trans (congrArg some (by kernel_rfl))⟩
  f40 := ⟨Try.f45.name, by decide, Try.func45.trans (congrArg some (by kernel_rfl))⟩
  t0 := Try.underlying0
  a0 := Try.isAgg0
  z0 := Try.sizeOf0
  v0 := Try.zeroValue0
  t3 := Try.underlying3
  a3 := Try.isAgg3
  z3 := Try.sizeOf3
  v3 := Try.zeroValue3
  t4 := Try.underlying4
  a4 := Try.isAgg4
  z4 := Try.sizeOf4
  v4 := Try.zeroValue4
  t5 := Try.underlying5
  a5 := Try.isAgg5
  z5 := Try.sizeOf5
  v5 := Try.zeroValue5
  t9 := Try.underlying9
  a9 := Try.isAgg9
  z9 := Try.sizeOf9
  v9 := Try.zeroValue9
  t22 := Try.underlying26
  a22 := Try.isAgg26
  z22 := Try.sizeOf26
  v22 := Try.zeroValue26
  t23 := Try.underlying26
  a23 := Try.isAgg26
  z23 := Try.sizeOf26
  v23 := Try.zeroValue26
  t25 := Try.underlying3
  a25 := Try.isAgg3
  z25 := Try.sizeOf3
  v25 := Try.zeroValue3
  t32 := Try.underlying66
  a32 := Try.isAgg66
  z32 := Try.sizeOf66
  v32 := Try.zeroValue66
  t35 := Try.underlying68
  a35 := Try.isAgg68
  z35 := Try.sizeOf68
  v35 := Try.zeroValue68
  t36 := Try.underlying69
  a36 := Try.isAgg69
  z36 := Try.sizeOf69
  v36 := Try.zeroValue69
  t41 := Try.underlying43
  a41 := Try.isAgg43
  z41 := Try.sizeOf43
  v41 := Try.zeroValue43
  t44 := Try.underlying76
  a44 := Try.isAgg76
  z44 := Try.sizeOf76
  v44 := Try.zeroValue76
  t46 := Try.underlying78
  a46 := Try.isAgg78
  z46 := Try.sizeOf78
  v46 := Try.zeroValue78
  t53 := Try.underlying79
  a53 := Try.isAgg79
  z53 := Try.sizeOf79
  v53 := Try.zeroValue79
  t57 := Try.underlying83
  a57 := Try.isAgg83
  z57 := Try.sizeOf83
  v57 := Try.zeroValue83
  t63 := Try.underlying85
  a63 := Try.isAgg85
  z63 := Try.sizeOf85
  v63 := Try.zeroValue85
  t64 := Try.underlying86
  a64 := Try.isAgg86
  z64 := Try.sizeOf86
  v64 := Try.zeroValue86 }

theorem put_heap {w : World} {g off : Nat} {cur : Array Value} {e : TypeId} {fr : Nat × Nat} (hg : w.heap[g]? = some (.cells cur e fr)) (n : Nat) (ys : List Int) (os : Array Obj) :
    (grow (putRow (Value.int .i64) (Go.Sort.ahead w n) g off ys.toArray) os).heap[g]? = some (.cells (putCells (Value.int .i64) off ys.toArray cur) e fr) := by
  obtain ⟨hlt, _⟩ := Array.getElem?_eq_some_iff.1 hg
  unfold grow putRow mapBlock Go.Sort.ahead
  simp only
  rw [Array.getElem?_append_left (by simpa using hlt), Array.getElem?_modify, if_pos rfl, hg]
  rfl
theorem put_other {w : World} {g off k : Nat} (hk : k ≠ g) (hlt : k < w.heap.size) (n : Nat) (ys : List Int) (os : Array Obj) :
    (grow (putRow (Value.int .i64) (Go.Sort.ahead w n) g off ys.toArray) os).heap[k]? = w.heap[k]? := by
  unfold grow putRow mapBlock Go.Sort.ahead
  simp only
  rw [Array.getElem?_append_left (by simpa using hlt), Array.getElem?_modify, if_neg (fun h => hk h.symm)]
theorem sort_perm (zs : List Int) : (zs.mergeSort fun x y => decide (x ≤ y)) = isortI zs := sort_eq (List.Perm.refl zs)

/-- the block of an own row written by the world's own hand, and new blocks behind -/
theorem post_put {c : Ctx} {base : Nat} {w0 w w' : World} {ρ : Pl} {H : AHeap} (h : Rel c base w0 ρ H w) {i : Nat} {o o' : AObj} {p : AM.Place} (e : hat H i = some o) (s : o.solid = true) (s' : o'.solid = true) (r : ρ (.own i) = some p)
    (hos : w'.os = w.os) (htp : w'.tape = w.tape) (hout : w'.output = w.output) (hsz : w.heap.size ≤ w'.heap.size) (hbl : ∀ k, k < w.heap.size → k ≠ p.b → w'.heap[k]? = w.heap[k]?) (ho' : ObjR ρ p w'.heap o') :
    Post c base w0 ρ H w ρ (H.set i (some o')) w' := by
  have hpb := rel_lt h e r s
  let w1 : World := { w' with heap := w'.heap.extract 0 w.heap.size }
  have h1 : ∀ k, k < w.heap.size → w1.heap[k]? = w'.heap[k]? := by
    intro k hk
    show (w'.heap.extract 0 w.heap.size)[k]? = _
    rw [Array.getElem?_extract]
    rw [if_pos (by omega)]
    simp
  have hw1 : w1.heap.size = w.heap.size := by show (w'.heap.extract 0 w.heap.size).size = _; simp; omega
  have ho1 : ObjR ρ p w1.heap o' := ho'.mono (Ext.refl _) (fun _ => h1 p.b hpb)
  have p1 := post_set h e s r (w' := w1) hos htp hout hw1 (fun k hk => by
    by_cases hk2 : k < w.heap.size
    · rw [h1 k hk2]; exact hbl k hk2 hk
    · rw [Array.getElem?_eq_none (by omega), Array.getElem?_eq_none (by omega)]) ho1
  have p2 := post_grow p1.rel (w' := w') ⟨rfl, rfl, rfl, by omega, fun k hk => (h1 k (by omega)).symm⟩
  exact p1.trans p2

variable {κ : Kn} {H : AHeap}
/-- slices.Sort -/
theorem sort_pt (hP : κ.c.P = Try.prog) {v : AV} {zs : List Int} {b st e : Nat} {cells : List AV} (hv : v = .slice (.own b) 1 st zs.length) (hb : hat H b = some (.row e 1 cells)) (hc : (cells.drop st).take zs.length = zs.map (.int .i64)) (hlc : st + zs.length ≤ cells.length) (hl : zs.length < 4611686018427387904) :
    Pt κ 23 [v] H (.tuple []) (H.set b (some (.row e 1 (setSeg cells st ((isortI zs).map (.int .i64)))))) := by
  subst hv
  intro ρ w xs hr hf hx
  obtain ⟨y, ys, rfl, ⟨p, hp, hcap, rfl⟩, hys⟩ := hx
  simp only [VRs] at hys
  subst hys
  obtain ⟨p', hp', ⟨cs, hcs, hsz, hlen, hcell⟩, hbase⟩ := hr.own b _ hb
  obtain rfl : p = p' := by rw [hp] at hp'; exact Option.some.inj hp'
  have hbw := rel_lt hr hb hp rfl
  have hget : ∀ j, j < zs.length → cs[p.off + st + j]? = some (.int .i64 (zs[j]?.getD 0)) := by
    intro j hj
    have h2 := congrArg (fun l => l[j]?) hc
    simp only [List.getElem?_take, if_pos hj, List.getElem?_drop, List.getElem?_map, List.getElem?_eq_getElem hj, Option.map_some] at h2
    obtain ⟨x, hx1, hx2, _⟩ := hcell (st + j) _ h2
    simp only [VR] at hx2
    subst hx2
    rw [show p.off + st + j = p.off + (st + j) by omega, hx1, List.getElem?_eq_getElem hj]
    rfl
  have hH : Holds (Value.int .i64) w p.b (p.off + st) zs.toArray := by
    intro j hj
    have hj' : j < zs.length := by simpa using hj
    refine ⟨?_, ?_⟩
    · simp only [World.cell?, hcs, Option.isSome_none, Bool.false_eq_true, if_false]
      rw [hget j hj', List.getElem?_eq_getElem hj']
      simp [hj']
    · simp only [World.frozen?, hcs]
      simp
  have hcon := AnyM.slices_Sort_int sortA p.b (p.off + st) (p.cap - st) zs w hH hbw hl
  rw [hP]
  simp only [Nat.mul_one]
  refine Calls.mono hcon ?_
  rintro e' w' ⟨rfl, n, os, rfl⟩
  rw [sort_perm]
  have hil : (isortI zs).length = zs.length := (isortI_perm zs).length_eq
  refine ⟨ρ, _, rfl, ⟨[], rfl, rfl⟩, post_put hr hb rfl rfl hp rfl rfl rfl ?_ (fun k hk hne => put_other hne hk n _ os) ?_⟩
  · unfold grow putRow mapBlock Go.Sort.ahead; simp
  · refine ⟨_, put_heap hcs n _ os, by simpa [putCells] using hsz, by simp [setSeg]; omega, ?_⟩
    intro j u hj
    have hjl : j < cells.length := by
      have := (List.getElem?_eq_some_iff.1 hj).1
      simp [setSeg] at this; omega
    simp only [putCells, Array.getElem?_mapIdx]
    by_cases hin : st ≤ j ∧ j < st + zs.length
    · have hu : u = .int .i64 ((isortI zs)[j - st]?.getD 0) := by
        simp only [setSeg] at hj
        rw [List.getElem?_append_right (by simp; omega)] at hj
        simp only [List.length_take, Nat.min_eq_left (show st ≤ cells.length by omega)] at hj
        rw [List.getElem?_append_left (by simp; omega), List.getElem?_map] at hj
        rw [List.getElem?_eq_getElem (by omega)] at hj ⊢
        simp at hj
        exact hj.symm
      subst hu
      obtain ⟨x0, hx0, _, _⟩ := hcell j cells[j] (List.getElem?_eq_getElem hjl)
      rw [hx0]
      refine ⟨_, rfl, ?_, rfl⟩
      simp only [VR]
      rw [if_pos ⟨by omega, by simp; omega⟩]
      rw [List.getElem?_eq_getElem (by omega)]
      simp only [Option.getD_some]
      rw [getElem!_pos _ _ (by simp; omega)]
      simp only [List.getElem_toArray]
      congr 2
      omega
    · have hu : cells[j]? = some u := by
        simp only [setSeg] at hj
        by_cases hlt : j < st
        · rw [List.getElem?_append_left (by simp; omega), List.getElem?_take, if_pos hlt] at hj
          exact hj
        · rw [List.getElem?_append_right (by simp; omega)] at hj
          simp only [List.length_take, Nat.min_eq_left (show st ≤ cells.length by omega)] at hj
          rw [List.getElem?_append_right (by simp; omega), List.getElem?_drop] at hj
          simp only [List.length_map] at hj
          rw [show st + (isortI zs).length + (j - st - (isortI zs).length) = j by omega] at hj
          exact hj
      obtain ⟨x, hx1, hx2, hx3⟩ := hcell j u hu
      refine ⟨x, ?_, hx2, hx3⟩
      rw [hx1]
      simp only [Option.map_some, Option.some.injEq]
      rw [if_neg]
      simp
      omega
/-- slices.Sort of nothing -/
theorem sort_nil (hP : κ.c.P = Try.prog) : Pt κ 23 [.nilslice] H (.tuple []) H := by
  intro ρ w xs hr hf hx
  obtain ⟨y, ys, rfl, hy, hys⟩ := hx
  simp only [VRs] at hys
  subst hys
  simp only [VR] at hy
  subst hy
  rw [hP]
  refine Calls.mono (AnyM.slices_Sort_int_none sortA none 0 w) ?_
  rintro e' w' ⟨rfl, rfl⟩
  exact ⟨ρ, _, rfl, ⟨[], rfl, rfl⟩, Post.refl hr⟩
end Go.Proofs.Ytffpahpbgeillaa.sorts
