/- The library's sort and compact over whole numbers, in the words of the print: a row of the call's own goes in, a row of the call's own comes out. -/
import Derived.Test.YtiljdmlganploaaProg
import Derived.Below
import Derived.Test.YtiljdmlganploaaWWords
import Derived.Test.YtiljdmlganploaaWLast
import Derived.Test.YtiljdmlganploaaWMore
import Derived.Shelf.SortM.Plain
import Derived.Shelf.SortM.SortNone
import Derived.Shelf.SlicesG.CompactI
import Derived.Ground.SlgmProg
import Derived.Ground.SlgnProg
import Derived.Shelf.LaySoft
namespace Go.Proofs.Ytiljdmlganploaa
open Go.Sort (grow putRow Holds putCells mapBlock grow_empty)
open Go.Shelf Go.RowKit Go.Proofs.YtiljdmlganploaaW.PrintWords Go.Proofs.YtiljdmlganploaaW.PrintLast Go.Proofs.YtiljdmlganploaaW.PrintMore
set_option linter.unusedVariables false
def sortA_ren : Go.Shelf.Ren := ⟨fun | 5 => 15 | 8 => 18 | 7 => 17 | 19 => 28 | 20 => 29 | 10 => 19 | 11 => 20 | 12 => 21 | 13 => 22 | 14 => 23 | 15 => 24 | 16 => 25 | 17 => 26 | 18 => 27 | 30 => 30 | 31 => 31 | 32 => 32 | 33 => 33 | 34 => 34 | 35 => 35 | 40 => 36 | n => n, fun | 23 => 31 | 25 => 3 | 3 => 3 | 32 => 43 | 22 => 31 | 0 => 0 | 44 => 53 | 46 => 55 | 4 => 4 | 36 => 46 | 35 => 45 | 41 => 26 | 5 => 5 | 9 => 9 | 53 => 56 | 57 => 60 | 63 => 63 | 64 => 64 | n => n, fun | n => n⟩
theorem sortA : Go.Proofs.SlLaysM.n5 Try.prog sortA_ren := {
  mixed := by kernel_rfl
  f5 := ⟨Try.f15.name, by decide, Try.func15.trans (congrArg some (by kernel_rfl))⟩
  f7 := ⟨Try.f17.name, by decide, Try.func17.trans (congrArg some (by kernel_rfl))⟩
  f8 := Try.func18.trans (congrArg some (by kernel_rfl))
  f10 := ⟨Try.f19.name, by decide, Try.func19.trans (congrArg some (by kernel_rfl))⟩
  f11 := ⟨Try.f20.name, by decide, Try.func20.trans (congrArg some (by kernel_rfl))⟩
  f12 := ⟨Try.f21.name, by decide, Try.func21.trans (congrArg some (by kernel_rfl))⟩
  f13 := ⟨Try.f22.name, by decide, Try.func22.trans (congrArg some (by kernel_rfl))⟩
  f14 := ⟨Try.f23.name, by decide, Try.func23.trans (congrArg some (by kernel_rfl))⟩
  f15 := ⟨Try.f24.name, by decide, Try.func24.trans (congrArg some (by kernel_rfl))⟩
  f16 := ⟨Try.f25.name, by decide, Try.func25.trans (congrArg some (by kernel_rfl))⟩
  f17 := ⟨Try.f26.name, by decide, Try.func26.trans (congrArg some (by kernel_rfl))⟩
  f18 := ⟨Try.f27.name, by decide, Try.func27.trans (congrArg some (by kernel_rfl))⟩
  f19 := Try.func28.trans (congrArg some (by kernel_rfl))
  f20 := Try.func29.trans (congrArg some (by kernel_rfl))
  f30 := ⟨Try.f30.name, by decide, Try.func30.trans (congrArg some (by kernel_rfl))⟩
  f31 := Try.func31.trans (congrArg some (by kernel_rfl))
  f32 := Try.func32.trans (congrArg some (by kernel_rfl))
  f33 := ⟨Try.f33.name, by decide, Try.func33.trans (congrArg some (by kernel_rfl))⟩
  f34 := ⟨Try.f34.name, by decide, Try.func34.trans (congrArg some (by kernel_rfl))⟩
  f35 := ⟨Try.f35.name, by decide, Try.func35.trans (congrArg some (by kernel_rfl))⟩
  f40 := ⟨Try.f36.name, by decide, Try.func36.trans (congrArg some (by kernel_rfl))⟩
  t0 := Try.underlying0
  a0 := Try.isAgg0
  z0 := Try.sizeOf0
  v0 := Try.zeroValue0
  t3 := Try.underlying3
  a3 := Try.isAgg3
  z3 := Try.sizeOf3
  v3 := Try.zeroValue3
  t4 := Try.underlying4
  a4 := Try.isAgg4
  z4 := Try.sizeOf4
  v4 := Try.zeroValue4
  t5 := Try.underlying5
  a5 := Try.isAgg5
  z5 := Try.sizeOf5
  v5 := Try.zeroValue5
  t9 := Try.underlying9
  a9 := Try.isAgg9
  z9 := Try.sizeOf9
  v9 := Try.zeroValue9
  t22 := Try.underlying31
  a22 := Try.isAgg31
  z22 := Try.sizeOf31
  v22 := Try.zeroValue31
  t23 := Try.underlying31
  a23 := Try.isAgg31
  z23 := Try.sizeOf31
  v23 := Try.zeroValue31
  t25 := Try.underlying3
  a25 := Try.isAgg3
  z25 := Try.sizeOf3
  v25 := Try.zeroValue3
  t32 := Try.underlying43
  a32 := Try.isAgg43
  z32 := Try.sizeOf43
  v32 := Try.zeroValue43
  t35 := Try.underlying45
  a35 := Try.isAgg45
  z35 := Try.sizeOf45
  v35 := Try.zeroValue45
  t36 := Try.underlying46
  a36 := Try.isAgg46
  z36 := Try.sizeOf46
  v36 := Try.zeroValue46
  t41 := Try.underlying26
  a41 := Try.isAgg26
  z41 := Try.sizeOf26
  v41 := Try.zeroValue26
  t44 := Try.underlying53
  a44 := Try.isAgg53
  z44 := Try.sizeOf53
  v44 := Try.zeroValue53
  t46 := Try.underlying55
  a46 := Try.isAgg55
  z46 := Try.sizeOf55
  v46 := Try.zeroValue55
  t53 := Try.underlying56
  a53 := Try.isAgg56
  z53 := Try.sizeOf56
  v53 := Try.zeroValue56
  t57 := Try.underlying60
  a57 := Try.isAgg60
  z57 := Try.sizeOf60
  v57 := Try.zeroValue60
  t63 := Try.underlying63
  a63 := Try.isAgg63
  z63 := Try.sizeOf63
  v63 := Try.zeroValue63
  t64 := Try.underlying64
  a64 := Try.isAgg64
  z64 := Try.sizeOf64
  v64 := Try.zeroValue64 }
def compA_ren : Go.Shelf.Ren := ⟨fun | 43 => 16 | n => n, fun | 22 => 31 | 23 => 3 | 3 => 3 | 4 => 4 | 0 => 0 | n => n, fun | n => n⟩
theorem compA : Go.Proofs.SlLaysN.n43 Try.prog compA_ren := {
  mixed := by kernel_rfl
  f43 := ⟨Try.f16.name, by decide, Try.func16.trans (congrArg some (by kernel_rfl))⟩
  t0 := Try.underlying0
  a0 := Try.isAgg0
  z0 := Try.sizeOf0
  v0 := Try.zeroValue0
  t3 := Try.underlying3
  a3 := Try.isAgg3
  z3 := Try.sizeOf3
  v3 := Try.zeroValue3
  t4 := Try.underlying4
  a4 := Try.isAgg4
  z4 := Try.sizeOf4
  v4 := Try.zeroValue4
  t22 := Try.underlying31
  a22 := Try.isAgg31
  z22 := Try.sizeOf31
  v22 := Try.zeroValue31
  t23 := Try.underlying3
  a23 := Try.isAgg3
  z23 := Try.sizeOf3
  v23 := Try.zeroValue3
  i23 := by kernel_rfl }

/-- The list, sorted. -/
def sortI (xs : List Int) : List Int := xs.mergeSort fun x y => decide (x ≤ y)
theorem sortI_len (xs : List Int) : (sortI xs).length = xs.length := by unfold sortI; simp

theorem int_reps {w : World} {base : Nat} {ok : Nat → Prop} {xs : List Int} {inner : List Value} : Reps ((Kd.int .i64).M w base ok) 1 xs inner ↔ inner = xs.map (Value.int .i64) := by
  constructor
  · rintro ⟨h1, h2⟩
    apply List.ext_getElem?
    intro j
    by_cases hj : j < xs.length
    · have h := h2 j xs[j] (by simp [hj])
      have h' : (inner.drop (j * 1)).take 1 = [Value.int .i64 xs[j]] := h
      have h3 : (inner.drop (j * 1))[0]? = some (Value.int .i64 xs[j]) := by
        have := congrArg (fun l => l[0]?) h'
        simpa using this
      simp only [List.getElem?_drop, Nat.mul_one, Nat.add_zero] at h3
      rw [h3]; simp [hj]
    · rw [List.getElem?_eq_none (by omega), List.getElem?_eq_none (by simp; omega)]
  · rintro rfl
    refine ⟨by simp, fun j p hp => ?_⟩
    show ((xs.map (Value.int .i64)).drop (j * 1)).take 1 = [Value.int .i64 p]
    have hj : j < xs.length := by
      rcases Nat.lt_or_ge j xs.length with h | h
      · exact h
      · rw [List.getElem?_eq_none h] at hp; cases hp
    rw [Nat.mul_one, List.drop_eq_getElem_cons (by simpa using hj)]
    rw [List.getElem?_eq_getElem hj] at hp
    cases hp
    simp

theorem own_int {w : World} {base : Nat} {ok : Nat → Prop} {v : Value} {xs : List Int} : Kd.R (Kd.int .i64) 3 w base ok v xs ↔
    (∀ k, v.ownBlock = some k → ok k) ∧ ((v = .slice none 0 0 ∧ xs = []) ∨ ∃ g cap cur, v = .slice (some ⟨g, 0, none⟩) xs.length cap ∧ base ≤ g ∧ w.heap[g]? = some (.cells cur 3 (0, 0)) ∧ xs.length ≤ cap ∧ cap ≤ maxLen ∧ cur.size = cap ∧ cur.toList.take xs.length = xs.map (Value.int .i64)) := by
  constructor
  · rintro ⟨h1, inner, ⟨hl, h2⟩, hr⟩
    refine ⟨h1, ?_⟩
    obtain rfl := int_reps.1 hr
    rcases h2 with ⟨hv, hn⟩ | ⟨g, cap, cur, hv, hb, hg, hc, hm, hs, ht⟩
    · exact .inl ⟨hv, List.length_eq_zero_iff.1 hn⟩
    · exact .inr ⟨g, cap, cur, hv, hb, hg, hc, hm, by rw [hs]; exact Nat.mul_one _, by rw [← ht]; congr 1; exact (Nat.mul_one _).symm⟩
  · rintro ⟨h1, h2⟩
    refine ⟨h1, xs.map (Value.int .i64), ⟨by show _ = _ * 1; simp, ?_⟩, int_reps.2 rfl⟩
    rcases h2 with ⟨hv, hn⟩ | ⟨g, cap, cur, hv, hb, hg, hc, hm, hs, ht⟩
    · exact .inl ⟨hv, by rw [hn]; rfl⟩
    · exact .inr ⟨g, cap, cur, hv, hb, hg, hc, hm, by rw [hs]; exact (Nat.mul_one _).symm, by rw [← ht]; congr 1; exact Nat.mul_one _⟩

/-- The world with one own row's cells turned. -/
theorem put_heap {w : World} {g : Nat} {cur : Array Value} {e : TypeId} {fr : Nat × Nat} (hg : w.heap[g]? = some (.cells cur e fr)) (n : Nat) (ys : List Int) (os : Array Obj) :
    (grow (putRow (Value.int .i64) (Go.Sort.ahead w n) g 0 ys.toArray) os).heap[g]? = some (.cells (putCells (Value.int .i64) 0 ys.toArray cur) e fr) := by
  obtain ⟨hlt, _⟩ := Array.getElem?_eq_some_iff.1 hg
  unfold grow putRow mapBlock Go.Sort.ahead
  simp only
  rw [Array.getElem?_append_left (by simpa using hlt), Array.getElem?_modify, if_pos rfl, hg]
  rfl

theorem put_other {w : World} {g k : Nat} (hk : k ≠ g) (hlt : k < w.heap.size) (n : Nat) (ys : List Int) (os : Array Obj) :
    (grow (putRow (Value.int .i64) (Go.Sort.ahead w n) g 0 ys.toArray) os).heap[k]? = w.heap[k]? := by
  unfold grow putRow mapBlock Go.Sort.ahead
  simp only
  rw [Array.getElem?_append_left (by simpa using hlt), Array.getElem?_modify, if_neg (fun h => hk h.symm)]

theorem put_below {w : World} {g base : Nat} (hb : base ≤ g) (hg : g < w.heap.size) (n : Nat) (ys : List Int) (os : Array Obj) :
    Below base w (grow (putRow (Value.int .i64) (Go.Sort.ahead w n) g 0 ys.toArray) os) :=
  ⟨rfl, rfl, rfl, by unfold grow putRow mapBlock Go.Sort.ahead; simp, fun k hk => put_other (by omega) (by omega) n ys os⟩

theorem put_take {cur : Array Value} (ys : List Int) (h : ys.length ≤ cur.size) (m : Nat) (hm : m ≤ ys.length) : (putCells (Value.int .i64) 0 ys.toArray cur).toList.take m = (ys.take m).map (Value.int .i64) := by
  apply List.ext_getElem?
  intro j
  by_cases hj : j < m
  · rw [List.getElem?_take_of_lt hj, List.getElem?_map, List.getElem?_take_of_lt hj]
    have hjy : j < ys.length := by omega
    have hjc : j < cur.size := by omega
    simp only [putCells, Array.getElem?_toList, Array.getElem?_mapIdx, Array.getElem?_eq_getElem hjc, Option.map_some]
    rw [if_pos ⟨by omega, by simpa using hjy⟩, List.getElem?_eq_getElem hjy]
    simp [hjy]
  · rw [List.getElem?_eq_none (by simp; omega), List.getElem?_eq_none (by simp; omega)]

theorem holds_own {w : World} {g : Nat} {cur : Array Value} {e : TypeId} {xs : List Int} (hg : w.heap[g]? = some (.cells cur e (0, 0))) (ht : cur.toList.take xs.length = xs.map (Value.int .i64)) : Holds (Value.int .i64) w g 0 xs.toArray := by
  intro j hj
  have hj' : j < xs.length := by simpa using hj
  refine ⟨?_, ?_⟩
  · simp only [World.cell?, hg, Nat.zero_add]
    have h := congrArg (fun l => l[j]?) ht
    simp only [List.getElem?_take_of_lt hj', List.getElem?_map, Array.getElem?_toList] at h
    simp only [Option.isSome_none, Bool.false_eq_true, if_false]
    rw [h, List.getElem?_eq_getElem hj']
    simp [hj']
  · simp only [World.frozen?, hg]
    simp

/-- slices.Sort on a row of the call's own. -/
theorem sort_calls {w : World} {base : Nat} {ok : Nat → Prop} {v : Value} {xs : List Int} (ho : Kd.R (Kd.int .i64) 3 w base ok v xs) (hn : xs.length < 4611686018427387904) :
    Calls Try.prog 15 #[v] w fun e w' => e = .returned (.tuple #[]) ∧ Kd.R (Kd.int .i64) 3 w' base ok v (sortI xs) ∧ Below base w w' := by
  obtain ⟨h1, h2⟩ := own_int.1 ho
  rcases h2 with ⟨rfl, rfl⟩ | ⟨g, cap, cur, rfl, hb, hg, hc, hm, hs, ht⟩
  · refine (AnyM.slices_Sort_int_none sortA none 0 w).mono ?_
    rintro e w' ⟨rfl, rfl⟩
    exact ⟨rfl, by rw [show sortI [] = [] by simp [sortI]]; exact ho, Below.refl _ _⟩
  · obtain ⟨hlt, _⟩ := Array.getElem?_eq_some_iff.1 hg
    refine (AnyM.slices_Sort_int sortA g 0 cap xs w (holds_own hg ht) hlt hn).mono ?_
    rintro e w' ⟨rfl, n, os, rfl⟩
    refine ⟨rfl, own_int.2 ⟨h1, .inr ⟨g, cap, putCells (Value.int .i64) 0 (sortI xs).toArray cur, by rw [sortI_len], hb, put_heap hg n _ os, by rw [sortI_len]; exact hc, hm, by rw [← hs]; simp [putCells], ?_⟩⟩, put_below hb hlt n _ os⟩
    rw [put_take (sortI xs) (by rw [sortI_len]; omega) _ (Nat.le_refl _), List.take_length]

theorem compact_le (xs : List Int) : (Go.Lib.compact xs).length ≤ xs.length := by
  unfold Go.Lib.compact Go.Lib.compactUpTo
  rw [List.length_map]
  refine Nat.le_trans (List.length_filter_le _ _) ?_
  simp

/-- slices.Compact on a row of the call's own. -/
theorem compact_calls {w : World} {base : Nat} {ok : Nat → Prop} {v : Value} {xs : List Int} (ho : Kd.R (Kd.int .i64) 3 w base ok v xs) :
    Calls Try.prog 16 #[v] w fun e w' => ∃ v' : Value, e = .returned v' ∧ Kd.R (Kd.int .i64) 3 w' base ok v' (Go.Lib.compact xs) ∧ Below base w w' := by
  obtain ⟨h1, h2⟩ := own_int.1 ho
  rcases h2 with ⟨rfl, rfl⟩ | ⟨g, cap, cur, rfl, hb, hg, hc, hm, hs, ht⟩
  · refine (AnyG.slices_Compact_int_empty compA none 0 w).mono ?_
    rintro e w' ⟨rfl, rfl⟩
    exact ⟨_, rfl, ho, Below.refl _ _⟩
  · obtain ⟨hlt, _⟩ := Array.getElem?_eq_some_iff.1 hg
    have hle := compact_le xs
    refine (AnyG.slices_Compact_int compA g 0 cap xs w (holds_own hg ht) (by unfold maxLen at hm; omega) hc).mono ?_
    rintro e w' ⟨rfl, n, hw⟩
    have hw' : w' = grow (putRow (Value.int .i64) (Go.Sort.ahead w n) g 0 (Go.Lib.compact xs ++ List.replicate (xs.length - (Go.Lib.compact xs).length) 0).toArray) #[] := by rw [grow_empty]; exact hw
    subst hw'
    refine ⟨_, rfl, own_int.2 ⟨h1, .inr ⟨g, cap, _, rfl, hb, put_heap hg n _ _, by omega, hm, by rw [← hs]; simp [putCells], ?_⟩⟩, put_below hb hlt n _ _⟩
    rw [put_take _ (by simp; omega) _ (by simp)]
    simp
#print axioms sort_calls
#print axioms compact_calls
end Go.Proofs.Ytiljdmlganploaa
