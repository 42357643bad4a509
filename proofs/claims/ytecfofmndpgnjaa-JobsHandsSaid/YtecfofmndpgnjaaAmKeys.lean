/-
  SLICES.SORTED OVER MAPS.KEYS (own work, after the shelf's proofs): the keys of a map of the abstract heap, sorted.
-/
import Derived.Shelf.SlIterI.Sorted
import Derived.Test.YtecfofmndpgnjaaAmFrame
import Derived.WalkKit
import Derived.OwnWalkIn
import Derived.TacticsInMore
import Derived.RegionIn
import Derived.LoopNIn
import Derived.LoopIn
import Derived.Shelf.AbstractIn
namespace Go.AM
open Go.RowKit Go.Maps Go.Sort Go.Shelf Go.Proofs
section
variable {P : Program} {ρ : Ren}

set_option maxRecDepth 100000 in
set_option maxHeartbeats 1000000 in
theorem keys1_own (L : SlLaysZI.n10 P ρ) {H : Type} (F : Fence) (n : Nat) (h10 : F.fn (ρ.f 10)) (hro : F.round = none) (hn : 1 ≤ n) (l Bm o b nn : Nat) (D0 : DataW H) {R : Value → Option (DataW H × List MemPlace)} (J : List Int → World → Prop)
    (hY : ∀ pre x W, J pre W → pre.length < Maps.size D0 → YieldAt F (n - 1) P l #[encZ x] W fun e W' => e = .returned (.bool true) ∧ J (pre ++ [x]) W' ∧ KeepsWalks W W')
    (W : World) (hJ : AbidesFrom W.heap.size J) (hm : W.cell? ⟨Bm, o, none⟩ = some (.map (some b))) (hown : W.ownsMap P (ρ.t 26) R b nn D0) (h0 : J [] W) :
    CallsIn F n P (ρ.f 10) #[.func (.yield l) #[] #[], .pointer (some ⟨Bm, o, none⟩)] W fun e W' => (∃ v, e = .returned v) ∧ ∃ ss : List Int, ss.Perm (intKeys D0) ∧ J ss W' := by
  have mixed := L.mixed; have t0 := L.t0; have a0 := L.a0; have z0 := L.z0; have v0 := L.v0; have t4 := L.t4; have a4 := L.a4; have z4 := L.z4; have v4 := L.v4; have t23 := L.t23; have a23 := L.a23; have z23 := L.z23; have v23 := L.v23; have t26 := L.t26; have a26 := L.a26; have z26 := L.z26; have v26 := L.v26; have t33 := L.t33; have a33 := L.a33; have z33 := L.z33; have v33 := L.v33
  have u0 := run_underlying L.t0; have u4 := run_underlying L.t4; have u23 := run_underlying L.t23; have u26 := run_underlying L.t26; have u33 := run_underlying L.t33
  obtain ⟨_, _, FG⟩ := L.f10
  refine callsIn_of_wp FG rfl h10 ?_ hro
  simp only [SlBodyZ.n10_ntmps ρ, List.size_toArray, List.length_cons, List.length_nil, Nat.reduceAdd, Nat.reduceSub, Array.replicate_succ, Array.replicate_zero, List.push_toArray, List.append_toArray, List.nil_append, List.cons_append]
  gi_wp2_with (first
    | (gi_at_range; refine wpListIn_range_own _ rfl _ (ρ.t 23) rfl (ρ.t 26) (ρ.t 3) (int_keyed L.t26) L.t23 _ b nn _ rfl hown ?_; intro w0 hrg0 hg0 hs0)
    | gi_in)
  go_frame
  gi_loopw [3] (fun _ wr => ∃ (left : Lit → Bool) (cnt : Nat) (ss : List Int), wr.ranges P (ρ.t 26) R b W.heap.size nn D0 left cnt ∧ ss.length + cnt ≤ Maps.size D0 ∧ CollectedI D0 left ss ∧ J ss wr)
    (fun _ wr => wr.rangeLeft b W.heap.size)
  case atStart =>
    exact ⟨_, _, [], hrg0, by simp, CollectedI.start D0, hJ [] W w0 none h0 hg0 (fun r e => by cases e)⟩
  case round =>
    obtain ⟨left, cnt, ss, hrg, hcs, hC, hJs⟩ := hrel
    gi_wp2_with (first
      | (gi_at_next; refine wpListIn_next_ranges _ rfl _ rfl (ρ.t 26) (int_keyed L.t26) R encZ id (fun key kl hk => by obtain ⟨x, hx, _⟩ := Maps.keyOf_i64 L.t26 hk; exact ⟨x, hx⟩) (fun v _ _ => ⟨v, rfl⟩) b W.heap.size nn _ _ _ rfl hrg ?_ ?_)
      | gi_in)
    · -- NOTHING IS LEFT
      intro hc0 hl0
      gi_wp2
      go_end0
      exact ⟨⟨_, rfl⟩, ss, hC.perm hown (int_keyed L.t26) L.t26 hl0, hJs⟩
    · -- AN ENTRY HAS COME: yield(k)
      intro x c kl yd yp w2 cnt2 hkey hlk hv hat hrg2 hlt hg2 hs2 hen
      obtain ⟨x', ex, rfl, _⟩ := Maps.keyOf_i64 L.t26 hkey
      obtain rfl : x = x' := encZ_inj ex
      have hJ2 : J ss w2 := hJ ss wr w2 (some W.heap.size) hJs hg2 (fun r e => by cases e; exact ⟨Nat.le_refl _, hrg.iter_walk⟩)
      obtain ⟨fn, tmps, assign, body, hy, hR⟩ := hY ss x w2 hJ2 (by omega)
      clear hs2
      gi_wp2
      refine hR.mono ?_
      rintro e W3 ⟨rfl, hJ3, hk3⟩
      gi_wp2
      have hrg3 := hrg2.of_walks hk3
      go_roundw
      case rel => exact ⟨_, cnt2, ss ++ [x], hrg3, by simp; omega, hC.step hlk hat, hJ3⟩
      case measure => rw [hrg3.left_eq, hrg.left_eq]; exact hlt


theorem keys_own (L : SlLaysZI.n10 P ρ) {H : Type} (F : Fence) (n : Nat) (h10 : F.fn (ρ.f 10)) (hro : F.round = none) (hn : 1 ≤ n) (Bm o b nn : Nat) (D0 : DataW H) {R : Value → Option (DataW H × List MemPlace)} (w : World) (hBm : Bm < w.heap.size)
    (hm : w.cell? ⟨Bm, o, none⟩ = some (.map (some b))) (hown : w.ownsMap P (ρ.t 26) R b nn D0) :
    SeqGives F n P (ρ.f 10) #[.pointer (some ⟨Bm, o, none⟩)] encZ (fun ss => ss.Perm (intKeys D0)) (Maps.size D0) w := fun l J W hW hJ hY h0 => by
  have hown' : W.ownsMap P (ρ.t 26) R b nn D0 := by
    have hbl := hown.lt
    obtain ⟨es, clock, hb, Ft, hs, hD⟩ := hown
    exact ⟨es, clock, (hW.block b hbl).trans hb, Ft, hs, hD⟩
  exact keys1_own { L with } F n h10 hro hn l Bm o b nn D0 J hY W hJ ((hW.cell (p := ⟨Bm, o, none⟩) hBm).trans hm) hown' h0


end

/-! sorted -/

def insI (x : Int) : List Int → List Int
  | [] => [x]
  | y :: r => if Int.decLe x y |>.decide then x :: y :: r else y :: insI x r

def isortI : List Int → List Int
  | [] => []
  | x :: r => insI x (isortI r)

theorem insI_perm (x : Int) : ∀ l, (insI x l).Perm (x :: l)
  | [] => .refl _
  | y :: r => by
    simp only [insI]
    split
    · exact .refl _
    · exact ((insI_perm x r).cons y).trans (.swap x y r)

theorem isortI_perm : ∀ l, (isortI l).Perm l
  | [] => .refl _
  | x :: r => (insI_perm x _).trans ((isortI_perm r).cons x)

theorem insI_sorted (x : Int) : ∀ {l : List Int}, l.Pairwise (fun a b => a ≤ b) → (insI x l).Pairwise (fun a b => a ≤ b)
  | [], _ => by simp [insI]
  | y :: r, h => by
    simp only [insI]
    rw [List.pairwise_cons] at h
    split
    · rename_i hxy
      have hxy : x ≤ y := by simpa using hxy
      refine List.pairwise_cons.2 ⟨fun z hz => ?_, List.pairwise_cons.2 h⟩
      rcases List.mem_cons.1 hz with rfl | hz
      · exact hxy
      · exact Int.le_trans hxy (h.1 z hz)
    · rename_i hxy
      have hxy : ¬ x ≤ y := by simpa using hxy
      refine List.pairwise_cons.2 ⟨fun z hz => ?_, insI_sorted x h.2⟩
      rcases List.mem_cons.1 ((insI_perm x r).mem_iff.1 hz) with rfl | hz
      · omega
      · exact h.1 z hz

theorem isortI_sorted : ∀ l : List Int, (isortI l).Pairwise (fun a b => a ≤ b)
  | [] => .nil
  | x :: r => insI_sorted x (isortI_sorted r)

theorem sort_eq {l l' : List Int} (h : l.Perm l') : l.mergeSort (fun x y => decide (x ≤ y)) = isortI l' := by
  refine List.Perm.eq_of_pairwise (le := fun a b => a ≤ b) (fun a b _ _ h1 h2 => by omega) ?_ (isortI_sorted l') (((List.mergeSort_perm l _).trans h).trans (isortI_perm l').symm)
  have := List.pairwise_mergeSort (le := fun x y : Int => decide (x ≤ y)) (fun a b c h1 h2 => by simp only [decide_eq_true_eq] at *; omega) (fun a b => by simp only [Bool.or_eq_true, decide_eq_true_eq]; omega) l
  exact this.imp fun h => by simpa using h

/-! a map of the abstract heap, as the contracts speak of it -/

def nodupI : List Int → Bool
  | [] => true
  | x :: r => !(r.any fun y => x == y) && nodupI r

theorem nodupI_spec : ∀ {l : List Int}, nodupI l = true → l.Nodup
  | [], _ => .nil
  | x :: r, h => by
    simp only [nodupI, Bool.and_eq_true, Bool.not_eq_true', List.any_eq_false] at h
    exact List.nodup_cons.2 ⟨fun hm => by have := h.1 x hm; simp at this, nodupI_spec h.2⟩

def mapOk (es : List (AV × AV × Nat)) (clock : Nat) (zs : List Int) : Bool :=
  Nat.ble zs.length 1000000 && (zs.all (fun z => decide (-9223372036854775808 ≤ z) && decide (z ≤ 9223372036854775807)) && (es.all (fun e => Nat.blt e.2.2 clock) && (nodupI (es.map fun e => (e.2.2 : Int)) && nodupI zs)))

theorem insert_perm {H : Type} (x : Lit × DataW H) : ∀ l, (DataW.insert x l).Perm (x :: l)
  | [] => .refl _
  | y :: r => by
    simp only [DataW.insert]
    split
    · exact .refl _
    · exact ((insert_perm x r).cons y).trans (.swap x y r)

theorem foldr_insert_perm {H : Type} : ∀ l : List (Lit × DataW H), (l.foldr DataW.insert []).Perm l
  | [] => .refl _
  | x :: r => by
    simp only [List.foldr_cons]
    exact (insert_perm x _).trans ((foldr_insert_perm r).cons x)

abbrev anyR : Value → Option (DataW Unit × List MemPlace) := fun _ => some (.lit (.bool true), [])

theorem EntR.keys {ρ : Pl} {es : List (AV × AV × Nat)} {xs : List MapEntry} (h : EntR ρ es xs) : ∀ {zs : List Int}, intsOf (es.map (·.1)) = some zs → xs.map (·.key) = zs.map (Value.int .i64) := by
  induction h with
  | nil => intro zs e; simp [intsOf] at e; subst e; rfl
  | @cons k v n es x y xs hk hv ht ih =>
    intro zs e
    have := intsOf_eq e
    cases zs with
    | nil => simp at this
    | cons z zs =>
      simp only [List.map_cons, List.cons.injEq] at this
      obtain ⟨h1, h2⟩ := this
      subst h1
      simp only [VR] at hk
      subst hk
      simp only [List.map_cons, intsOf, Option.map_eq_some_iff] at e
      obtain ⟨l, hl, e⟩ := e
      simp only [List.cons.injEq, true_and] at e
      subst e
      simp [ih hl]

theorem EntR.births {ρ : Pl} {es : List (AV × AV × Nat)} {xs : List MapEntry} (h : EntR ρ es xs) : xs.map (·.born) = es.map (·.2.2) := by
  induction h with
  | nil => rfl
  | cons _ _ _ ih => simp [ih]

theorem owns_of {P : Program} {k : TypeId} (hk : P.underlying k = some (.int .i64)) {ρ : Pl} {w : World} {b : Nat} {ents : Array MapEntry} {clock : Nat} (hb : w.heap[b]? = some (.map ents clock)) {es : List (AV × AV × Nat)} (hE : EntR ρ es ents.toList)
    {zs : List Int} (hz : intsOf (es.map (·.1)) = some zs) (hck : mapOk es clock zs = true) : ∃ D0 : DataW Unit, w.ownsMap P k anyR b ents.size D0 ∧ (intKeys D0).Perm zs ∧ Maps.size D0 = zs.length := by
  simp only [mapOk, Bool.and_eq_true, Nat.ble_eq] at hck
  obtain ⟨hlen, hrange, hborn, hbn, hzn⟩ := hck
  have hkeys := hE.keys hz
  have hbirths := hE.births
  have hsize : ents.size = zs.length := by
    have := congrArg List.length hkeys
    simpa using this
  have hrd : ∀ x ∈ ents.toList, ∃ z, x.key = .int .i64 z ∧ z ∈ zs ∧ Go.WideElems.rd P k anyR x = some (.int .i64 z, .lit (.bool true)) := by
    intro x hx
    have hm : x.key ∈ ents.toList.map (·.key) := List.mem_map.2 ⟨x, hx, rfl⟩
    rw [hkeys] at hm
    obtain ⟨z, hz1, hz2⟩ := List.mem_map.1 hm
    have hr := List.all_eq_true.1 hrange z hz1
    simp only [Bool.and_eq_true, decide_eq_true_eq] at hr
    refine ⟨z, hz2.symm, hz1, ?_⟩
    have hwf : (Lit.int .i64 z).wf = true := by simp [Lit.wf]; first | exact hr | (constructor <;> omega) | omega
    simp [Go.WideElems.rd, keyOf, hk, mapKey, ← hz2, hwf, anyR]
  refine ⟨.map ((ents.toList.map (Go.WideElems.rg P k anyR)).foldr DataW.insert []), ⟨ents, clock, hb, ⟨by rw [hsize]; simp [maxLen]; omega, ⟨?_, ?_, ?_⟩, fun x hx => ?_⟩, Nat.le_refl _, rfl⟩, ?_, ?_⟩
  · intro x hx
    have hm : x.born ∈ ents.toList.map (·.born) := List.mem_map.2 ⟨x, hx, rfl⟩
    rw [hbirths] at hm
    obtain ⟨e, he1, he2⟩ := List.mem_map.1 hm
    have := List.all_eq_true.1 hborn e he1
    rw [Nat.blt_eq] at this
    omega
  · rw [hbirths]
    have := nodupI_spec hbn
    have h2 : (es.map fun e => (e.2.2 : Int)) = (es.map (·.2.2)).map (fun n : Nat => (n : Int)) := by simp
    rw [h2] at this
    exact (List.pairwise_map.1 this).imp fun h e => h (by rw [e])
  · rw [hkeys]
    have := nodupI_spec hzn
    refine List.Pairwise.map _ (fun a b hab => ?_) this
    intro h; cases h; exact hab rfl
  · obtain ⟨z, _, _, h⟩ := hrd x hx
    exact ⟨_, h⟩
  · have hp := foldr_insert_perm (ents.toList.map (Go.WideElems.rg P k anyR))
    simp only [intKeys]
    refine (hp.map _).trans (.of_eq ?_)
    rw [List.map_map]
    have : ∀ l : List MapEntry, (∀ x ∈ l, ∃ z, x.key = .int .i64 z ∧ z ∈ zs ∧ Go.WideElems.rd P k anyR x = some (.int .i64 z, .lit (.bool true))) → ∀ us : List Int, l.map (·.key) = us.map (Value.int .i64) → l.map ((fun p => Go.intOf p.1) ∘ Go.WideElems.rg P k anyR) = us := by
      intro l
      induction l with
      | nil => intro _ us e; cases us <;> simp_all
      | cons x r ih =>
        intro hl us e
        cases us with
        | nil => simp at e
        | cons u us =>
          simp only [List.map_cons, List.cons.injEq] at e ⊢
          obtain ⟨z, h1, _, h3⟩ := hl x (by simp)
          rw [h1] at e
          obtain ⟨e1, e2⟩ := e
          cases e1
          exact ⟨by simp [Go.WideElems.rg, h3, Go.intOf], ih (fun y hy => hl y (by simp [hy])) us e2⟩
    exact this _ hrd _ hkeys
  · simp only [Maps.size]
    rw [(foldr_insert_perm _).length_eq, List.length_map]
    simpa using hsize

end Go.AM
