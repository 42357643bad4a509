/- Texts of the proof in one file (own work): AmSub, AmMix, AmAny, AmRow, AmFast, AmSym, AmSlice. -/
import Derived.Test.YtldiaopobcebpaaDoorM2
/-
  REGIONS THAT DRAW THEIR ORDER, few of whose operations turn the heap (own work): every set of those that may have been run is tried.
-/
namespace Go.AM
open Go.RowKit
set_option linter.unusedSimpArgs false

variable {c : Ctx} {base : Nat} {w0 w : World} {ρ : Pl} {H : AHeap}

def subsOf : List Bool → List (List Bool)
  | [] => [[]]
  | false :: r => (subsOf r).map (false :: ·)
  | true :: r => (subsOf r).map (false :: ·) ++ (subsOf r).map (true :: ·)

theorem mem_subs : ∀ {mv l : List Bool}, l.length = mv.length → (∀ i, l.getD i false = true → mv.getD i false = true) → l ∈ subsOf mv
  | [], l, hl, _ => by
    have : l = [] := List.eq_nil_of_length_eq_zero hl
    subst this; simp [subsOf]
  | m :: r, [], hl, _ => by simp at hl
  | m :: r, x :: l, hl, h => by
    have ih : l ∈ subsOf r := mem_subs (by simpa using hl) (fun i hi => by simpa using h (i + 1) (by simpa using hi))
    cases m with
    | false =>
      have hx : x = false := by
        cases x with
        | false => rfl
        | true => simpa using h 0 rfl
      subst hx
      exact List.mem_map.2 ⟨l, ih, rfl⟩
    | true =>
      cases x with
      | false => exact List.mem_append.2 (.inl (List.mem_map.2 ⟨l, ih, rfl⟩))
      | true => exact List.mem_append.2 (.inr (List.mem_map.2 ⟨l, ih, rfl⟩))

/-- the heap when those of S have been run -/
def heapS (f : Nat → AHeap → AHeap) (S : Nat → Bool) (H : AHeap) : Nat → AHeap
  | 0 => H
  | k + 1 => if S k then f k (heapS f S H k) else heapS f S H k

theorem heapS_congr {f : Nat → AHeap → AHeap} {S S' : Nat → Bool} {H : AHeap} : ∀ k, (∀ i, i < k → S i = S' i) → heapS f S H k = heapS f S' H k
  | 0, _ => rfl
  | k + 1, h => by
    simp only [heapS]
    rw [h k (Nat.lt_succ_self _), heapS_congr k (fun i hi => h i (by omega))]

theorem heapS_none {f : Nat → AHeap → AHeap} {S : Nat → Bool} {H : AHeap} : ∀ k, (∀ i, i < k → S i = false) → heapS f S H k = H
  | 0, _ => rfl
  | k + 1, h => by
    simp only [heapS]
    rw [h k (Nat.lt_succ_self _)]
    simpa using heapS_none k (fun i hi => h i (by omega))

def oneS (c : Ctx) (call : Callee) (ops : List Oper) (env : AEnv) (t : List (Option AV × AHeap)) (j : Nat) (K : AHeap) : AHeap :=
  match stepV c call ops (opsOf ops j) (envK (fun i => (ops.getD i default).dst) (fun i => (t.getD i dft).1) (fun _ => true) env j) K with
  | some p => p.2
  | none => K

def mayBe (ops : List Oper) (b : Array Nat) (mv : List Bool) (l : List Bool) (j : Nat) : Bool :=
  (List.range ops.length).all fun i => !mv.getD i false || ((!(b.getD j 0).testBit i || l.getD i false) && (!(b.getD i 0).testBit j || !l.getD i false))

def subOk (c : Ctx) (call : Callee) (ops : List Oper) (env : AEnv) (H : AHeap) (t : List (Option AV × AHeap)) : Bool :=
  let mv := (List.range ops.length).map fun i => (moves ops H t).getD i false
  Nat.ble (mv.filter id).length 3 && (edgesOk ops && (apartOk ops && (
    heapEq (heapS (oneS c call ops env t) (fun i => mv.getD i false) H ops.length) (heapsOf H t ops.length) &&
    (subsOf mv).all fun l => (List.range ops.length).all fun j => l.getD j false || (!mayBe ops (Region.before ops.toArray) mv l j ||
      sameStep (stepV c call ops (opsOf ops j) (envK (fun i => (ops.getD i default).dst) (fun i => (t.getD i dft).1) (fun _ => true) env j) (heapS (oneS c call ops env t) (fun i => l.getD i false) H ops.length))
        (t.getD j dft).1 (heapS (oneS c call ops env t) (fun i => if Nat.beq i j then mv.getD j false else l.getD i false) H ops.length)))))

theorem sub_sound (hm : c.P.follows .mixedOrders = true) (call : Callee) (hc : CallOK c base w0 call) (id : Nat) (opsA : Array Oper) (env env' : AEnv) (H H' : AHeap) (t : List (Option AV × AHeap)) (ht : trace c call opsA.toList opsA.toList env H = some t)
    (hok : subOk c call opsA.toList env H t = true) (hend : endOf opsA.toList t env H = (env', H'))
    (ρ : Pl) (w : World) (a : Act) (h : Rel c base w0 ρ H w) (hf : Fresh ρ H) (he : EnvR ρ env a.tmps) : (Code.region id opsA true).wp c.P (Behind c base w0 ρ H w a .normal env' H') a w := by
  obtain ⟨ops⟩ := opsA
  simp only at ht hok hend
  obtain ⟨_, _, f3⟩ := trace_facts ht
  have hst := endOf_steps ht
  rw [f3, Option.some.injEq] at hst
  have hheap := endOf_heap ht
  rw [hend] at hst hheap
  simp only [Prod.mk.injEq] at hst
  have hE := hst.1
  change H' = _ at hheap
  subst hE hheap
  simp only [subOk, Bool.and_eq_true] at hok
  obtain ⟨_, hedge, hap, hfin, hall⟩ := hok
  have hfin := heapEq_eq hfin
  clear hst f3 hend
  generalize hmvl : (List.range ops.length).map (fun i => (moves ops H t).getD i false) = mv at *
  have hmvlen : mv.length = ops.length := by rw [← hmvl]; simp
  generalize hdst : (fun i => (ops.getD i default).dst) = dst at *
  generalize hvals : (fun i => (t.getD i dft).1) = vals at *
  have hdst' : ∀ i, dst i = (opsOf ops i).dst := fun i => by rw [← hdst]; rfl
  have hvals' : ∀ i, (t.getD i dft).1 = vals i := fun i => by rw [← hvals]
  generalize hfs : oneS c call ops env t = fs at *
  have hedge' : ∀ j, j < ops.length → ∀ e ∈ (opsOf ops j).after.toList, Region.binds .any e = true → e.on < j := by
    intro j hj e hej hb
    have := List.all_eq_true.1 (List.all_eq_true.1 hedge j (List.mem_range.2 hj)) e hej
    rw [hb] at this
    simpa using this
  have hap' : ∀ i j, i < j → j < ops.length → ((Region.before ops.toArray).getD j 0).testBit i = true ∨ Oper.apart ops.toArray (opsOf ops i) (opsOf ops j) = true := by
    intro i j hij hj
    have := List.all_eq_true.1 (List.all_eq_true.1 hap j (List.mem_range.2 hj)) i (List.mem_range.2 hij)
    simpa only [Bool.or_eq_true] using this
  have hchk : ∀ (S : Nat → Bool) (j : Nat), j < ops.length → S j = false → (∀ i, i < ops.length → mv.getD i false = true → (((Region.before ops.toArray).getD j 0).testBit i = true → S i = true) ∧ (((Region.before ops.toArray).getD i 0).testBit j = true → S i = false)) →
      stepV c call ops (opsOf ops j) (envK dst vals (fun _ => true) env j) (heapS fs (fun i => S i && mv.getD i false) H ops.length) = some (vals j, heapS fs (fun i => (if i = j then true else S i) && mv.getD i false) H ops.length) := by
    intro S j hj hSj hS
    generalize hl : (List.range ops.length).map (fun i => S i && mv.getD i false) = l
    have hlg : ∀ i, i < ops.length → l.getD i false = (S i && mv.getD i false) := fun i hi => by rw [← hl]; simp [hi]
    have hmem : l ∈ subsOf mv := mem_subs (by rw [← hl, hmvlen]; simp) (fun i hi => by
      by_cases hil : i < ops.length
      · rw [hlg i hil] at hi; simp only [Bool.and_eq_true] at hi; exact hi.2
      · rw [← hl] at hi; simp [hil] at hi)
    have := List.all_eq_true.1 (List.all_eq_true.1 hall l hmem) j (List.mem_range.2 hj)
    simp only [Bool.or_eq_true, Bool.not_eq_true'] at this
    rcases this with h1 | h1 | h1
    · rw [hlg j hj, hSj] at h1; simp at h1
    · exfalso
      have h2 : mayBe ops (Region.before ops.toArray) mv l j = true := by
        simp only [mayBe, List.all_eq_true, List.mem_range, Bool.or_eq_true, Bool.and_eq_true, Bool.not_eq_true']
        intro i hi
        cases hmi : mv.getD i false with
        | false => exact .inl rfl
        | true =>
          obtain ⟨h3, h4⟩ := hS i hi hmi
          refine .inr ⟨?_, ?_⟩
          · cases hb : ((Region.before ops.toArray).getD j 0).testBit i with
            | false => exact .inl rfl
            | true => exact .inr (by rw [hlg i hi, h3 hb, hmi]; rfl)
          · cases hb : ((Region.before ops.toArray).getD i 0).testBit j with
            | false => exact .inl rfl
            | true => exact .inr (by rw [hlg i hi, h4 hb]; rfl)
      rw [h2] at h1; cases h1
    · have h2 := sameStep_eq h1
      rw [hvals'] at h2
      rw [heapS_congr (S' := fun i => l.getD i false) _ (fun i hi => (hlg i hi).symm), h2]
      congr 2
      refine heapS_congr _ (fun i hi => ?_)
      by_cases hij : i = j
      · subst hij; simp
      · have : Nat.beq i j = false := by
          cases hq : Nat.beq i j with
          | false => rfl
          | true => exact absurd (Nat.eq_of_beq_eq_true hq) hij
        simp only [this, hij, if_false, hlg i hi]
        simp
  generalize hbf : Region.before ops.toArray = bf at *
  clear hall
  -- the heart: what holds when some have been run
  have main : ∀ (fuel : Nat) (listed : Array Bool) (ρ' : Pl) (a' : Act) (w' : World), listed.size = ops.length → toCome (setOf listed) ops.length = fuel →
      (∀ j, j < ops.length → setOf listed j = true → ∀ i, (bf.getD j 0).testBit i = true → setOf listed i = true) → a'.defers = a.defers →
      Post c base w0 ρ H w ρ' (heapS fs (fun i => setOf listed i && mv.getD i false) H ops.length) w' → EnvR ρ' (envK dst vals (setOf listed) env ops.length) a'.tmps →
      wpAny c.P .any ops.toArray (Behind c base w0 ρ H w a .normal (envK dst vals (fun _ => true) env ops.length) (heapsOf H t ops.length)) fuel listed a' w' := by
    intro fuel
    induction fuel with
    | zero =>
      intro listed ρ' a' w' hls hcount hclosed hdf hpost henv
      have hall := toCome_zero hcount
      have hE : EnvEq (envK dst vals (setOf listed) env ops.length) (envK dst vals (fun _ => true) env ops.length) :=
        ⟨by rw [envK_size, envK_size], fun t => envK_agree _ (fun i hi _ => hall i hi)⟩
      have hHH : heapS fs (fun i => setOf listed i && mv.getD i false) H ops.length = heapsOf H t ops.length := by
        rw [← hfin]
        exact heapS_congr _ (fun i hi => by rw [hall i hi]; rfl)
      refine ⟨?_, rfl, hdf, ρ', hHH ▸ hpost, henv.congr hE⟩
      rw [List.eq_nil_iff_forall_not_mem]
      intro i hi
      obtain ⟨hi1, hi2, _⟩ := (mem_ready hls).1 hi
      rw [hall i hi1] at hi2; cases hi2
    | succ fuel ih =>
      intro listed ρ' a' w' hls hcount hclosed hdf hpost henv
      refine ⟨fun hnil => ?_, fun j hj => ?_⟩
      · -- none is ready, and not all are through: that cannot be
        exfalso
        have hall : ∀ k, k ≤ ops.length → ∀ i, i < k → setOf listed i = true := by
          intro k
          induction k with
          | zero => intro _ i hi; omega
          | succ k ihk =>
            intro hk i hi
            by_cases hik : i = k
            · subst hik
              cases hS : setOf listed i with
              | true => rfl
              | false =>
                have : i ∈ Region.ready .any ops.toArray listed := (mem_ready hls).2 ⟨by omega, hS, fun e hej hb => ihk (by omega) _ (hedge' i (by omega) e hej hb)⟩
                rw [hnil] at this; cases this
            · exact ihk (by omega) i (by omega)
        have hz : toCome (setOf listed) ops.length = 0 := by
          have : ∀ m, m ≤ ops.length → toCome (setOf listed) m = 0 := by
            intro m hm'
            induction m with
            | zero => rfl
            | succ m ihm => simp only [toCome]; rw [ihm (by omega), hall _ (Nat.le_refl _) m (by omega)]; rfl
          exact this _ (Nat.le_refl _)
        omega
      · obtain ⟨hjn, hSj, hready⟩ := (mem_ready hls).1 hj
        have hoj := opsOf_get hjn
        have hpre : ∀ i, (bf.getD j 0).testBit i = true → setOf listed i = true := by
          intro i hi
          rw [← hbf] at hi
          obtain ⟨e, hej, hb, hq⟩ := before_bits hoj (hedge' j hjn) hi
          rcases hq with rfl | hq
          · exact hready e hej hb
          · rw [hbf] at hq
            exact hclosed e.on (by have := hedge' j hjn e hej hb; omega) (hready e hej hb) i hq
        have hpr : ∀ i, i < ops.length → i ≠ j → setOf listed i = decide (i < j) ∨ Oper.apart ops.toArray (opsOf ops (min i j)) (opsOf ops (max i j)) = true := by
          intro i hi hij
          by_cases hlt : i < j
          · rcases hap' i j hlt hjn with hb | hb
            · exact .inl (by rw [hpre i hb]; simp [hlt])
            · exact .inr (by rw [Nat.min_eq_left (by omega), Nat.max_eq_right (by omega)]; exact hb)
          · rcases hap' j i (by omega) hi with hb | hb
            · refine .inl ?_
              cases hS : setOf listed i with
              | false => simp; omega
              | true =>
                have := hclosed i hi hS j hb
                rw [hSj] at this; cases this
            · exact .inr (by rw [Nat.min_eq_right (by omega), Nat.max_eq_left (by omega)]; exact hb)
        have hreads : ∀ t ∈ (opsOf ops j).looksAt ops.toArray, eget (envK dst vals (setOf listed) env ops.length) t = eget (envK dst vals (fun _ => true) env j) t := by
          intro t ht'
          rw [← envK_upto j ops.length (by omega)]
          refine envK_agree _ (fun i hi hd => ?_)
          by_cases hij : i = j
          · subst hij; rw [hSj]; simp
          · rcases hpr i hi hij with hp | hap
            · exact hp
            · exfalso
              rw [hdst'] at hd
              by_cases hlt : i < j
              · rw [Nat.min_eq_left (by omega), Nat.max_eq_right (by omega)] at hap
                exact (Oper.apart_spec hap).1 t hd ht'
              · rw [Nat.min_eq_right (by omega), Nat.max_eq_left (by omega)] at hap
                exact (Oper.apart_spec hap).2.2 t hd ht'
        have hw : awanted ops (envK dst vals (setOf listed) env ops.length) (opsOf ops j) = awanted ops (envK dst vals (fun _ => true) env j) (opsOf ops j) := awanted_reads hreads
        have hop : ∀ K, aop c (envK dst vals (setOf listed) env ops.length) (opsOf ops j).op K = aop c (envK dst vals (fun _ => true) env j) (opsOf ops j).op K := fun K => aop_congr (aval_reads hreads) K
        generalize hS' : (fun i => if i = j then true else setOf listed i) = S' at *
        have hS'j : S' j = true := by rw [← hS']; simp
        have hS'n : ∀ i, i ≠ j → S' i = setOf listed i := fun i hi => by rw [← hS']; simp [hi]
        have hset : setOf (listed.setIfInBounds j true) = S' := by
          funext i
          simp only [setOf, Array.getD_eq_getD_getElem?, Array.getElem?_setIfInBounds]
          by_cases hij : j = i
          · subst hij
            rw [if_pos rfl, if_pos (by omega), hS'j]; rfl
          · rw [if_neg hij, hS'n i (Ne.symm hij)]
            simp [setOf, Array.getD_eq_getD_getElem?]
        have henv' : EnvEq (eput (envK dst vals (setOf listed) env ops.length) (dst j) (vals j)) (envK dst vals S' env ops.length) := by
          refine ⟨by rw [eput_size, envK_size, envK_size], fun t => ?_⟩
          by_cases hdt : dst j = some t
          · have := envK_last (vals := vals) (env := env) hdt hS'j ops.length hjn (fun i h1 h2 hd => by
              rw [hS'n i (by omega)]
              rcases hpr i h2 (by omega) with hp | hap
              · rw [hp]; simp; omega
              · exfalso
                rw [Nat.min_eq_right (by omega), Nat.max_eq_left (by omega)] at hap
                rw [hdst'] at hd hdt
                exact (Oper.apart_spec hap).2.1 t hdt hd)
            rw [this, hdt]
            exact eput_eq (by rw [envK_size, envK_size])
          · rw [eput_ne hdt]
            refine envK_agree _ (fun i hi hd => ?_)
            exact (hS'n i (fun hij => hdt (by rw [← hij]; exact hd))).symm
        have hgo := hchk (setOf listed) j hjn hSj (fun i hi hmi => ⟨fun hb => hpre i hb, fun hb => by
          cases hS : setOf listed i with
          | false => rfl
          | true =>
            have := hclosed i hi hS j hb
            rw [hSj] at this; cases this⟩)
        have hS'' : heapS fs (fun i => (if i = j then true else setOf listed i) && mv.getD i false) H ops.length = heapS fs (fun i => S' i && mv.getD i false) H ops.length := by
          refine heapS_congr _ (fun i hi => ?_)
          rw [← hS']
        rw [hS''] at hgo
        have hast : astep c call ops (opsOf ops j) (envK dst vals (setOf listed) env ops.length) (heapS fs (fun i => setOf listed i && mv.getD i false) H ops.length) = some (eput (envK dst vals (setOf listed) env ops.length) (dst j) (vals j), heapS fs (fun i => S' i && mv.getD i false) H ops.length) := by
          rw [astep_stepV]
          have : stepV c call ops (opsOf ops j) (envK dst vals (setOf listed) env ops.length) (heapS fs (fun i => setOf listed i && mv.getD i false) H ops.length) = stepV c call ops (opsOf ops j) (envK dst vals (fun _ => true) env j) (heapS fs (fun i => setOf listed i && mv.getD i false) H ops.length) := by
            simp only [stepV, hw, hop]
          rw [this, hgo, hdst']; rfl
        refine step_sound hc hpost.rel (hpost.fresh hf) henv hoj hast ?_
        rintro a2 w2 ⟨hd2, ρ2, hp2, he2⟩
        refine ih (listed.setIfInBounds j true) ρ2 a2 w2 (by simpa using hls) ?_ ?_ (hd2.trans hdf) ?_ ?_
        · rw [hset]
          have := toCome_step hSj hS'j (fun i hi => (hS'n i hi).symm) hjn
          omega
        · rw [hset]
          intro k hk hSk i hi
          by_cases hij : i = j
          · rw [hij]; exact hS'j
          · rw [hS'n i hij]
            by_cases hkj : k = j
            · subst hkj; exact hpre i hi
            · exact hclosed k hk (by rw [← hS'n k hkj]; exact hSk) i hi
        · rw [hset]; exact hpost.trans hp2
        · rw [hset]; exact he2.congr henv'
  refine wp_region_any hm ?_
  have hS0 : ∀ i, setOf (Array.replicate ops.length false) i = false := fun i => by
    simp only [setOf, Array.getD_eq_getD_getElem?, Array.getElem?_replicate]
    split <;> rfl
  have hE0 : ∀ k, envK dst vals (setOf (Array.replicate ops.length false)) env k = env := by
    intro k
    induction k with
    | zero => rfl
    | succ k ihk => simp only [envK, hS0]; simpa using ihk
  have hT0 : ∀ k, toCome (setOf (Array.replicate ops.length false)) k = k := by
    intro k
    induction k with
    | zero => rfl
    | succ k ihk => simp only [toCome, hS0]; simp [ihk]
  refine main ops.length (Array.replicate ops.length false) ρ a _ (by simp) (hT0 _) (fun j _ hj => by rw [hS0] at hj; cases hj) rfl ?_ ?_
  · rw [heapS_none _ (fun i hi => by rw [hS0]; rfl)]; exact post_drew h
  · rw [hE0]; exact he

/-- what a region that draws its order does -/
def drawRunS : DrawOk := fun c call ops env H => (trace c call ops ops env H).bind fun t => if regOk ops (moves ops H t) (still c call ops env H t) || (freeOk c call ops env H t || subOk c call ops env H t) then some (endOf ops t env H) else none

theorem drawS_sound (hm : c.P.follows .mixedOrders = true) (call : Callee) (hc : CallOK c base w0 call) : DrawOKs c base w0 drawRunS call := by
  intro id ops env env' H H' e ρ w a h hf he
  simp only [drawRunS, Option.bind_eq_some_iff] at e
  obtain ⟨t, ht, e⟩ := e
  split at e
  · rename_i hok
    simp only [Bool.or_eq_true] at hok
    rcases hok with hok | hok | hok
    · refine order_sound hm call hc id ops env env' H H' ?_ ?_ ρ w a h hf he
      · simp only [drawOk, ht]; exact hok
      · rw [endOf_steps ht]; exact e
    · simp only [Option.some.injEq] at e
      exact free_sound hm call hc id ops env env' H H' t ht hok e ρ w a h hf he
    · simp only [Option.some.injEq] at e
      exact sub_sound hm call hc id ops env env' H H' t ht hok e ρ w a h hf he
  · cases e

end Go.AM

/-
  REGIONS THAT DRAW THEIR ORDER, the two laws joined (own work): operations that are ordered against all others cut the region into parts; within a part each operation only adds to the heap.
-/
namespace Go.AM
open Go.RowKit
set_option linter.unusedSimpArgs false

variable {c : Ctx} {base : Nat} {w0 w : World} {ρ : Pl} {H : AHeap}

/-- is the operation ordered against all others? -/
def settled (ops : List Oper) (b : Array Nat) (j : Nat) : Bool := (List.range ops.length).all fun i => Nat.beq i j || inOrder b i j

/-- the first of the settled ones that has not been run; among m -/
def nextW (sd S : Nat → Bool) : Nat → Nat
  | 0 => 0
  | m + 1 => if Nat.blt (nextW sd S m) m then nextW sd S m else if sd m && !S m then m else m + 1

theorem nextW_spec {sd S : Nat → Bool} : ∀ m, nextW sd S m ≤ m ∧ (∀ j, j < nextW sd S m → sd j = true → S j = true) ∧ (nextW sd S m < m → sd (nextW sd S m) = true ∧ S (nextW sd S m) = false)
  | 0 => ⟨Nat.le_refl _, fun j h => by simp [nextW] at h, fun h => by simp [nextW] at h⟩
  | m + 1 => by
    obtain ⟨h1, h2, h3⟩ := nextW_spec (sd := sd) (S := S) m
    simp only [nextW]
    split
    · rename_i hlt
      rw [Nat.blt_eq] at hlt
      exact ⟨by omega, h2, fun _ => h3 hlt⟩
    · rename_i hlt
      rw [Nat.blt_eq] at hlt
      have he : nextW sd S m = m := by omega
      rw [he] at h2
      split
      · rename_i hs
        simp only [Bool.and_eq_true, Bool.not_eq_true'] at hs
        exact ⟨by omega, h2, fun _ => hs⟩
      · rename_i hs
        refine ⟨Nat.le_refl _, fun j hj hsj => ?_, fun h => by omega⟩
        by_cases hjm : j = m
        · subst hjm
          cases hS : S j with
          | true => rfl
          | false => simp [hsj, hS] at hs
        · exact h2 j (by omega) hsj

theorem nextW_congr {sd S S' : Nat → Bool} (h : ∀ j, sd j = true → S j = S' j) : ∀ m, nextW sd S m = nextW sd S' m
  | 0 => rfl
  | m + 1 => by
    simp only [nextW, nextW_congr h m]
    cases hs : sd m with
    | false => simp
    | true => rw [h m hs]

theorem nextW_unique {sd S : Nat → Bool} {n N : Nat} (h1 : N ≤ n) (h2 : ∀ j, j < N → sd j = true → S j = true) (h3 : N < n → sd N = true ∧ S N = false) : nextW sd S n = N := by
  obtain ⟨k1, k2, k3⟩ := nextW_spec (sd := sd) (S := S) n
  rcases Nat.lt_trichotomy (nextW sd S n) N with h | h | h
  · obtain ⟨k4, k5⟩ := k3 (by omega)
    rw [h2 _ h k4] at k5; cases k5
  · exact h
  · obtain ⟨k4, k5⟩ := h3 (by omega)
    rw [k2 _ h k4] at k5; cases k5

def mixOk (c : Ctx) (call : Callee) (ops : List Oper) (env : AEnv) (H : AHeap) (t : List (Option AV × AHeap)) : Bool :=
  edgesOk ops && (apartOk ops && (List.range ops.length).all fun j => (settled ops (Region.before ops.toArray) j && Nat.ble (heapsOf H t j).length (heapsOf H t (j + 1)).length) || freeAt c call ops env H t j)

theorem heaps_heapK {call : Callee} {ops : List Oper} {env : AEnv} {H : AHeap} {t : List (Option AV × AHeap)} (ht : trace c call ops ops env H = some t) : ∀ m, m ≤ ops.length → heapK (fun i => (t.getD i dft).2) (fun i => (moves ops H t).getD i false) (fun _ => true) H m = heapsOf H t m
  | 0, _ => rfl
  | m + 1, hm => by
    obtain ⟨f1, f2, _⟩ := trace_facts ht
    have ih := heaps_heapK ht m (by omega)
    simp only [heapK, heapsOf]
    cases hmv : (moves ops H t).getD m false with
    | true => simp
    | false =>
      simp only [Bool.and_false, Bool.false_eq_true, if_false]
      have h1 := f1 m (opsOf ops m) (opsOf_get (by omega))
      have h2 := f2 m (by omega)
      rw [hmv] at h2
      exact (mvOf_same (o := opsOf ops m) h2.symm h1).symm

theorem mix_sound (hm : c.P.follows .mixedOrders = true) (call : Callee) (hc : CallOK c base w0 call) (id : Nat) (opsA : Array Oper) (env env' : AEnv) (H H' : AHeap) (t : List (Option AV × AHeap)) (ht : trace c call opsA.toList opsA.toList env H = some t)
    (hok : mixOk c call opsA.toList env H t = true) (hend : endOf opsA.toList t env H = (env', H'))
    (ρ : Pl) (w : World) (a : Act) (h : Rel c base w0 ρ H w) (hf : Fresh ρ H) (he : EnvR ρ env a.tmps) : (Code.region id opsA true).wp c.P (Behind c base w0 ρ H w a .normal env' H') a w := by
  obtain ⟨ops⟩ := opsA
  simp only at ht hok hend
  obtain ⟨_, _, f3⟩ := trace_facts ht
  have hst := endOf_steps ht
  rw [f3, Option.some.injEq] at hst
  have hheap := endOf_heap ht
  rw [hend] at hst hheap
  simp only [Prod.mk.injEq] at hst
  have hE := hst.1
  change H' = _ at hheap
  subst hE hheap
  simp only [mixOk, Bool.and_eq_true, List.all_eq_true, List.mem_range] at hok
  obtain ⟨hedge, hap, hfree⟩ := hok
  have hF1 : ∀ j, j < ops.length → stepV c call ops (opsOf ops j) (envK (fun i => (ops.getD i default).dst) (fun i => (t.getD i dft).1) (fun _ => true) env j) (heapsOf H t j) = some ((t.getD j dft).1, heapsOf H t (j + 1)) := fun j hj => by
    have := (trace_facts ht).1 j (opsOf ops j) (opsOf_get hj)
    rw [heaps_heapK ht j (by omega)] at this
    rw [this]; rfl
  have hspec := fun j hj (hns : (settled ops (Region.before ops.toArray) j && Nat.ble (heapsOf H t j).length (heapsOf H t (j + 1)).length) = false) => free_spec ((Bool.or_eq_true _ _ ▸ hfree j hj : _ ∨ _).resolve_left (by rw [hns]; simp))
  generalize hsd : (fun j => settled ops (Region.before ops.toArray) j && Nat.ble (heapsOf H t j).length (heapsOf H t (j + 1)).length) = sd at *
  have hsd' : ∀ j, (settled ops (Region.before ops.toArray) j && Nat.ble (heapsOf H t j).length (heapsOf H t (j + 1)).length) = sd j := fun j => by rw [← hsd]
  have hsdl : ∀ j, sd j = true → (heapsOf H t j).length ≤ (heapsOf H t (j + 1)).length := fun j hj => by
    rw [← hsd'] at hj; simp only [Bool.and_eq_true, Nat.ble_eq] at hj; exact hj.2
  have hsdo : ∀ j, sd j = true → ∀ i, i < ops.length → i ≠ j → inOrder (Region.before ops.toArray) i j = true := fun j hj i hi hij => by
    rw [← hsd'] at hj
    simp only [Bool.and_eq_true] at hj
    have := List.all_eq_true.1 hj.1 i (List.mem_range.2 hi)
    simp only [Bool.or_eq_true] at this
    rcases this with h | h
    · exact absurd (Nat.eq_of_beq_eq_true h) hij
    · exact h
  simp only [hsd'] at hspec
  clear hfree hst f3 hend
  generalize hdst : (fun i => (ops.getD i default).dst) = dst at *
  generalize hvals : (fun i => (t.getD i dft).1) = vals at *
  have hdst' : ∀ i, dst i = (opsOf ops i).dst := fun i => by rw [← hdst]; rfl
  have hvals' : ∀ i, (t.getD i dft).1 = vals i := fun i => by rw [← hvals]
  generalize hhp : heapsOf H t = hp at *
  have hp0 : hp 0 = H := by rw [← hhp]; rfl
  generalize hs : (fun k => (hp k).length) = s at *
  have hs' : ∀ k, (hp k).length = s k := fun k => by rw [← hs]
  have hedge' : ∀ j, j < ops.length → ∀ e ∈ (opsOf ops j).after.toList, Region.binds .any e = true → e.on < j := by
    intro j hj e hej hb
    have := List.all_eq_true.1 (List.all_eq_true.1 hedge j (List.mem_range.2 hj)) e hej
    rw [hb] at this
    simpa using this
  have hap' : ∀ i j, i < j → j < ops.length → ((Region.before ops.toArray).getD j 0).testBit i = true ∨ Oper.apart ops.toArray (opsOf ops i) (opsOf ops j) = true := by
    intro i j hij hj
    have := List.all_eq_true.1 (List.all_eq_true.1 hap j (List.mem_range.2 hj)) i (List.mem_range.2 hij)
    simpa only [Bool.or_eq_true] using this
  generalize hbf : Region.before ops.toArray = bf at *
  have hsd1 : ∀ j, sd j = true → ∀ i, i < ops.length → i < j → (bf.getD j 0).testBit i = true := fun j hj i hi hij => by
    have := hsdo j hj i hi (by omega)
    have hb : Nat.blt i j = true := by rw [Nat.blt_eq]; exact hij
    simpa [inOrder, hb] using this
  have hsd2 : ∀ j, sd j = true → ∀ i, i < ops.length → j < i → (bf.getD i 0).testBit j = true := fun j hj i hi hij => by
    have := hsdo j hj i hi (by omega)
    have hb : Nat.blt i j = false := by
      cases hq : Nat.blt i j with
      | false => rfl
      | true => rw [Nat.blt_eq] at hq; omega
    simpa [inOrder, hb] using this
  simp only [hs', hvals'] at hspec hF1 hsdl
  -- the heaps grow
  have hmono1 : ∀ j, j < ops.length → s j ≤ s (j + 1) := by
    intro j hj
    cases hq : sd j with
    | true => exact hsdl j hq
    | false =>
      have := congrArg List.length (hspec j hj hq).1
      rw [List.length_take, hs', hs'] at this
      omega
  have hmono : ∀ {j k}, j ≤ k → k ≤ ops.length → s j ≤ s k := fun hjk hk => mono_of hmono1 hjk hk
  have hget : ∀ {j k : Nat}, j ≤ k → k ≤ ops.length → (∀ q, j ≤ q → q < k → sd q = false) → ∀ i, i < s j → (hp k)[i]? = (hp j)[i]? := by
    intro j k hjk
    induction k with
    | zero => intro _ _ i _; have : j = 0 := by omega
              subst this; rfl
    | succ k ih =>
      intro hk hno i hi
      by_cases e : j = k + 1
      · subst e; rfl
      · rw [← ih (by omega) (by omega) (fun q h1 h2 => hno q h1 (by omega)) i hi]
        have hik : i < s k := Nat.lt_of_lt_of_le hi (hmono (by omega) (by omega))
        have := congrArg (fun l => l[i]?) (hspec k (by omega) (hno k (by omega) (by omega))).1
        rw [List.getElem?_take, if_pos hik] at this
        exact this
  have hhat : ∀ {j k : Nat}, j ≤ k → k ≤ ops.length → (∀ q, j ≤ q → q < k → sd q = false) → ∀ i, i < s j → hat (hp k) i = hat (hp j) i := fun hjk hk hno i hi => by
    unfold hat; rw [hget hjk hk hno i hi]
  have hs0 : s 0 = H.length := by rw [← hs', hp0]
  generalize hN : (fun S : Nat → Bool => nextW sd S ops.length) = N at *
  have hN' : ∀ S, nextW sd S ops.length = N S := fun S => by rw [← hN]
  have hNs := fun S => nextW_spec (sd := sd) (S := S) ops.length
  simp only [hN'] at hNs
  generalize hA : (fun S : Nat → Bool => mask (keepS s ops.length S) 0 (hp (N S))) = A at *
  have hA' : ∀ S, mask (keepS s ops.length S) 0 (hp (N S)) = A S := fun S => by rw [← hA]
  have hAl : ∀ S, (A S).length = s (N S) := fun S => by rw [← hA', mask_len, hs']
  have hAh : ∀ S i o, hat (A S) i = some o ↔ keepS s ops.length S i = true ∧ hat (hp (N S)) i = some o := by
    intro S i o
    rw [← hA', mask_hat]
    cases keepS s ops.length S i <;> simp
  have keep_mono : ∀ {S S' : Nat → Bool}, (∀ i, S i = true → S' i = true) → ∀ i, keepS s ops.length S i = true → keepS s ops.length S' i = true := by
    intro S S' hSS i hk
    rcases keepS_iff.1 hk with h1 | ⟨j, h1, h2, h3⟩
    · exact keepS_iff.2 (.inl h1)
    · exact keepS_iff.2 (.inr ⟨j, h1, hSS j h2, h3⟩)
  -- the heart: what holds when some have been run
  have main : ∀ (fuel : Nat) (listed : Array Bool) (ρ' : Pl) (a' : Act) (w' : World), listed.size = ops.length → toCome (setOf listed) ops.length = fuel →
      (∀ j, j < ops.length → setOf listed j = true → ∀ i, (bf.getD j 0).testBit i = true → setOf listed i = true) → a'.defers = a.defers →
      Post c base w0 ρ H w ρ' (A (setOf listed)) w' → EnvR ρ' (envK dst vals (setOf listed) env ops.length) a'.tmps → (∀ i p, s 0 ≤ i → ρ' (.own i) = some p → keepS s ops.length (setOf listed) i = true) →
      wpAny c.P .any ops.toArray (Behind c base w0 ρ H w a .normal (envK dst vals (fun _ => true) env ops.length) (hp ops.length)) fuel listed a' w' := by
    intro fuel
    induction fuel with
    | zero =>
      intro listed ρ' a' w' hls hcount hclosed hdf hpost henv hinv
      have hall := toCome_zero hcount
      have hE : EnvEq (envK dst vals (setOf listed) env ops.length) (envK dst vals (fun _ => true) env ops.length) :=
        ⟨by rw [envK_size, envK_size], fun t => envK_agree _ (fun i hi _ => hall i hi)⟩
      have hNn : N (setOf listed) = ops.length := by
        rw [← hN']
        exact nextW_unique (Nat.le_refl _) (fun j hj _ => hall j hj) (fun h => by omega)
      have hHH : A (setOf listed) = hp ops.length := by
        rw [← hA', hNn]
        refine mask_all fun i hi => ?_
        rw [hs'] at hi
        rcases range_of _ hi with h1 | ⟨j, h1, h2⟩
        · exact keepS_iff.2 (.inl h1)
        · exact keepS_iff.2 (.inr ⟨j, h1, hall j h1, h2⟩)
      refine ⟨?_, rfl, hdf, ρ', hHH ▸ hpost, henv.congr hE⟩
      rw [List.eq_nil_iff_forall_not_mem]
      intro i hi
      obtain ⟨hi1, hi2, _⟩ := (mem_ready hls).1 hi
      rw [hall i hi1] at hi2; cases hi2
    | succ fuel ih =>
      intro listed ρ' a' w' hls hcount hclosed hdf hpost henv hinv
      refine ⟨fun hnil => ?_, fun j hj => ?_⟩
      · -- none is ready, and not all are through: that cannot be
        exfalso
        have hall : ∀ k, k ≤ ops.length → ∀ i, i < k → setOf listed i = true := by
          intro k
          induction k with
          | zero => intro _ i hi; omega
          | succ k ihk =>
            intro hk i hi
            by_cases hik : i = k
            · subst hik
              cases hS : setOf listed i with
              | true => rfl
              | false =>
                have : i ∈ Region.ready .any ops.toArray listed := (mem_ready hls).2 ⟨by omega, hS, fun e hej hb => ihk (by omega) _ (hedge' i (by omega) e hej hb)⟩
                rw [hnil] at this; cases this
            · exact ihk (by omega) i (by omega)
        have hz : toCome (setOf listed) ops.length = 0 := by
          have : ∀ m, m ≤ ops.length → toCome (setOf listed) m = 0 := by
            intro m hm'
            induction m with
            | zero => rfl
            | succ m ihm => simp only [toCome]; rw [ihm (by omega), hall _ (Nat.le_refl _) m (by omega)]; rfl
          exact this _ (Nat.le_refl _)
        omega
      · obtain ⟨hjn, hSj, hready⟩ := (mem_ready hls).1 hj
        have hoj := opsOf_get hjn
        have hpre : ∀ i, (bf.getD j 0).testBit i = true → setOf listed i = true := by
          intro i hi
          rw [← hbf] at hi
          obtain ⟨e, hej, hb, hq⟩ := before_bits hoj (hedge' j hjn) hi
          rcases hq with rfl | hq
          · exact hready e hej hb
          · rw [hbf] at hq
            exact hclosed e.on (by have := hedge' j hjn e hej hb; omega) (hready e hej hb) i hq
        have hpr : ∀ i, i < ops.length → i ≠ j → setOf listed i = decide (i < j) ∨ Oper.apart ops.toArray (opsOf ops (min i j)) (opsOf ops (max i j)) = true := by
          intro i hi hij
          by_cases hlt : i < j
          · rcases hap' i j hlt hjn with hb | hb
            · exact .inl (by rw [hpre i hb]; simp [hlt])
            · exact .inr (by rw [Nat.min_eq_left (by omega), Nat.max_eq_right (by omega)]; exact hb)
          · rcases hap' j i (by omega) hi with hb | hb
            · refine .inl ?_
              cases hS : setOf listed i with
              | false => simp; omega
              | true =>
                have := hclosed i hi hS j hb
                rw [hSj] at this; cases this
            · exact .inr (by rw [Nat.min_eq_right (by omega), Nat.max_eq_left (by omega)]; exact hb)
        have hreads : ∀ t ∈ (opsOf ops j).looksAt ops.toArray, eget (envK dst vals (setOf listed) env ops.length) t = eget (envK dst vals (fun _ => true) env j) t := by
          intro t ht'
          rw [← envK_upto j ops.length (by omega)]
          refine envK_agree _ (fun i hi hd => ?_)
          by_cases hij : i = j
          · subst hij; rw [hSj]; simp
          · rcases hpr i hi hij with hp | hap
            · exact hp
            · exfalso
              rw [hdst'] at hd
              by_cases hlt : i < j
              · rw [Nat.min_eq_left (by omega), Nat.max_eq_right (by omega)] at hap
                exact (Oper.apart_spec hap).1 t hd ht'
              · rw [Nat.min_eq_right (by omega), Nat.max_eq_left (by omega)] at hap
                exact (Oper.apart_spec hap).2.2 t hd ht'
        generalize hS' : (fun i => if i = j then true else setOf listed i) = S' at *
        have hS'j : S' j = true := by rw [← hS']; simp
        have hS'n : ∀ i, i ≠ j → S' i = setOf listed i := fun i hi => by rw [← hS']; simp [hi]
        have hset : setOf (listed.setIfInBounds j true) = S' := by
          funext i
          simp only [setOf, Array.getD_eq_getD_getElem?, Array.getElem?_setIfInBounds]
          by_cases hij : j = i
          · subst hij
            rw [if_pos rfl, if_pos (by omega), hS'j]; rfl
          · rw [if_neg hij, hS'n i (Ne.symm hij)]
            simp [setOf, Array.getD_eq_getD_getElem?]
        have hSS' : ∀ i, setOf listed i = true → S' i = true := fun i hi => by
          by_cases hij : i = j
          · rw [hij]; exact hS'j
          · rw [hS'n i hij]; exact hi
        have henv' : EnvEq (eput (envK dst vals (setOf listed) env ops.length) (dst j) (vals j)) (envK dst vals S' env ops.length) := by
          refine ⟨by rw [eput_size, envK_size, envK_size], fun t => ?_⟩
          by_cases hdt : dst j = some t
          · have := envK_last (vals := vals) (env := env) hdt hS'j ops.length hjn (fun i h1 h2 hd => by
              rw [hS'n i (by omega)]
              rcases hpr i h2 (by omega) with hp | hap
              · rw [hp]; simp; omega
              · exfalso
                rw [Nat.min_eq_right (by omega), Nat.max_eq_left (by omega)] at hap
                rw [hdst'] at hd hdt
                exact (Oper.apart_spec hap).2.1 t hdt hd)
            rw [this, hdt]
            exact eput_eq (by rw [envK_size, envK_size])
          · rw [eput_ne hdt]
            refine envK_agree _ (fun i hi hd => ?_)
            exact (hS'n i (fun hij => hdt (by rw [← hij]; exact hd))).symm
        have hdisj : ∀ i, s j ≤ i → i < s (j + 1) → keepS s ops.length (setOf listed) i = false := by
          intro i h1 h2
          cases hk : keepS s ops.length (setOf listed) i with
          | false => rfl
          | true =>
            exfalso
            rcases keepS_iff.1 hk with h3 | ⟨k, h3, h4, h5, h6⟩
            · have := hmono (Nat.zero_le j) (Nat.le_of_lt hjn); omega
            · rcases Nat.lt_trichotomy k j with hlt | rfl | hlt
              · have := hmono (show k + 1 ≤ j by omega) (Nat.le_of_lt hjn); omega
              · rw [hSj] at h4; cases h4
              · have := hmono (show j + 1 ≤ k by omega) (Nat.le_of_lt h3); omega
        obtain ⟨hN1, hN2, hN3⟩ := hNs (setOf listed)
        cases hsj : sd j with
        | true =>
          -- it is ordered against all others
          have hlt : ∀ i, i < j → setOf listed i = true := fun i hi => hpre i (hsd1 j hsj i (by omega) hi)
          have hgt : ∀ i, i < ops.length → j < i → setOf listed i = false := fun i hi hji => by
            cases hS : setOf listed i with
            | false => rfl
            | true => rw [hclosed i hi hS j (hsd2 j hsj i hi hji)] at hSj; cases hSj
          have hNj : N (setOf listed) = j := by
            rw [← hN']
            exact nextW_unique (Nat.le_of_lt hjn) (fun q hq _ => hlt q hq) (fun _ => ⟨hsj, hSj⟩)
          have hAj : A (setOf listed) = hp j := by
            rw [← hA', hNj]
            refine mask_all fun i hi => ?_
            rw [hs'] at hi
            rcases range_of _ hi with h1 | ⟨k, h1, h2⟩
            · exact keepS_iff.2 (.inl h1)
            · exact keepS_iff.2 (.inr ⟨k, by omega, hlt k h1, h2⟩)
          have hpost' := hpost
          rw [hAj] at hpost'
          have hw : awanted ops (envK dst vals (setOf listed) env ops.length) (opsOf ops j) = awanted ops (envK dst vals (fun _ => true) env j) (opsOf ops j) := awanted_reads hreads
          have hop : ∀ K, aop c (envK dst vals (setOf listed) env ops.length) (opsOf ops j).op K = aop c (envK dst vals (fun _ => true) env j) (opsOf ops j).op K := fun K => aop_congr (aval_reads hreads) K
          have hast : astep c call ops (opsOf ops j) (envK dst vals (setOf listed) env ops.length) (hp j) = some (eput (envK dst vals (setOf listed) env ops.length) (dst j) (vals j), hp (j + 1)) := by
            rw [astep_stepV]
            have : stepV c call ops (opsOf ops j) (envK dst vals (setOf listed) env ops.length) (hp j) = stepV c call ops (opsOf ops j) (envK dst vals (fun _ => true) env j) (hp j) := by
              simp only [stepV, hw, hop]
            rw [this, hF1 j hjn, hdst']; rfl
          have hNj' : j + 1 ≤ N S' := by
            obtain ⟨h1, h2, h3⟩ := hNs S'
            rcases Nat.lt_or_ge (N S') (j + 1) with h | h
            · obtain ⟨h4, h5⟩ := h3 (by omega)
              by_cases hq : N S' = j
              · rw [hq, hS'j] at h5; cases h5
              · rw [hS'n _ hq, hlt _ (by omega)] at h5; cases h5
            · exact h
          have hno : ∀ q, j + 1 ≤ q → q < N S' → sd q = false := fun q h1 h2 => by
            cases hq : sd q with
            | false => rfl
            | true =>
              obtain ⟨k1, k2, _⟩ := hNs S'
              have := k2 q h2 hq
              rw [hS'n q (by omega), hgt q (by omega) (by omega)] at this; cases this
          have hkeep : ∀ i, keepS s ops.length S' i = true ↔ i < s (j + 1) := by
            intro i
            constructor
            · intro hk
              rcases keepS_iff.1 hk with h1 | ⟨k, h1, h2, h3, h4⟩
              · exact Nat.lt_of_lt_of_le h1 (hmono (Nat.zero_le _) (by omega))
              · have hkj : k ≤ j := by
                  rcases Nat.lt_or_ge j k with h | h
                  · rw [hS'n k (by omega), hgt k h1 h] at h2; cases h2
                  · exact h
                exact Nat.lt_of_lt_of_le h4 (hmono (by omega) (by omega))
            · intro hi
              rcases range_of _ hi with h1 | ⟨k, h1, h2⟩
              · exact keepS_iff.2 (.inl h1)
              · refine keepS_iff.2 (.inr ⟨k, by omega, ?_, h2⟩)
                by_cases hkj : k = j
                · rw [hkj]; exact hS'j
                · rw [hS'n k hkj]; exact hlt k (by omega)
          have hfp : Fresh ρ' (hp j) := fun i hi => by
            rw [hs'] at hi
            cases hq : ρ' (.own i) with
            | none => rfl
            | some p =>
              have h1 := hinv i p (Nat.le_trans (hmono (Nat.zero_le _) (Nat.le_of_lt hjn)) hi) hq
              rcases keepS_iff.1 h1 with h2 | ⟨k, h2, h3, h4, h5⟩
              · have := hmono (Nat.zero_le j) (Nat.le_of_lt hjn); omega
              · have hkj : k < j := by
                  rcases Nat.lt_trichotomy k j with h | rfl | h
                  · exact h
                  · rw [hSj] at h3; cases h3
                  · rw [hgt k h2 h] at h3; cases h3
                have := hmono (show k + 1 ≤ j by omega) (Nat.le_of_lt hjn)
                omega
          refine step_sound hc hpost'.rel hfp henv hoj hast ?_
          rintro a2 w2 ⟨hd2, ρ2, hp2, he2⟩
          refine ih (listed.setIfInBounds j true) ρ2 a2 w2 (by simpa using hls) ?_ ?_ (hd2.trans hdf) ?_ ?_ ?_
          · rw [hset]
            have := toCome_step hSj hS'j (fun i hi => (hS'n i hi).symm) hjn
            omega
          · rw [hset]
            intro k hk hSk i hi
            by_cases hij : i = j
            · rw [hij]; exact hS'j
            · rw [hS'n i hij]
              by_cases hkj : k = j
              · subst hkj; exact hpre i hi
              · exact hclosed k hk (by rw [← hS'n k hkj]; exact hSk) i hi
          · rw [hset]
            refine post_same (hpost'.trans hp2) (fun i o => ?_) (by rw [hAl, hs']; exact hmono hNj' (hNs S').1)
            rw [hAh, hkeep]
            constructor
            · rintro ⟨h1, h2⟩
              rw [hhat hNj' (hNs S').1 hno i h1] at h2; exact h2
            · intro h2
              have h1 : i < s (j + 1) := by rw [← hs']; exact hat_lt h2
              exact ⟨h1, by rw [hhat hNj' (hNs S').1 hno i h1]; exact h2⟩
          · rw [hset]; exact he2.congr henv'
          · rw [hset]
            intro i p h1 hq
            rcases hp2.new _ _ hq with h2 | ⟨k, hk, h3, h4⟩
            · exact keep_mono hSS' i (hinv i p h1 h2)
            · cases hk
              rw [hs'] at h4
              exact (hkeep i).2 h4
        | false =>
        have hjN : j < N (setOf listed) := by
          rcases Nat.lt_trichotomy j (N (setOf listed)) with h | h | h
          · exact h
          · obtain ⟨h1, _⟩ := hN3 (by omega)
            rw [← h, hsj] at h1; cases h1
          · obtain ⟨h1, h2⟩ := hN3 (by omega)
            rw [hpre _ (hsd2 _ h1 j hjn h)] at h2; cases h2
        have hno : ∀ q, j ≤ q → q < N (setOf listed) → sd q = false := fun q h1 h2 => by
          cases hq : sd q with
          | false => rfl
          | true =>
            have hqj : q ≠ j := fun e => by rw [e, hsj] at hq; cases hq
            have hqn : q < ops.length := by omega
            rw [hclosed q hqn (hN2 q h2 hq) j (hsd1 q hq j hjn (by omega))] at hSj; cases hSj
        have hNS : N S' = N (setOf listed) := by
          rw [← hN', ← hN']
          refine nextW_congr (fun q hq => ?_) _
          have hqj : q ≠ j := fun e => by rw [e, hsj] at hq; cases hq
          exact hS'n q hqj
        obtain ⟨hsp1, hsp2, hsp3⟩ := hspec j hjn hsj
        have hreads2 : ∀ t ∈ (opsOf ops j).looksAt ops.toArray, eget (lowEnv (s j) (envK dst vals (setOf listed) env ops.length)) t = eget (lowEnv (s j) (envK dst vals (fun _ => true) env j)) t := fun t ht' => by
          rw [lowEnv_get, lowEnv_get, hreads t ht']
        have hw : awanted ops (lowEnv (s j) (envK dst vals (setOf listed) env ops.length)) (opsOf ops j) = awanted ops (lowEnv (s j) (envK dst vals (fun _ => true) env j)) (opsOf ops j) := awanted_reads hreads2
        have hop : ∀ K, aop c (lowEnv (s j) (envK dst vals (setOf listed) env ops.length)) (opsOf ops j).op K = aop c (lowEnv (s j) (envK dst vals (fun _ => true) env j)) (opsOf ops j).op K := fun K => aop_congr (aval_reads hreads2) K
        generalize hB : (fun i => (bf.getD j 0).testBit i) = B at *
        have hB' : ∀ i, (bf.getD j 0).testBit i = B i := fun i => by rw [← hB]
        simp only [hB'] at hsp3 hpre
        generalize hV : mask (keepS s ops.length B) 0 (hp j) = V at *
        generalize hV' : mask (keepS s ops.length fun i => B i || Nat.beq i j) 0 (hp (j + 1)) = V' at *
        have hVl : V.length = s j := by rw [← hV, mask_len, hs']
        have hVl' : V'.length = s (j + 1) := by rw [← hV', mask_len, hs']
        have hgo : stepV c call ops (opsOf ops j) (lowEnv (s j) (envK dst vals (setOf listed) env ops.length)) V = some (vals j, V') := by
          rw [← hsp3]
          simp only [stepV, hw, hop]
        have hkeepB : ∀ i, i < s j → keepS s ops.length (fun i => B i || Nat.beq i j) i = keepS s ops.length B i := by
          intro i hi
          rw [Bool.eq_iff_iff]
          constructor
          · intro hk
            rcases keepS_iff.1 hk with h1 | ⟨k, h1, h2, h3, h4⟩
            · exact keepS_iff.2 (.inl h1)
            · simp only [Bool.or_eq_true] at h2
              rcases h2 with h2 | h2
              · exact keepS_iff.2 (.inr ⟨k, h1, h2, h3, h4⟩)
              · have := Nat.eq_of_beq_eq_true h2
                subst this; omega
          · exact keep_mono (fun i hi => by simp [hi]) i
        have hsub : ∀ i o, hat V i = some o → hat (A (setOf listed)) i = some o := by
          intro i o e
          have hi : i < s j := hVl ▸ hat_lt e
          rw [← hV, mask_hat] at e
          split at e
          · rename_i hk
            refine (hAh _ _ _).2 ⟨keep_mono (fun i hi => hpre i hi) i hk, ?_⟩
            rw [hhat (Nat.le_of_lt hjN) hN1 hno i hi]; exact e
          · cases e
        have hm' : H.length ≤ s j := by rw [← hs0]; exact hmono (Nat.zero_le _) (Nat.le_of_lt hjn)
        have hrelV := rel_part h hf hpost.ext hm' hpost.rel hsub hsp2 hVl
        have hfV : Fresh (cut (s j) ρ') V := fun i hi => by
          unfold cut
          rw [if_neg]
          simp [Loc.low]; omega
        -- whose number it is
        have hdisj : ∀ i, s j ≤ i → i < s (j + 1) → keepS s ops.length (setOf listed) i = false := by
          intro i h1 h2
          cases hk : keepS s ops.length (setOf listed) i with
          | false => rfl
          | true =>
            exfalso
            rcases keepS_iff.1 hk with h3 | ⟨k, h3, h4, h5, h6⟩
            · have := hmono (Nat.zero_le j) (Nat.le_of_lt hjn); omega
            · rcases Nat.lt_trichotomy k j with hlt | rfl | hlt
              · have := hmono (show k + 1 ≤ j by omega) (Nat.le_of_lt hjn); omega
              · rw [hSj] at h4; cases h4
              · have := hmono (show j + 1 ≤ k by omega) (Nat.le_of_lt h3); omega
        have hAA : ∀ i o, hat (A S') i = some o ↔ hat (A (setOf listed)) i = some o ∨ (s j ≤ i ∧ hat V' i = some o) := by
          intro i o
          rw [hAh, hAh, ← hV', mask_hat, ← hNS]
          constructor
          · rintro ⟨hk, ho⟩
            rcases keepS_iff.1 hk with h1 | ⟨k, h1, h2, h3, h4⟩
            · exact .inl ⟨keepS_iff.2 (.inl h1), ho⟩
            · by_cases hkj : k = j
              · subst hkj
                refine .inr ⟨h3, ?_⟩
                rw [if_pos (keepS_iff.2 (.inr ⟨k, h1, by simp, h3, h4⟩)), ← hhat (show k + 1 ≤ N S' by omega) (by rw [hNS]; exact hN1) (fun q h1 h2 => hno q (by omega) (by rw [← hNS]; exact h2)) i h4]
                exact ho
              · exact .inl ⟨keepS_iff.2 (.inr ⟨k, h1, by rw [← hS'n k hkj]; exact h2, h3, h4⟩), ho⟩
          · rintro (⟨hk, ho⟩ | ⟨h1, ho⟩)
            · exact ⟨keep_mono hSS' i hk, ho⟩
            · split at ho
              · have hi : i < s (j + 1) := by rw [← hs']; exact hat_lt ho
                refine ⟨keepS_iff.2 (.inr ⟨j, hjn, hS'j, h1, hi⟩), ?_⟩
                rw [hhat (show j + 1 ≤ N S' by omega) (by rw [hNS]; exact hN1) (fun q h1 h2 => hno q (by omega) (by rw [← hNS]; exact h2)) i hi]; exact ho
              · cases ho
        refine stepV_sound hc hrelV hfV henv.cut hoj hgo ?_
        intro x w2 ρ2 hv hp2
        have hkeep : V'.take (s j) = V := by
          rw [← hV, ← hV']
          apply List.ext_getElem?
          intro i
          rw [List.getElem?_take, mask_get, mask_get]
          split
          · rename_i hi
            rw [hget (Nat.le_succ j) (by omega) (fun q h1 h2 => (show q = j by omega) ▸ hsj) i hi, Nat.zero_add, hkeepB i hi]
          · rename_i hi
            rw [List.getElem?_eq_none (show (hp j).length ≤ i by rw [hs']; omega)]; rfl
        obtain ⟨hp3, he1, he2⟩ := post_part h hf hm' hpost hsub hsp2 hVl hp2 hkeep (fun i h1 h2 => by
            rw [hVl'] at h2
            cases hq : ρ' (.own i) with
            | none => rfl
            | some p =>
              have := hinv i p (by have := hmono (Nat.zero_le j) (Nat.le_of_lt hjn); omega) hq
              rw [hdisj i h1 h2] at this; cases this) hAA (by rw [hAl, hAl, hNS]) (by rw [hVl', hAl]; exact hmono (by omega) hN1)
        refine ih (listed.setIfInBounds j true) (joinP (s j) V'.length ρ' ρ2) (a'.put (opsOf ops j).dst x) w2 (by simpa using hls) ?_ ?_ ?_ ?_ ?_ ?_
        · rw [hset]
          have := toCome_step hSj hS'j (fun i hi => (hS'n i hi).symm) hjn
          omega
        · rw [hset]
          intro k hk hSk i hi
          by_cases hij : i = j
          · rw [hij]; exact hS'j
          · rw [hS'n i hij]
            by_cases hkj : k = j
            · subst hkj; exact hpre i (by rw [← hB']; exact hi)
            · exact hclosed k hk (by rw [← hS'n k hkj]; exact hSk) i hi
        · rw [← hdf]; cases (opsOf ops j).dst <;> rfl
        · rw [hset]; exact hp3
        · rw [hset]; exact EnvR.congr (by rw [hdst']; exact (henv.mono he1).put _ (fun u hu => (hv u hu).mono he2)) henv'
        · rw [hset]
          intro i p h1 hq
          simp only [joinP] at hq
          split at hq
          · rename_i hi
            rw [hVl'] at hi
            exact keepS_iff.2 (.inr ⟨j, hjn, hS'j, hi.1, hi.2⟩)
          · exact keep_mono hSS' i (hinv i p h1 hq)
  refine wp_region_any hm ?_
  have hS0 : ∀ i, setOf (Array.replicate ops.length false) i = false := fun i => by
    simp only [setOf, Array.getD_eq_getD_getElem?, Array.getElem?_replicate]
    split <;> rfl
  have hE0 : ∀ k, envK dst vals (setOf (Array.replicate ops.length false)) env k = env := by
    intro k
    induction k with
    | zero => rfl
    | succ k ihk => simp only [envK, hS0]; simpa using ihk
  have hT0 : ∀ k, toCome (setOf (Array.replicate ops.length false)) k = k := by
    intro k
    induction k with
    | zero => rfl
    | succ k ihk => simp only [toCome, hS0]; simp [ihk]
  have hno0 : ∀ q, 0 ≤ q → q < N (setOf (Array.replicate ops.length false)) → sd q = false := fun q _ h2 => by
    cases hq : sd q with
    | false => rfl
    | true =>
      have := (hNs _).2.1 q h2 hq
      rw [hS0] at this; cases this
  refine main ops.length (Array.replicate ops.length false) ρ a _ (by simp) (hT0 _) (fun j _ hj => by rw [hS0] at hj; cases hj) rfl ?_ ?_ ?_
  · refine post_same (post_drew h) (fun i o => ?_) ?_
    · rw [hAh]
      constructor
      · rintro ⟨hk, ho⟩
        rcases keepS_iff.1 hk with h1 | ⟨k, _, h2, _⟩
        · rw [hhat (Nat.zero_le _) (hNs _).1 hno0 i h1, hp0] at ho; exact ho
        · rw [hS0] at h2; cases h2
      · intro ho
        have hi : i < s 0 := by rw [hs0]; exact hat_lt ho
        exact ⟨keepS_iff.2 (.inl hi), by rw [hhat (Nat.zero_le _) (hNs _).1 hno0 i hi, hp0]; exact ho⟩
    · rw [hAl, ← hs0]; exact hmono (Nat.zero_le _) (hNs _).1
  · rw [hE0]; exact he
  · intro i p h1 hq
    rw [hf i (by omega)] at hq; cases hq

/-- what a region that draws its order does -/
def drawRunM : DrawOk := fun c call ops env H => (trace c call ops ops env H).bind fun t => if regOk ops (moves ops H t) (still c call ops env H t) || (mixOk c call ops env H t || subOk c call ops env H t) then some (endOf ops t env H) else none

theorem drawM_sound (hm : c.P.follows .mixedOrders = true) (call : Callee) (hc : CallOK c base w0 call) : DrawOKs c base w0 drawRunM call := by
  intro id ops env env' H H' e ρ w a h hf he
  simp only [drawRunM, Option.bind_eq_some_iff] at e
  obtain ⟨t, ht, e⟩ := e
  split at e
  · rename_i hok
    simp only [Bool.or_eq_true] at hok
    rcases hok with hok | hok | hok
    · refine order_sound hm call hc id ops env env' H H' ?_ ?_ ρ w a h hf he
      · simp only [drawOk, ht]; exact hok
      · rw [endOf_steps ht]; exact e
    · simp only [Option.some.injEq] at e
      exact mix_sound hm call hc id ops env env' H H' t ht hok e ρ w a h hf he
    · simp only [Option.some.injEq] at e
      exact sub_sound hm call hc id ops env env' H H' t ht hok e ρ w a h hf he
  · cases e

end Go.AM

/-
  REGIONS THAT DRAW THEIR ORDER, the general check (own work): each set of those operations that may have been run is tried; new things bear the number that the text's order gives them.
-/
namespace Go.AM
open Go.RowKit
set_option linter.unusedSimpArgs false

variable {c : Ctx} {base : Nat} {w0 w : World} {ρ : Pl} {H : AHeap}

theorem post_part2 {V V' A A' : AHeap} {m : Nat} {ρ0 ρ' : Pl} {w1 w' : World} (hm : H.length ≤ m) (hp0 : Post c base w0 ρ0 H w ρ A w1) (hV : ∀ i, i < m → hat V i = hat A i) (hlen : V.length = m)
    (hp : Post c base w0 (cut m ρ) V w1 ρ' V' w') (hnone : ∀ i, m ≤ i → i < V'.length → ρ (.own i) = none)
    (hA : ∀ i o, hat A' i = some o ↔ (i < V'.length ∧ hat V' i = some o) ∨ (V'.length ≤ i ∧ hat A i = some o)) (hAl : A.length ≤ A'.length) (hVl : V'.length ≤ A'.length) :
    Post c base w0 ρ0 H w (joinP m V'.length ρ ρ') A' w' ∧ Ext ρ (joinP m V'.length ρ ρ') ∧ Ext ρ' (joinP m V'.length ρ ρ') := by
  have h := hp0.rel
  have hVm : m ≤ V'.length := hlen ▸ hp.len
  have he : Ext ρ (joinP m V'.length ρ ρ') := by
    intro l p e
    cases l with
    | own i =>
      simp only [joinP]
      split
      · rename_i hi; rw [hnone i hi.1 hi.2] at e; cases e
      · exact e
    | ext _ => exact e
  have he' : Ext ρ' (joinP m V'.length ρ ρ') := by
    intro l p e
    rcases hp.new l p e with e1 | ⟨i, rfl, h1, h2⟩
    · obtain ⟨e2, hl⟩ := cut_some e1
      exact he l p e2
    · simp only [joinP]
      rw [if_pos ⟨by omega, h2⟩]; exact e
  have hsub : ∀ {i o}, hat V i = some o → hat A i = some o := fun e => by
    rw [← hV _ (hlen ▸ hat_lt e)]; exact e
  -- what the step has seen
  have hin : ∀ {i o}, hat V' i = some o → ∃ p, ρ' (.own i) = some p ∧ joinP m V'.length ρ ρ' (.own i) = some p ∧ ObjR (joinP m V'.length ρ ρ') p w'.heap o ∧ (o.solid = true → base ≤ p.b) := by
    intro i o e
    obtain ⟨p, h1, h2, h3⟩ := hp.rel.own i o e
    exact ⟨p, h1, he' _ _ h1, h2.mono he' (fun _ => rfl), h3⟩
  -- what it has not
  have hout : ∀ {i o}, V'.length ≤ i → hat A i = some o → ∃ p, ρ (.own i) = some p ∧ ObjR (joinP m V'.length ρ ρ') p w'.heap o ∧ (o.solid = true → base ≤ p.b) := by
    intro i o hi e
    obtain ⟨p, hpi, ho, hs⟩ := h.own i o e
    refine ⟨p, hpi, ho.mono he (fun s => ?_), hs⟩
    refine hp.frame p.b (rel_lt h e hpi s) fun j o2 q e2 s2 r2 hqb => ?_
    have := h.inj j i o2 o q p (hsub e2) e s2 s (cut_some r2).1 hpi hqb
    have := hat_lt e2
    omega
  have hapart : ∀ {i o p j o' q}, hat V' i = some o → o.solid = true → ρ' (.own i) = some p → V'.length ≤ j → hat A j = some o' → o'.solid = true → ρ (.own j) = some q → p.b ≠ q.b := by
    intro i o p j o' q e s r hj e' s' r' hpq
    rcases hp.place i o p e s r with hge | ⟨k, o2, q2, e2, s2, r2, hq⟩
    · have := rel_lt h e' r' s'; omega
    · have := h.inj k j o2 o' q2 q (hsub e2) e' s2 s' (cut_some r2).1 r' (hq.trans hpq)
      have := hat_lt e2
      omega
  refine ⟨⟨⟨hp.rel.below, hp.rel.size, ?_, ?_, ?_, ?_⟩, hp0.ext.trans he, ?_, Nat.le_trans hp0.len hAl, Nat.le_trans hp0.size hp.size, ?_, ?_⟩, he, he'⟩
  · intro i o e
    rcases (hA i o).1 e with ⟨_, e1⟩ | ⟨hi, e1⟩
    · obtain ⟨p, _, h1, h2, h3⟩ := hin e1
      exact ⟨p, h1, h2, h3⟩
    · obtain ⟨p, h1, h2, h3⟩ := hout hi e1
      exact ⟨p, he _ _ h1, h2, h3⟩
  · intro i j o o' p q e e' s s' r r' hpq
    rcases (hA i o).1 e with ⟨_, e1⟩ | ⟨hi, e1⟩ <;> rcases (hA j o').1 e' with ⟨_, e2⟩ | ⟨hj, e2⟩
    · obtain ⟨p1, h1, h2, _⟩ := hin e1
      obtain ⟨q1, h3, h4, _⟩ := hin e2
      rw [h2] at r; cases r
      rw [h4] at r'; cases r'
      exact hp.rel.inj i j o o' _ _ e1 e2 s s' h1 h3 hpq
    · obtain ⟨p1, h1, h2, _⟩ := hin e1
      obtain ⟨q1, h3, _⟩ := hout hj e2
      rw [h2] at r; cases r
      rw [he _ _ h3] at r'; cases r'
      exact absurd hpq (hapart e1 s h1 hj e2 s' h3)
    · obtain ⟨p1, h1, h2, _⟩ := hin e2
      obtain ⟨q1, h3, _⟩ := hout hi e1
      rw [h2] at r'; cases r'
      rw [he _ _ h3] at r; cases r
      exact absurd hpq.symm (hapart e2 s' h1 hi e1 s h3)
    · obtain ⟨p1, h1, _⟩ := hout hi e1
      obtain ⟨q1, h3, _⟩ := hout hj e2
      rw [he _ _ h1] at r; cases r
      rw [he _ _ h3] at r'; cases r'
      exact h.inj i j o o' _ _ e1 e2 s s' h1 h3 hpq
  · intro path cells hG
    obtain ⟨p, hp1, hp2, hp3⟩ := hp.rel.ext path cells hG
    refine ⟨p, he' _ _ hp1, hp2, fun j v hj => ?_⟩
    obtain ⟨x, hx1, hv, ho⟩ := hp3 j v hj
    exact ⟨x, hx1, hv.mono he', ho⟩
  · intro g; obtain ⟨n, hn⟩ := h.glob g; exact ⟨n, he _ _ hn⟩
  · intro l p e
    cases l with
    | own i =>
      simp only [joinP] at e
      split at e
      · rename_i hi; exact .inr ⟨i, rfl, by omega, by omega⟩
      · rcases hp0.new _ _ e with e1 | ⟨k, hk, h1, h2⟩
        · exact .inl e1
        · exact .inr ⟨k, hk, h1, by omega⟩
    | ext path =>
      rcases hp0.new _ _ e with e1 | ⟨k, hk, _⟩
      · exact .inl e1
      · cases hk
  · intro b hb hn
    rw [hp.frame b (Nat.lt_of_lt_of_le hb hp0.size) fun i o p e s r hpb => ?_, hp0.frame b hb hn]
    rcases hp0.place i o p (hsub e) s (cut_some r).1 with hge | ⟨j, o', q, e', s', r', hq⟩
    · omega
    · exact hn j o' q e' s' r' (hq.trans hpb)
  · intro i o p e s r
    rcases (hA i o).1 e with ⟨_, e1⟩ | ⟨hi, e1⟩
    · obtain ⟨q1, h2, h3, _⟩ := hin e1
      rw [h3] at r; cases r
      rcases hp.place i o _ e1 s h2 with hge | ⟨k, o2, q2, e2, s2, r2, hq⟩
      · exact .inl (Nat.le_trans hp0.size hge)
      · rcases hp0.place k o2 q2 (hsub e2) s2 (cut_some r2).1 with hge | ⟨j, o', q', e', s', r', hq'⟩
        · exact .inl (hq ▸ hge)
        · exact .inr ⟨j, o', q', e', s', r', hq'.trans hq⟩
    · obtain ⟨p1, h1, _⟩ := hout hi e1
      rw [he _ _ h1] at r; cases r
      exact hp0.place i o _ e1 s h1

/-! the check -/

def oneA (c : Ctx) (call : Callee) (ops : List Oper) (env : AEnv) (H : AHeap) (t : List (Option AV × AHeap)) (j : Nat) (K : AHeap) : AHeap :=
  match stepV c call ops (opsOf ops j) (lowEnv (heapsOf H t j).length (envK (fun i => (ops.getD i default).dst) (fun i => (t.getD i dft).1) (fun _ => true) env j)) (K.take (heapsOf H t j).length) with
  | some p => p.2 ++ K.drop p.2.length
  | none => K

def isSome2 (r : Option (Option AV × AHeap)) (v : Option AV) (n : Nat) (rest goal : AHeap) : Bool :=
  match r with
  | some (some u, K) => match v with
    | some v => AV.beq u v && (Nat.beq K.length n && heapEq (K ++ rest) goal)
    | none => false
  | _ => false

theorem isSome2_eq {r : Option (Option AV × AHeap)} {v : Option AV} {n : Nat} {rest goal : AHeap} (h : isSome2 r v n rest goal = true) : ∃ K, r = some (v, K) ∧ K.length = n ∧ K ++ rest = goal := by
  unfold isSome2 at h
  split at h
  · split at h
    · simp only [Bool.and_eq_true] at h
      rw [AV.beq_eq h.1]
      exact ⟨_, rfl, Nat.eq_of_beq_eq_true h.2.1, heapEq_eq h.2.2⟩
    · cases h
  · cases h

def anyOk (c : Ctx) (call : Callee) (ops : List Oper) (env : AEnv) (H : AHeap) (t : List (Option AV × AHeap)) : Bool :=
  let n := ops.length
  let s := fun k => (heapsOf H t k).length
  let mv := (List.range n).map fun i => (moves ops H t).getD i false
  let K0 := H ++ List.replicate (s n - H.length) none
  let G := fun l : List Bool => heapS (oneA c call ops env H t) (fun i => l.getD i false) K0 n
  Nat.ble (mv.filter id).length 5 && (edgesOk ops && (apartOk ops && ((List.range n).all (fun j => Nat.ble (s j) (s (j + 1))) && (
    heapEq (heapS (oneA c call ops env H t) (fun i => mv.getD i false) K0 n) (heapsOf H t n) &&
    (subsOf mv).all fun l => (List.range n).all fun j => l.getD j false || (!mayBe ops (Region.before ops.toArray) mv l j ||
      (Nat.beq (G l).length (s n) && (heapLow (s j) ((G l).take (s j)) &&
       isSome2 (stepV c call ops (opsOf ops j) (lowEnv (s j) (envK (fun i => (ops.getD i default).dst) (fun i => (t.getD i dft).1) (fun _ => true) env j)) ((G l).take (s j)))
        (t.getD j dft).1 (s (j + 1)) ((G l).drop (s (j + 1))) (heapS (oneA c call ops env H t) (fun i => if Nat.beq i j then mv.getD j false else l.getD i false) K0 n))))))))

theorem any_sound (hm : c.P.follows .mixedOrders = true) (call : Callee) (hc : CallOK c base w0 call) (id : Nat) (opsA : Array Oper) (env env' : AEnv) (H H' : AHeap) (t : List (Option AV × AHeap)) (ht : trace c call opsA.toList opsA.toList env H = some t)
    (hok : anyOk c call opsA.toList env H t = true) (hend : endOf opsA.toList t env H = (env', H'))
    (ρ : Pl) (w : World) (a : Act) (h : Rel c base w0 ρ H w) (hf : Fresh ρ H) (he : EnvR ρ env a.tmps) : (Code.region id opsA true).wp c.P (Behind c base w0 ρ H w a .normal env' H') a w := by
  obtain ⟨ops⟩ := opsA
  simp only at ht hok hend
  obtain ⟨_, _, f3⟩ := trace_facts ht
  have hst := endOf_steps ht
  rw [f3, Option.some.injEq] at hst
  have hheap := endOf_heap ht
  rw [hend] at hst hheap
  simp only [Prod.mk.injEq] at hst
  have hE := hst.1
  change H' = _ at hheap
  subst hE hheap
  simp only [anyOk, Bool.and_eq_true] at hok
  obtain ⟨_, hedge, hap, hmon, hfin, hall⟩ := hok
  have hfin := heapEq_eq hfin
  clear hst f3 hend
  generalize hmvl : (List.range ops.length).map (fun i => (moves ops H t).getD i false) = mv at *
  have hmvlen : mv.length = ops.length := by rw [← hmvl]; simp
  generalize hdst : (fun i => (ops.getD i default).dst) = dst at *
  generalize hvals : (fun i => (t.getD i dft).1) = vals at *
  have hdst' : ∀ i, dst i = (opsOf ops i).dst := fun i => by rw [← hdst]; rfl
  have hvals' : ∀ i, (t.getD i dft).1 = vals i := fun i => by rw [← hvals]
  generalize hfs : oneA c call ops env H t = fs at *
  generalize hhp : heapsOf H t = hp at *
  have hp0 : hp 0 = H := by rw [← hhp]; rfl
  generalize hs : (fun k => (hp k).length) = s at *
  have hs' : ∀ k, (hp k).length = s k := fun k => by rw [← hs]
  simp only [hs'] at hfin hall hmon
  have hs0 : s 0 = H.length := by rw [← hs', hp0]
  generalize hK0 : H ++ List.replicate (s ops.length - H.length) none = K0 at *
  have hmono1 : ∀ j, j < ops.length → s j ≤ s (j + 1) := fun j hj => by
    have := List.all_eq_true.1 hmon j (List.mem_range.2 hj)
    rwa [Nat.ble_eq] at this
  have hmono : ∀ {j k}, j ≤ k → k ≤ ops.length → s j ≤ s k := fun hjk hk => mono_of hmono1 hjk hk
  have hedge' : ∀ j, j < ops.length → ∀ e ∈ (opsOf ops j).after.toList, Region.binds .any e = true → e.on < j := by
    intro j hj e hej hb
    have := List.all_eq_true.1 (List.all_eq_true.1 hedge j (List.mem_range.2 hj)) e hej
    rw [hb] at this
    simpa using this
  have hap' : ∀ i j, i < j → j < ops.length → ((Region.before ops.toArray).getD j 0).testBit i = true ∨ Oper.apart ops.toArray (opsOf ops i) (opsOf ops j) = true := by
    intro i j hij hj
    have := List.all_eq_true.1 (List.all_eq_true.1 hap j (List.mem_range.2 hj)) i (List.mem_range.2 hij)
    simpa only [Bool.or_eq_true] using this
  have hchk : ∀ (S : Nat → Bool) (j : Nat), j < ops.length → S j = false → (∀ i, i < ops.length → mv.getD i false = true → (((Region.before ops.toArray).getD j 0).testBit i = true → S i = true) ∧ (((Region.before ops.toArray).getD i 0).testBit j = true → S i = false)) →
      (heapS fs (fun i => S i && mv.getD i false) K0 ops.length).length = s ops.length ∧ heapLow (s j) ((heapS fs (fun i => S i && mv.getD i false) K0 ops.length).take (s j)) = true ∧ ∃ V',
      stepV c call ops (opsOf ops j) (lowEnv (s j) (envK dst vals (fun _ => true) env j)) ((heapS fs (fun i => S i && mv.getD i false) K0 ops.length).take (s j)) = some (vals j, V') ∧ V'.length = s (j + 1) ∧
        V' ++ (heapS fs (fun i => S i && mv.getD i false) K0 ops.length).drop (s (j + 1)) = heapS fs (fun i => (if i = j then true else S i) && mv.getD i false) K0 ops.length := by
    intro S j hj hSj hS
    generalize hl : (List.range ops.length).map (fun i => S i && mv.getD i false) = l
    have hlg : ∀ i, i < ops.length → l.getD i false = (S i && mv.getD i false) := fun i hi => by rw [← hl]; simp [hi]
    have hmem : l ∈ subsOf mv := mem_subs (by rw [← hl, hmvlen]; simp) (fun i hi => by
      by_cases hil : i < ops.length
      · rw [hlg i hil] at hi; simp only [Bool.and_eq_true] at hi; exact hi.2
      · rw [← hl] at hi; simp [hil] at hi)
    have := List.all_eq_true.1 (List.all_eq_true.1 hall l hmem) j (List.mem_range.2 hj)
    simp only [Bool.or_eq_true, Bool.not_eq_true'] at this
    rcases this with h1 | h1 | h1
    · rw [hlg j hj, hSj] at h1; simp at h1
    · exfalso
      have h2 : mayBe ops (Region.before ops.toArray) mv l j = true := by
        simp only [mayBe, List.all_eq_true, List.mem_range, Bool.or_eq_true, Bool.and_eq_true, Bool.not_eq_true']
        intro i hi
        cases hmi : mv.getD i false with
        | false => exact .inl rfl
        | true =>
          obtain ⟨h3, h4⟩ := hS i hi hmi
          refine .inr ⟨?_, ?_⟩
          · cases hb : ((Region.before ops.toArray).getD j 0).testBit i with
            | false => exact .inl rfl
            | true => exact .inr (by rw [hlg i hi, h3 hb, hmi]; rfl)
          · cases hb : ((Region.before ops.toArray).getD i 0).testBit j with
            | false => exact .inl rfl
            | true => exact .inr (by rw [hlg i hi, h4 hb]; rfl)
      rw [h2] at h1; cases h1
    · simp only [Bool.and_eq_true] at h1
      obtain ⟨k1, k2, k3⟩ := h1
      obtain ⟨V', k4, k5, k6⟩ := isSome2_eq k3
      have hg : heapS fs (fun i => S i && mv.getD i false) K0 ops.length = heapS fs (fun i => l.getD i false) K0 ops.length := heapS_congr _ (fun i hi => (hlg i hi).symm)
      rw [hvals'] at k4
      rw [hg]
      refine ⟨Nat.eq_of_beq_eq_true k1, k2, V', k4, k5, k6.trans ?_⟩
      refine heapS_congr _ (fun i hi => ?_)
      by_cases hij : i = j
      · subst hij; simp
      · have : Nat.beq i j = false := by
          cases hq : Nat.beq i j with
          | false => rfl
          | true => exact absurd (Nat.eq_of_beq_eq_true hq) hij
        simp only [this, hij, if_false, hlg i hi]
        simp
  generalize hbf : Region.before ops.toArray = bf at *
  clear hall
  generalize hA : (fun S : Nat → Bool => heapS fs (fun i => S i && mv.getD i false) K0 ops.length) = A at *
  have hA' : ∀ S : Nat → Bool, heapS fs (fun i => S i && mv.getD i false) K0 ops.length = A S := fun S => by rw [← hA]
  simp only [hA'] at hchk
  have keep_mono : ∀ {S S' : Nat → Bool}, (∀ i, S i = true → S' i = true) → ∀ i, keepS s ops.length S i = true → keepS s ops.length S' i = true := by
    intro S S' hSS i hk
    rcases keepS_iff.1 hk with h1 | ⟨j, h1, h2, h3⟩
    · exact keepS_iff.2 (.inl h1)
    · exact keepS_iff.2 (.inr ⟨j, h1, hSS j h2, h3⟩)
  -- the heart: what holds when some have been run
  have main : ∀ (fuel : Nat) (listed : Array Bool) (ρ' : Pl) (a' : Act) (w' : World), listed.size = ops.length → toCome (setOf listed) ops.length = fuel →
      (∀ j, j < ops.length → setOf listed j = true → ∀ i, (bf.getD j 0).testBit i = true → setOf listed i = true) → a'.defers = a.defers →
      Post c base w0 ρ H w ρ' (A (setOf listed)) w' → EnvR ρ' (envK dst vals (setOf listed) env ops.length) a'.tmps → (∀ i p, s 0 ≤ i → ρ' (.own i) = some p → keepS s ops.length (setOf listed) i = true) →
      wpAny c.P .any ops.toArray (Behind c base w0 ρ H w a .normal (envK dst vals (fun _ => true) env ops.length) (hp ops.length)) fuel listed a' w' := by
    intro fuel
    induction fuel with
    | zero =>
      intro listed ρ' a' w' hls hcount hclosed hdf hpost henv hinv
      have hall := toCome_zero hcount
      have hE : EnvEq (envK dst vals (setOf listed) env ops.length) (envK dst vals (fun _ => true) env ops.length) :=
        ⟨by rw [envK_size, envK_size], fun t => envK_agree _ (fun i hi _ => hall i hi)⟩
      have hHH : A (setOf listed) = hp ops.length := by
        rw [← hfin, ← hA']
        exact heapS_congr _ (fun i hi => by rw [hall i hi]; rfl)
      refine ⟨?_, rfl, hdf, ρ', hHH ▸ hpost, henv.congr hE⟩
      rw [List.eq_nil_iff_forall_not_mem]
      intro i hi
      obtain ⟨hi1, hi2, _⟩ := (mem_ready hls).1 hi
      rw [hall i hi1] at hi2; cases hi2
    | succ fuel ih =>
      intro listed ρ' a' w' hls hcount hclosed hdf hpost henv hinv
      refine ⟨fun hnil => ?_, fun j hj => ?_⟩
      · -- none is ready, and not all are through: that cannot be
        exfalso
        have hall : ∀ k, k ≤ ops.length → ∀ i, i < k → setOf listed i = true := by
          intro k
          induction k with
          | zero => intro _ i hi; omega
          | succ k ihk =>
            intro hk i hi
            by_cases hik : i = k
            · subst hik
              cases hS : setOf listed i with
              | true => rfl
              | false =>
                have : i ∈ Region.ready .any ops.toArray listed := (mem_ready hls).2 ⟨by omega, hS, fun e hej hb => ihk (by omega) _ (hedge' i (by omega) e hej hb)⟩
                rw [hnil] at this; cases this
            · exact ihk (by omega) i (by omega)
        have hz : toCome (setOf listed) ops.length = 0 := by
          have : ∀ m, m ≤ ops.length → toCome (setOf listed) m = 0 := by
            intro m hm'
            induction m with
            | zero => rfl
            | succ m ihm => simp only [toCome]; rw [ihm (by omega), hall _ (Nat.le_refl _) m (by omega)]; rfl
          exact this _ (Nat.le_refl _)
        omega
      · obtain ⟨hjn, hSj, hready⟩ := (mem_ready hls).1 hj
        have hoj := opsOf_get hjn
        have hpre : ∀ i, (bf.getD j 0).testBit i = true → setOf listed i = true := by
          intro i hi
          rw [← hbf] at hi
          obtain ⟨e, hej, hb, hq⟩ := before_bits hoj (hedge' j hjn) hi
          rcases hq with rfl | hq
          · exact hready e hej hb
          · rw [hbf] at hq
            exact hclosed e.on (by have := hedge' j hjn e hej hb; omega) (hready e hej hb) i hq
        have hpr : ∀ i, i < ops.length → i ≠ j → setOf listed i = decide (i < j) ∨ Oper.apart ops.toArray (opsOf ops (min i j)) (opsOf ops (max i j)) = true := by
          intro i hi hij
          by_cases hlt : i < j
          · rcases hap' i j hlt hjn with hb | hb
            · exact .inl (by rw [hpre i hb]; simp [hlt])
            · exact .inr (by rw [Nat.min_eq_left (by omega), Nat.max_eq_right (by omega)]; exact hb)
          · rcases hap' j i (by omega) hi with hb | hb
            · refine .inl ?_
              cases hS : setOf listed i with
              | false => simp; omega
              | true =>
                have := hclosed i hi hS j hb
                rw [hSj] at this; cases this
            · exact .inr (by rw [Nat.min_eq_right (by omega), Nat.max_eq_left (by omega)]; exact hb)
        have hreads : ∀ t ∈ (opsOf ops j).looksAt ops.toArray, eget (envK dst vals (setOf listed) env ops.length) t = eget (envK dst vals (fun _ => true) env j) t := by
          intro t ht'
          rw [← envK_upto j ops.length (by omega)]
          refine envK_agree _ (fun i hi hd => ?_)
          by_cases hij : i = j
          · subst hij; rw [hSj]; simp
          · rcases hpr i hi hij with hp | hap
            · exact hp
            · exfalso
              rw [hdst'] at hd
              by_cases hlt : i < j
              · rw [Nat.min_eq_left (by omega), Nat.max_eq_right (by omega)] at hap
                exact (Oper.apart_spec hap).1 t hd ht'
              · rw [Nat.min_eq_right (by omega), Nat.max_eq_left (by omega)] at hap
                exact (Oper.apart_spec hap).2.2 t hd ht'
        have hreads2 : ∀ t ∈ (opsOf ops j).looksAt ops.toArray, eget (lowEnv (s j) (envK dst vals (setOf listed) env ops.length)) t = eget (lowEnv (s j) (envK dst vals (fun _ => true) env j)) t := fun t ht' => by
          rw [lowEnv_get, lowEnv_get, hreads t ht']
        have hw : awanted ops (lowEnv (s j) (envK dst vals (setOf listed) env ops.length)) (opsOf ops j) = awanted ops (lowEnv (s j) (envK dst vals (fun _ => true) env j)) (opsOf ops j) := awanted_reads hreads2
        have hop : ∀ K, aop c (lowEnv (s j) (envK dst vals (setOf listed) env ops.length)) (opsOf ops j).op K = aop c (lowEnv (s j) (envK dst vals (fun _ => true) env j)) (opsOf ops j).op K := fun K => aop_congr (aval_reads hreads2) K
        generalize hS' : (fun i => if i = j then true else setOf listed i) = S' at *
        have hS'j : S' j = true := by rw [← hS']; simp
        have hS'n : ∀ i, i ≠ j → S' i = setOf listed i := fun i hi => by rw [← hS']; simp [hi]
        have hset : setOf (listed.setIfInBounds j true) = S' := by
          funext i
          simp only [setOf, Array.getD_eq_getD_getElem?, Array.getElem?_setIfInBounds]
          by_cases hij : j = i
          · subst hij
            rw [if_pos rfl, if_pos (by omega), hS'j]; rfl
          · rw [if_neg hij, hS'n i (Ne.symm hij)]
            simp [setOf, Array.getD_eq_getD_getElem?]
        have hSS' : ∀ i, setOf listed i = true → S' i = true := fun i hi => by
          by_cases hij : i = j
          · rw [hij]; exact hS'j
          · rw [hS'n i hij]; exact hi
        have henv' : EnvEq (eput (envK dst vals (setOf listed) env ops.length) (dst j) (vals j)) (envK dst vals S' env ops.length) := by
          refine ⟨by rw [eput_size, envK_size, envK_size], fun t => ?_⟩
          by_cases hdt : dst j = some t
          · have := envK_last (vals := vals) (env := env) hdt hS'j ops.length hjn (fun i h1 h2 hd => by
              rw [hS'n i (by omega)]
              rcases hpr i h2 (by omega) with hp | hap
              · rw [hp]; simp; omega
              · exfalso
                rw [Nat.min_eq_right (by omega), Nat.max_eq_left (by omega)] at hap
                rw [hdst'] at hd hdt
                exact (Oper.apart_spec hap).2.1 t hdt hd)
            rw [this, hdt]
            exact eput_eq (by rw [envK_size, envK_size])
          · rw [eput_ne hdt]
            refine envK_agree _ (fun i hi hd => ?_)
            exact (hS'n i (fun hij => hdt (by rw [← hij]; exact hd))).symm
        -- whose number it is
        have hdisj : ∀ i, s j ≤ i → i < s (j + 1) → keepS s ops.length (setOf listed) i = false := by
          intro i h1 h2
          cases hk : keepS s ops.length (setOf listed) i with
          | false => rfl
          | true =>
            exfalso
            rcases keepS_iff.1 hk with h3 | ⟨k, h3, h4, h5, h6⟩
            · have := hmono (Nat.zero_le j) (Nat.le_of_lt hjn); omega
            · rcases Nat.lt_trichotomy k j with hlt | rfl | hlt
              · have := hmono (show k + 1 ≤ j by omega) (Nat.le_of_lt hjn); omega
              · rw [hSj] at h4; cases h4
              · have := hmono (show j + 1 ≤ k by omega) (Nat.le_of_lt h3); omega
        obtain ⟨hlen, hlow, V', hsp3, hVl', hAA⟩ := hchk (setOf listed) j hjn hSj (fun i hi hmi => ⟨fun hb => hpre i hb, fun hb => by
          cases hS : setOf listed i with
          | false => rfl
          | true =>
            have := hclosed i hi hS j hb
            rw [hSj] at this; cases this⟩)
        rw [hS'] at hAA
        generalize hAn : A (setOf listed) = An at *
        have hsn : s (j + 1) ≤ s ops.length := hmono (by omega) (Nat.le_refl _)
        have hsj : s j ≤ s (j + 1) := hmono1 j hjn
        have hVl : (An.take (s j)).length = s j := by rw [List.length_take]; omega
        have hVh : ∀ i, i < s j → hat (An.take (s j)) i = hat An i := fun i hi => by
          unfold hat; rw [List.getElem?_take, if_pos hi]
        have hgo : stepV c call ops (opsOf ops j) (lowEnv (s j) (envK dst vals (setOf listed) env ops.length)) (An.take (s j)) = some (vals j, V') := by
          rw [← hsp3]
          simp only [stepV, hw, hop]
        have hm' : H.length ≤ s j := by rw [← hs0]; exact hmono (Nat.zero_le _) (Nat.le_of_lt hjn)
        have hrelV := rel_part h hf hpost.ext hm' hpost.rel (fun i o e => by rw [← hVh i (hVl ▸ hat_lt e)]; exact e) hlow hVl
        have hfV : Fresh (AM.cut (s j) ρ') (An.take (s j)) := fun i hi => by
          unfold AM.cut
          rw [if_neg]
          simp [Loc.low]; omega
        refine stepV_sound hc hrelV hfV henv.cut hoj hgo ?_
        intro x w2 ρ2 hv hp2
        obtain ⟨hp3, he1, he2⟩ := post_part2 (A' := A S') hm' hpost hVh hVl hp2 (fun i h1 h2 => by
            rw [hVl'] at h2
            cases hq : ρ' (.own i) with
            | none => rfl
            | some p =>
              have := hinv i p (by have := hmono (Nat.zero_le j) (Nat.le_of_lt hjn); omega) hq
              rw [hdisj i h1 h2] at this; cases this) (fun i o => by
            rw [← hAA]
            unfold hat
            rcases Nat.lt_or_ge i V'.length with hi | hi
            · rw [List.getElem?_append_left hi]
              constructor
              · exact fun e => .inl ⟨hi, e⟩
              · rintro (⟨_, e⟩ | ⟨h1, _⟩)
                · exact e
                · omega
            · rw [List.getElem?_append_right hi, List.getElem?_drop, ← hVl', show V'.length + (i - V'.length) = i by omega]
              constructor
              · exact fun e => .inr ⟨hi, e⟩
              · rintro (⟨h1, _⟩ | ⟨_, e⟩)
                · omega
                · exact e) (by rw [← hAA, List.length_append, List.length_drop]; omega) (by rw [← hAA, List.length_append]; omega)
        refine ih (listed.setIfInBounds j true) (joinP (s j) V'.length ρ' ρ2) (a'.put (opsOf ops j).dst x) w2 (by simpa using hls) ?_ ?_ ?_ ?_ ?_ ?_
        · rw [hset]
          have := toCome_step hSj hS'j (fun i hi => (hS'n i hi).symm) hjn
          omega
        · rw [hset]
          intro k hk hSk i hi
          by_cases hij : i = j
          · rw [hij]; exact hS'j
          · rw [hS'n i hij]
            by_cases hkj : k = j
            · subst hkj; exact hpre i hi
            · exact hclosed k hk (by rw [← hS'n k hkj]; exact hSk) i hi
        · rw [← hdf]; cases (opsOf ops j).dst <;> rfl
        · rw [hset]; exact hp3
        · rw [hset]; exact EnvR.congr (by rw [hdst']; exact (henv.mono he1).put _ (fun u hu => (hv u hu).mono he2)) henv'
        · rw [hset]
          intro i p h1 hq
          simp only [joinP] at hq
          split at hq
          · rename_i hi
            rw [hVl'] at hi
            exact keepS_iff.2 (.inr ⟨j, hjn, hS'j, hi.1, hi.2⟩)
          · exact keep_mono hSS' i (hinv i p h1 hq)
  refine wp_region_any hm ?_
  have hS0 : ∀ i, setOf (Array.replicate ops.length false) i = false := fun i => by
    simp only [setOf, Array.getD_eq_getD_getElem?, Array.getElem?_replicate]
    split <;> rfl
  have hE0 : ∀ k, envK dst vals (setOf (Array.replicate ops.length false)) env k = env := by
    intro k
    induction k with
    | zero => rfl
    | succ k ihk => simp only [envK, hS0]; simpa using ihk
  have hT0 : ∀ k, toCome (setOf (Array.replicate ops.length false)) k = k := by
    intro k
    induction k with
    | zero => rfl
    | succ k ihk => simp only [toCome, hS0]; simp [ihk]
  refine main ops.length (Array.replicate ops.length false) ρ a _ (by simp) (hT0 _) (fun j _ hj => by rw [hS0] at hj; cases hj) rfl ?_ ?_ ?_
  · have hAe : A (setOf (Array.replicate ops.length false)) = K0 := by
      rw [← hA']
      exact heapS_none _ (fun i hi => by rw [hS0]; rfl)
    rw [hAe]
    refine post_same (post_drew h) (fun i o => ?_) (by rw [← hK0, List.length_append]; omega)
    rw [← hK0]
    unfold hat
    rcases Nat.lt_or_ge i H.length with hi | hi
    · rw [List.getElem?_append_left hi]
    · have h1 : (List.replicate (s ops.length - H.length) (none : Option AObj))[i - H.length]? = none ∨ (List.replicate (s ops.length - H.length) (none : Option AObj))[i - H.length]? = some none := by
        rw [List.getElem?_replicate]
        by_cases hq : i - H.length < s ops.length - H.length
        · rw [if_pos hq]; exact .inr rfl
        · rw [if_neg hq]; exact .inl rfl
      rw [List.getElem?_append_right hi, List.getElem?_eq_none hi]
      rcases h1 with h1 | h1 <;> rw [h1]
  · rw [hE0]; exact he
  · intro i p h1 hq
    rw [hf i (by omega)] at hq; cases hq

/-- what a region that draws its order does -/
def drawRunA : DrawOk := fun c call ops env H => (trace c call ops ops env H).bind fun t => if regOk ops (moves ops H t) (still c call ops env H t) || (mixOk c call ops env H t || (subOk c call ops env H t || anyOk c call ops env H t)) then some (endOf ops t env H) else none

theorem drawA_sound (hm : c.P.follows .mixedOrders = true) (call : Callee) (hc : CallOK c base w0 call) : DrawOKs c base w0 drawRunA call := by
  intro id ops env env' H H' e ρ w a h hf he
  simp only [drawRunA, Option.bind_eq_some_iff] at e
  obtain ⟨t, ht, e⟩ := e
  split at e
  · rename_i hok
    simp only [Bool.or_eq_true] at hok
    rcases hok with hok | hok | hok | hok
    · refine order_sound hm call hc id ops env env' H H' ?_ ?_ ρ w a h hf he
      · simp only [drawOk, ht]; exact hok
      · rw [endOf_steps ht]; exact e
    · simp only [Option.some.injEq] at e
      exact mix_sound hm call hc id ops env env' H H' t ht hok e ρ w a h hf he
    · simp only [Option.some.injEq] at e
      exact sub_sound hm call hc id ops env env' H H' t ht hok e ρ w a h hf he
    · simp only [Option.some.injEq] at e
      exact any_sound hm call hc id ops env env' H H' t ht hok e ρ w a h hf he
  · cases e

end Go.AM

/-
  FROM THE ABSTRACT MACHINE TO A LAW'S ROW (own work): a law without arguments, run by the kernel.
-/
namespace Go.AM
open Go.RowKit

def noPrims : Prims := fun _ => none
def noArgs (P : Program) : Ctx := { P, G := fun _ => none }

/-- where nothing of one's own lies yet -/
def pl0 : Pl := fun l => match l with
  | .ext [0, g] => some ⟨g, 0, 0⟩
  | _ => none

theorem prims_none (c : Ctx) (base : Nat) (w0 : World) : PrimsOK c base w0 noPrims := fun _ _ h => by cases h

theorem rel0 (P : Program) (w : World) : Rel (noArgs P) w.heap.size w pl0 [] w where
  below := Below.refl _ _
  size := Nat.le_refl _
  own := fun i o h => by simp [hat] at h
  inj := fun i j o o' p q h => by simp [hat] at h
  ext := fun path cells h => by cases h
  glob := fun g => ⟨0, rfl⟩

theorem fresh0 : Fresh pl0 [] := fun _ _ => rfl

def isTrue : Option (AV × AHeap) → Bool
  | some (.bool b, _) => b
  | _ => false

theorem isTrue_some {r : Option (AV × AHeap)} (h : isTrue r = true) : ∃ H, r = some (.bool true, H) := by
  unfold isTrue at h
  split at h
  · subst h; exact ⟨_, rfl⟩
  · cases h

/-- A LAW WITHOUT ARGUMENTS that the machine runs to 'true'. -/
theorem known {P : Program} {f : FuncId} {k : Nat} (hm : P.follows .mixedOrders = true) (h : isTrue (acall (noArgs P) drawRunA gcCall noPrims k f [] []) = true) (w : World) :
    Calls P f #[] w fun e w' => e = .returned (.bool true) ∧ Below w.heap.size w w' := by
  obtain ⟨H, hH⟩ := isTrue_some h
  have := calls_sound (c := noArgs P) (base := w.heap.size) (w0 := w) (dr := drawRunA) (gc := gcCall) (prims_none _ _ _) (fun call hc => drawA_sound hm call hc) (fun call hc => gc_sound hc) k f [] [] (.bool true) H hH pl0 w [] (rel0 P w) fresh0 rfl
  refine this.mono ?_
  rintro e w' ⟨ρ', x, rfl, hv, hp⟩
  simp only [VR] at hv
  subst hv
  exact ⟨rfl, hp.rel.below⟩

def orPrims (p q : Prims) : Prims := fun f => match p f with
  | some g => some g
  | none => q f

theorem orPrims_ok {c : Ctx} {base : Nat} {w0 : World} {p q : Prims} (hp : PrimsOK c base w0 p) (hq : PrimsOK c base w0 q) : PrimsOK c base w0 (orPrims p q) := by
  intro f g e
  unfold orPrims at e
  split at e
  · rename_i g' hg
    cases e
    exact hp f g hg
  · exact hq f g e

/-- the same, where some functions are known otherwise -/
theorem knownP {P : Program} {pr : Prims} (hp : ∀ base w0, PrimsOK (noArgs P) base w0 pr) {f : FuncId} {k : Nat} (hm : P.follows .mixedOrders = true) (h : isTrue (acall (noArgs P) drawRunA gcCall pr k f [] []) = true) (w : World) :
    Calls P f #[] w fun e w' => e = .returned (.bool true) ∧ Below w.heap.size w w' := by
  obtain ⟨H, hH⟩ := isTrue_some h
  have := calls_sound (c := noArgs P) (base := w.heap.size) (w0 := w) (dr := drawRunA) (gc := gcCall) (hp _ _) (fun call hc => drawA_sound hm call hc) (fun call hc => gc_sound hc) k f [] [] (.bool true) H hH pl0 w [] (rel0 P w) fresh0 rfl
  refine this.mono ?_
  rintro e w' ⟨ρ', x, rfl, hv, hp⟩
  simp only [VR] at hv
  subst hv
  exact ⟨rfl, hp.rel.below⟩

end Go.AM

/-
  REGIONS THAT DRAW THEIR ORDER, THE PLAIN ONES (own work): where the text alone tells that whatever may turn the heap is ordered against whatever looks at it, the text's order is run, and no more.
-/
namespace Go.AM
open Go.RowKit

variable {c : Ctx} {base : Nat} {w0 w : World} {ρ : Pl} {H : AHeap}

def staticOk (ops : List Oper) : Bool :=
  edgesOk ops && (apartOk ops && (List.range ops.length).all fun i => quiet (opsOf ops i).op || (List.range ops.length).all fun j => Nat.beq i j || (inOrder (Region.before ops.toArray) i j || isP (opsOf ops j).op))

theorem moves_quiet : ∀ (ops : List Oper) (H : AHeap) (t : List (Option AV × AHeap)) (i : Nat), quiet (opsOf ops i).op = true → (moves ops H t).getD i false = false
  | [], H, t, i, h => by cases t <;> simp [moves]
  | o :: r, H, [], i, h => by simp [moves]
  | o :: r, H, p :: t, 0, h => by
    have h' : quiet o.op = true := h
    simp [moves, mvOf, h']
  | o :: r, H, p :: t, i + 1, h => by
    have h' : quiet (opsOf r i).op = true := by simpa [opsOf] using h
    simpa [moves] using moves_quiet r p.2 t i h'

theorem isP_quiet {o : Op} (h : isP o = true) : quiet o = true := by cases o <;> simp_all [isP, quiet]

theorem static_reg {call : Callee} {ops : List Oper} {env : AEnv} {t : List (Option AV × AHeap)} (h : staticOk ops = true) : regOk ops (moves ops H t) (still c call ops env H t) = true := by
  simp only [staticOk, Bool.and_eq_true] at h
  obtain ⟨h1, h2, h3⟩ := h
  simp only [regOk, Bool.and_eq_true]
  refine ⟨h1, h2, List.all_eq_true.2 fun i hi => ?_⟩
  have hi' := List.all_eq_true.1 h3 i hi
  simp only [Bool.or_eq_true] at hi' ⊢
  rcases hi' with hq | ha
  · exact .inl (by rw [moves_quiet ops H t i hq]; rfl)
  · refine .inr (List.all_eq_true.2 fun j hj => ?_)
    have hj' := List.all_eq_true.1 ha j hj
    simp only [Bool.or_eq_true] at hj' ⊢
    rcases hj' with e | e | e
    · exact .inl e
    · exact .inr (.inl e)
    · refine .inr (.inr ?_)
      simp only [still, moves_quiet ops H t j (isP_quiet e), e, Bool.not_false, Bool.true_or, Bool.true_and]

theorem trace_of_steps {call : Callee} {ops : List Oper} : ∀ {r : List Oper} {env env' : AEnv} {H H' : AHeap}, asteps c call ops r env H = some (env', H') → ∃ t, trace c call ops r env H = some t
  | [], env, env', H, H', e => ⟨[], rfl⟩
  | o :: r, env, env', H, H', e => by
    simp only [asteps, astep_stepV, Option.bind_eq_some_iff] at e
    obtain ⟨⟨env1, H1⟩, h1, h2⟩ := e
    simp only [Option.map_eq_some_iff] at h1
    obtain ⟨p, hp, hq⟩ := h1
    cases hq
    obtain ⟨t, ht⟩ := trace_of_steps h2
    exact ⟨p :: t, by simp only [trace, hp, Option.bind_some, ht]⟩

def drawRunB : DrawOk := fun c call ops env H => match staticOk ops with
  | true => asteps c call ops ops env H
  | false => drawRunA c call ops env H

theorem drawB_sound (hm : c.P.follows .mixedOrders = true) (call : Callee) (hc : CallOK c base w0 call) : DrawOKs c base w0 drawRunB call := by
  intro id ops env env' H H' e ρ w a h hf he
  simp only [drawRunB] at e
  split at e
  · rename_i hs
    refine order_sound hm call hc id ops env env' H H' ?_ e ρ w a h hf he
    obtain ⟨t, ht⟩ := trace_of_steps e
    simp only [drawOk, ht]
    exact static_reg hs
  · exact drawA_sound hm call hc id ops env env' H H' e ρ w a h hf he
end Go.AM

/-
  THE ABSTRACT MACHINE WITH ARGUMENTS (own work): what a function tells at one point ('Pt'), what code does from one state ('D'), rules for each form of code, loops by an invariant, calls by what is known of the functions called.
-/
namespace Go.AM
open Go.RowKit
set_option linter.unusedSimpArgs false
set_option linter.unusedVariables false

/-- where a proof stands -/
structure Kn where
  c : Ctx
  base : Nat
  w0 : World
  mixed : c.P.follows .mixedOrders = true

variable {κ : Kn}

/-- what a function tells at one point -/
def Pt (κ : Kn) (f : FuncId) (args : List AV) (H : AHeap) (v : AV) (H' : AHeap) : Prop :=
  ∀ ρ w xs, Rel κ.c κ.base κ.w0 ρ H w → Fresh ρ H → VRs ρ args xs →
    Calls κ.c.P f xs.toArray w fun e w' => ∃ ρ' x, e = .returned x ∧ VR ρ' v x ∧ Post κ.c κ.base κ.w0 ρ H w ρ' H' w'

abbrev Spec := List AV → AHeap → AV → AHeap → Prop

open Classical in
noncomputable def callT (κ : Kn) (T : FuncId → Spec) : Callee := fun f args H =>
  if h : ∃ r : AV × AHeap, Pt κ f args H r.1 r.2 ∧ T f args H r.1 r.2 then some (Classical.choose h) else none

theorem callT_spec {T : FuncId → Spec} {f : FuncId} {args : List AV} {H H' : AHeap} {v : AV} (e : callT κ T f args H = some (v, H')) : Pt κ f args H v H' ∧ T f args H v H' := by
  unfold callT at e
  split at e
  · rename_i h
    have hc := Classical.choose_spec h
    rw [Option.some.injEq] at e
    rw [e] at hc
    exact hc
  · cases e

theorem callT_ok (T : FuncId → Spec) : CallOK κ.c κ.base κ.w0 (callT κ T) := fun _ _ _ _ _ e => (callT_spec e).1

theorem callT_run {T : FuncId → Spec} {f : FuncId} {args : List AV} {H : AHeap} (h : ∃ v H', Pt κ f args H v H' ∧ T f args H v H') : ∃ v H', callT κ T f args H = some (v, H') ∧ T f args H v H' := by
  obtain ⟨v, H', h1, h2⟩ := h
  have hx : ∃ r : AV × AHeap, Pt κ f args H r.1 r.2 ∧ T f args H r.1 r.2 := ⟨(v, H'), h1, h2⟩
  refine ⟨(Classical.choose hx).1, (Classical.choose hx).2, ?_, (Classical.choose_spec hx).2⟩
  unfold callT
  rw [dif_pos hx]

/-- the specs of the functions called, by their numbers -/
def tab (l : List (FuncId × Spec)) : FuncId → Spec := fun f args H v H' => ∀ s ∈ l, s.1 = f → s.2 args H v H'

theorem tab_run {l : List (FuncId × Spec)} {f : FuncId} {S : Spec} (hm : (f, S) ∈ l) (hu : ∀ s ∈ l, s.1 = f → s = (f, S)) {args : List AV} {H : AHeap} (h : ∃ v H', Pt κ f args H v H' ∧ S args H v H') :
    ∃ v H', callT κ (tab l) f args H = some (v, H') ∧ S args H v H' := by
  obtain ⟨v, H', h1, h2⟩ := h
  obtain ⟨v, H', h3, h4⟩ := callT_run (T := tab l) ⟨v, H', h1, fun s hs e => by rw [hu s hs e]; exact h2⟩
  exact ⟨v, H', h3, h4 _ hm rfl⟩

/-- what code does from one state -/
def D (κ : Kn) (code : Code) (env : AEnv) (H : AHeap) (K : AExit → AEnv → AHeap → Prop) : Prop :=
  ∃ e env' H', K e env' H' ∧ ∀ ρ w a, Rel κ.c κ.base κ.w0 ρ H w → Fresh ρ H → EnvR ρ env a.tmps → code.wp κ.c.P (Behind κ.c κ.base κ.w0 ρ H w a e env' H') a w

variable {T : FuncId → Spec} {env : AEnv} {H : AHeap} {K : AExit → AEnv → AHeap → Prop}

theorem D.mono {code : Code} {K' : AExit → AEnv → AHeap → Prop} (h : D κ code env H K) (hk : ∀ e env' H', K e env' H' → K' e env' H') : D κ code env H K' := by
  obtain ⟨e, env', H', h1, h2⟩ := h
  exact ⟨e, env', H', hk _ _ _ h1, h2⟩

/-- by a run of the machine -/
theorem D.run {code : Code} {lf : Nat} {e : AExit} {env' : AEnv} {H' : AHeap} (h : acode κ.c drawRunB (callT κ T) lf code env H = some (e, env', H')) (k : K e env' H') : D κ code env H K :=
  ⟨e, env', H', k, fun ρ w a hr hf he => code_sound (callT_ok T) (drawB_sound κ.mixed _ (callT_ok T)) lf code hr hf he h⟩

theorem D.skip (k : K .normal env H) : D κ .skip env H K := D.run (T := fun _ _ _ _ _ => True) (lf := 0) (e := .normal) rfl k
theorem D.ret (k : K .ret env H) : D κ .ret env H K := D.run (T := fun _ _ _ _ _ => True) (lf := 0) (e := .ret) rfl k
theorem D.exit {id : Nat} (k : K (.exit id) env H) : D κ (.exit id) env H K := D.run (T := fun _ _ _ _ _ => True) (lf := 0) (e := .exit id) rfl k
theorem D.label {l : Nat} (k : K .normal env H) : D κ (.label l) env H K := D.run (T := fun _ _ _ _ _ => True) (lf := 0) (e := .normal) rfl k

theorem D.seq {a b : Code} (h : D κ a env H fun e env' H' => match e with | .normal => D κ b env' H' K | e => K e env' H') : D κ (.seq a b) env H K := by
  obtain ⟨e, env1, H1, h1, h2⟩ := h
  cases e with
  | normal =>
    obtain ⟨e, env2, H2, h3, h4⟩ := h1
    refine ⟨e, env2, H2, h3, fun ρ w a hr hf he => wp_seq (wp_mono (h2 ρ w a hr hf he) ?_)⟩
    rintro q a1 w1 ⟨rfl, hdf, ρ1, hp, he1⟩
    refine wp_mono (h4 ρ1 w1 a1 hp.rel (hp.fresh hf) he1) ?_
    rintro q a2 w2 ⟨rfl, h2⟩
    exact ⟨rfl, h2.trans hp hdf⟩
  | exit id =>
    refine ⟨_, env1, H1, h1, fun ρ w a hr hf he => wp_seq (wp_mono (h2 ρ w a hr hf he) ?_)⟩
    rintro q a1 w1 ⟨rfl, h⟩
    exact ⟨rfl, h⟩
  | ret =>
    refine ⟨_, env1, H1, h1, fun ρ w a hr hf he => wp_seq (wp_mono (h2 ρ w a hr hf he) ?_)⟩
    rintro q a1 w1 ⟨rfl, h⟩
    exact ⟨rfl, h⟩

theorem D.cond {q : Operand} {a b : Code} {t : Bool} (hq : aval env q = some (.bool t)) (ha : t = true → D κ a env H K) (hb : t = false → D κ b env H K) : D κ (.cond q a b) env H K := by
  cases t with
  | true =>
    obtain ⟨e, env1, H1, h1, h2⟩ := ha rfl
    refine ⟨e, env1, H1, h1, fun ρ w x hr hf he => ?_⟩
    have hv := aval_sound hr he hq
    simp only [VR] at hv
    exact wp_cond hv (h2 ρ w x hr hf he)
  | false =>
    obtain ⟨e, env1, H1, h1, h2⟩ := hb rfl
    refine ⟨e, env1, H1, h1, fun ρ w x hr hf he => ?_⟩
    have hv := aval_sound hr he hq
    simp only [VR] at hv
    exact wp_cond hv (h2 ρ w x hr hf he)

theorem D.block {id : Nat} {b : Code} (h : D κ b env H fun e env' H' => match e with | .exit j => if j = id then K .normal env' H' else K (.exit j) env' H' | e => K e env' H') : D κ (.block id b) env H K := by
  obtain ⟨e, env1, H1, h1, h2⟩ := h
  cases e with
  | normal =>
    refine ⟨_, env1, H1, h1, fun ρ w a hr hf he => wp_block (wp_mono (h2 ρ w a hr hf he) ?_)⟩
    rintro q a1 w1 ⟨rfl, h⟩
    exact ⟨rfl, h⟩
  | ret =>
    refine ⟨_, env1, H1, h1, fun ρ w a hr hf he => wp_block (wp_mono (h2 ρ w a hr hf he) ?_)⟩
    rintro q a1 w1 ⟨rfl, h⟩
    exact ⟨rfl, h⟩
  | exit j =>
    have h1' : if j = id then K .normal env1 H1 else K (.exit j) env1 H1 := h1
    by_cases hj : j = id
    · rw [if_pos hj] at h1'
      refine ⟨_, env1, H1, h1', fun ρ w a hr hf he => wp_block (wp_mono (h2 ρ w a hr hf he) ?_)⟩
      rintro q a1 w1 ⟨rfl, h⟩
      simp only [AExit.conv, Exit.inBlock]
      rw [if_pos hj]
      exact ⟨rfl, h⟩
    · rw [if_neg hj] at h1'
      refine ⟨_, env1, H1, h1', fun ρ w a hr hf he => wp_block (wp_mono (h2 ρ w a hr hf he) ?_)⟩
      rintro q a1 w1 ⟨rfl, h⟩
      simp only [AExit.conv, Exit.inBlock]
      rw [if_neg hj]
      exact ⟨rfl, h⟩

theorem D.region {id : Nat} {ops : Array Oper} {env' : AEnv} {H' : AHeap} (h : asteps κ.c (callT κ T) ops.toList ops.toList env H = some (env', H')) (k : K .normal env' H') : D κ (.region id ops false) env H K :=
  D.run (T := T) (lf := 0) (e := .normal) (by simp only [acode, h]; rfl) k

theorem D.draw {id : Nat} {ops : Array Oper} {env' : AEnv} {H' : AHeap} (hs : staticOk ops.toList = true) (h : asteps κ.c (callT κ T) ops.toList ops.toList env H = some (env', H')) (k : K .normal env' H') : D κ (.region id ops true) env H K :=
  D.run (T := T) (lf := 0) (e := .normal) (by simp only [acode, drawRunB, hs, h]; rfl) k

theorem D.drawA {id : Nat} {ops : Array Oper} {env' : AEnv} {H' : AHeap} (h : drawRunA κ.c (callT κ T) ops.toList env H = some (env', H')) (k : K .normal env' H') : D κ (.region id ops true) env H K :=
  ⟨.normal, env', H', k, fun ρ w a hr hf he => drawA_sound κ.mixed _ (callT_ok T) id ops env env' H H' h ρ w a hr hf he⟩

/-- A LOOP, by an invariant and what gets less. -/
theorem D.loop {body : Code} (I : Nat → AEnv → AHeap → Prop)
    (hb : ∀ m env H, I m env H → D κ body env H fun e env' H' => match e with | .normal => ∃ m', m' < m ∧ I m' env' H' | e => K e env' H') :
    ∀ m env H, I m env H → D κ (.loop body) env H K := by
  have key : ∀ n m env H, m < n → I m env H → ∃ (k : Nat) (e : AExit) (env' : AEnv) (H' : AHeap), K e env' H' ∧ ∀ ρ w a, Rel κ.c κ.base κ.w0 ρ H w → Fresh ρ H → EnvR ρ env a.tmps → Code.rounds κ.c.P body (Behind κ.c κ.base κ.w0 ρ H w a e env' H') k a w := by
    intro n
    induction n with
    | zero => intro m env H h; omega
    | succ n ih =>
      intro m env H hm hI
      obtain ⟨e, env1, H1, h1, h2⟩ := hb m env H hI
      cases e with
      | normal =>
        obtain ⟨m', hm', hI'⟩ := h1
        obtain ⟨k, e, env2, H2, h3, h4⟩ := ih m' env1 H1 (by omega) hI'
        refine ⟨k + 1, e, env2, H2, h3, fun ρ w a hr hf he => ?_⟩
        rw [rounds_succ]
        refine wp_mono (h2 ρ w a hr hf he) ?_
        rintro q a1 w1 ⟨rfl, hdf, ρ1, hp, he1⟩
        exact rounds_mono (fun x a2 w2 hq => ⟨hq.1, hq.2.trans hp hdf⟩) k a1 w1 (h4 ρ1 w1 a1 hp.rel (hp.fresh hf) he1)
      | exit id =>
        refine ⟨1, _, env1, H1, h1, fun ρ w a hr hf he => ?_⟩
        rw [rounds_succ]
        refine wp_mono (h2 ρ w a hr hf he) ?_
        rintro q a1 w1 ⟨rfl, h⟩
        exact ⟨rfl, h⟩
      | ret =>
        refine ⟨1, _, env1, H1, h1, fun ρ w a hr hf he => ?_⟩
        rw [rounds_succ]
        refine wp_mono (h2 ρ w a hr hf he) ?_
        rintro q a1 w1 ⟨rfl, h⟩
        exact ⟨rfl, h⟩
  intro m env H hI
  obtain ⟨k, e, env', H', h1, h2⟩ := key (m + 1) m env H (by omega) hI
  exact ⟨e, env', H', h1, fun ρ w a hr hf he => wp_loop_rounds k (h2 ρ w a hr hf he)⟩

/-- an environment that knows less -/
def ELe (a b : AEnv) : Prop := a.size = b.size ∧ ∀ t v, eget a t = some v → eget b t = some v

theorem EnvR.less {ρ : Pl} {a b : AEnv} {tmps : Array Value} (h : EnvR ρ b tmps) (e : ELe a b) : EnvR ρ a tmps := ⟨e.1.trans h.1, fun t v hv => h.2 t v (e.2 t v hv)⟩

theorem D.forget {code : Code} {env0 : AEnv} (hl : ELe env0 env) (h : D κ code env0 H K) : D κ code env H K := by
  obtain ⟨e, env1, H1, h1, h2⟩ := h
  exact ⟨e, env1, H1, h1, fun ρ w a hr hf he => h2 ρ w a hr hf (he.less hl)⟩

/-- an environment by its latest settings -/
def E (n : Nat) : List (Nat × AV) → AEnv
  | [] => ⟨n, .leaf⟩
  | (t, v) :: r => eput (E n r) (some t) (some v)

theorem E_size (n : Nat) : ∀ l, (E n l).size = n
  | [] => rfl
  | (t, v) :: r => by rw [E, eput_size, E_size n r]

theorem fits_lt : ∀ (d t : Nat), t < 2 ^ d → Tr.fits (d + 1) t = true
  | 0, 0, _ => rfl
  | 0, t + 1, h => by simp at h
  | d + 1, 0, _ => rfl
  | d + 1, t + 1, h => by
    simp only [Tr.fits]
    exact fits_lt d (t / 2) (by rw [Nat.pow_succ] at h; omega)

theorem E_get {n : Nat} (hn : n ≤ 524288) (t u : Nat) (v : AV) (l : List (Nat × AV)) : eget (E n ((u, v) :: l)) t = if t = u then (if t < n then some v else none) else eget (E n l) t := by
  by_cases h : t = u
  · subst h
    rw [if_pos rfl, E, eput, E_size]
    by_cases hb : t < n
    · rw [if_pos hb]
      have hb' : Nat.blt t n = true := by rw [Nat.blt_eq]; exact hb
      simp only [hb', eget, Tr.get_same]
      rw [fits_lt 19 t (by omega)]
      rfl
    · rw [if_neg hb]
      have hb' : Nat.blt t n = false := by rw [← Bool.not_eq_true, Nat.blt_eq]; exact hb
      simp only [hb', eget, E_size]
  · rw [if_neg h, E, eput_ne (fun e => h (by cases e; rfl))]

theorem E_nil (n t : Nat) : eget (E n []) t = none := by
  unfold eget E
  cases Nat.blt t n <;> simp [Tr.get_leaf]

theorem E_put (n u : Nat) (v : AV) (l : List (Nat × AV)) : eput (E n l) (some u) (some v) = E n ((u, v) :: l) := by cases v <;> rfl
theorem E_put0 (n : Nat) (v : Option AV) (l : List (Nat × AV)) : eput (E n l) none v = E n l := by cases v <;> rfl

theorem E_le {n : Nat} (hn : n ≤ 524288) {l : List (Nat × AV)} {env : AEnv} (hs : env.size = n) (h : ∀ p ∈ l, eget env p.1 = some p.2) : ELe (E n l) env := by
  refine ⟨by rw [E_size, hs], ?_⟩
  induction l with
  | nil => intro t v e; rw [E_nil] at e; cases e
  | cons p r ih =>
    obtain ⟨u, x⟩ := p
    intro t v e
    rw [E_get hn] at e
    split at e
    · rename_i htu; subst htu
      split at e
      · cases e; exact h (t, x) (by simp)
      · cases e
    · exact ih (fun p hp => h p (by simp [hp])) t v e

theorem env0_size (n : Nat) (args : List AV) : (env0 n args).size = args.length + (n - args.length) := rfl

theorem argsTr_set : ∀ (l : List AV) (i : Nat) (x : Tr) (t : Nat), t < 524288 → Tr.get 20 t (argsTr l i x) = if i ≤ t ∧ t < i + l.length then l[t - i]? else Tr.get 20 t x
  | [], i, x, t, ht => by rw [if_neg (by simp)]; rfl
  | v :: r, i, x, t, ht => by
    rw [argsTr, argsTr_set r (i + 1) _ t ht]
    by_cases h1 : i + 1 ≤ t ∧ t < i + 1 + r.length
    · rw [if_pos h1, if_pos (by simp; omega), show t - i = (t - (i + 1)) + 1 by omega, List.getElem?_cons_succ]
    · rw [if_neg h1]
      by_cases h2 : t = i
      · subst h2
        rw [Tr.get_same, if_pos (fits_lt 19 t (by omega)), if_pos (by simp)]
        simp
      · rw [Tr.get_other h2, if_neg (by simp; omega)]

theorem env0_get {n : Nat} {args : List AV} {t : Nat} (hn : args.length + (n - args.length) ≤ 524288) (h : t < args.length) : eget (env0 n args) t = args[t]? := by
  unfold eget
  have hb : Nat.blt t (env0 n args).size = true := by rw [Nat.blt_eq, env0_size]; omega
  rw [hb]
  show Tr.get 20 t (argsTr args 0 .leaf) = _
  rw [argsTr_set _ _ _ _ (by omega), if_pos (by simpa using h)]
  rfl

def numbered : List AV → Nat → List (Nat × AV)
  | [], _ => []
  | v :: r, i => (i, v) :: numbered r (i + 1)

theorem numbered_mem : ∀ {l : List AV} {i : Nat} {p : Nat × AV}, p ∈ numbered l i → i ≤ p.1 ∧ l[p.1 - i]? = some p.2
  | [], _, _, h => by simp [numbered] at h
  | v :: r, i, p, h => by
    simp only [numbered, List.mem_cons] at h
    rcases h with rfl | h
    · simp
    · obtain ⟨h1, h2⟩ := numbered_mem h
      refine ⟨by omega, ?_⟩
      rw [show p.1 - i = (p.1 - (i + 1)) + 1 by omega, List.getElem?_cons_succ]
      exact h2

theorem env0_le {n : Nat} {args : List AV} (hn : args.length + (n - args.length) ≤ 524288) : ELe (E (args.length + (n - args.length)) (numbered args 0)) (env0 n args) := by
  refine E_le hn rfl fun p hp => ?_
  obtain ⟨_, h⟩ := numbered_mem hp
  have h' : args[p.1]? = some p.2 := by simpa using h
  rw [env0_get hn (List.getElem?_eq_some_iff.1 h').1, h']

/-- A FUNCTION, by its body. -/
theorem Pt.body {f : FuncId} {args : List AV} {fn : Func} {b : Code} {Q : AV → AHeap → Prop} (hf : κ.c.P.funcs[f]? = some fn) (hb : fn.body = some b) (hn : args.length + (fn.ntmps - args.length) ≤ 524288)
    (h : D κ b (E (args.length + (fn.ntmps - args.length)) (numbered args 0)) H fun e env' H' => match e with | .exit _ => False | _ => ∃ v, aresults κ.c fn env' H' = some v ∧ Q v H') : ∃ v H', Pt κ f args H v H' ∧ Q v H' := by
  obtain ⟨e, env1, H1, h1, h2⟩ := D.forget (env0_le hn) h
  have key : ∃ v, aresults κ.c fn env1 H1 = some v ∧ Q v H1 ∧ (∀ id, e ≠ .exit id) := by
    cases e with
    | normal => obtain ⟨v, hv, hq⟩ := h1; exact ⟨v, hv, hq, by simp⟩
    | ret => obtain ⟨v, hv, hq⟩ := h1; exact ⟨v, hv, hq, by simp⟩
    | exit id => exact h1.elim
  obtain ⟨v, hv, hq, hne⟩ := key
  refine ⟨v, H1, fun ρ w xs hr hfr hx => ?_, hq⟩
  have henv : EnvR ρ (env0 fn.ntmps args) (xs.toArray ++ Array.replicate (fn.ntmps - xs.toArray.size) undef) := by
    have hl := hx.length
    refine ⟨by simp [env0, hl], fun t u ht => ?_⟩
    rcases argsTr_get (eget_tr ht).2 with ⟨_, h1⟩ | h1
    · obtain ⟨x, hx', hv⟩ := hx.get (by simpa using h1)
      refine ⟨x, ?_, hv⟩
      have := (List.getElem?_eq_some_iff.1 hx').1
      rw [Array.getElem?_append_left (by simpa using this)]
      simpa using hx'
    · rw [Tr.get_leaf] at h1; cases h1
  refine calls_of_wp hf hb (wp_mono (h2 ρ w _ hr hfr henv) ?_)
  rintro q a' w' ⟨rfl, hdf, ρ', hpost, he'⟩
  have fin : a'.defers = [] ∧ ∃ u, (results fn a'.tmps).run κ.c.P w' = .ok u w' ∧ ∃ ρ' x, Ending.returned u = .returned x ∧ VR ρ' v x ∧ Post κ.c κ.base κ.w0 ρ H w ρ' H1 w' := by
    obtain ⟨x, hx1, hx2⟩ := results_sound hpost.rel he' hv
    exact ⟨hdf, x, hx1, ρ', x, rfl, hx2, hpost⟩
  cases e with
  | normal => exact fin
  | ret => exact fin
  | exit id => exact absurd rfl (hne id)

/-- a point that the machine itself runs -/
theorem Pt.run {k : Nat} {f : FuncId} {args : List AV} {v : AV} {H' : AHeap} {pr : Prims} (hp : PrimsOK κ.c κ.base κ.w0 pr) (h : acall κ.c drawRunB gcCall pr k f args H = some (v, H')) : Pt κ f args H v H' :=
  fun ρ w xs hr hf hx => calls_sound hp (fun call hc => drawB_sound κ.mixed call hc) (fun _ hc => gc_sound hc) k f args H v H' h ρ w xs hr hf hx
end Go.AM

/-
  WORDS FOR WALKS WITH ARGUMENTS (own work): steps of code one behind another, the heap behind a change, slices as lists, maps of whole numbers as functions.
-/
namespace Go.AM
open Go.RowKit
set_option linter.unusedSimpArgs false
set_option linter.unusedVariables false

variable {κ : Kn} {T : FuncId → Spec} {env : AEnv} {H : AHeap} {K : AExit → AEnv → AHeap → Prop} {c : Ctx}

/-! ### steps -/

def Ks (κ : Kn) (b : Code) (K : AExit → AEnv → AHeap → Prop) : AExit → AEnv → AHeap → Prop := fun e env H => match e with
  | .normal => D κ b env H K
  | e => K e env H
def Kb (id : Nat) (K : AExit → AEnv → AHeap → Prop) : AExit → AEnv → AHeap → Prop := fun e env H => match e with
  | .exit j => if j = id then K .normal env H else K (.exit j) env H
  | e => K e env H
def Kl (I : Nat → AEnv → AHeap → Prop) (m : Nat) (K : AExit → AEnv → AHeap → Prop) : AExit → AEnv → AHeap → Prop := fun e env H => match e with
  | .normal => ∃ m', m' < m ∧ I m' env H
  | e => K e env H
def resOf (c : Ctx) (rs : List ResultVar) (env : AEnv) (H : AHeap) : Option AV := (mapO (aresult c env H) rs).map fun vs => match vs with | [v] => v | vs => .tuple vs
def Kf (c : Ctx) (rs : List ResultVar) (Q : AV → AHeap → Prop) : AExit → AEnv → AHeap → Prop := fun e env H => match e with
  | .exit _ => False
  | _ => ∃ v, resOf c rs env H = some v ∧ Q v H
theorem Kf_r {rs : List ResultVar} {Q : AV → AHeap → Prop} : Kf c rs Q .ret env H = ∃ v, resOf c rs env H = some v ∧ Q v H := rfl
theorem Kf_n {rs : List ResultVar} {Q : AV → AHeap → Prop} : Kf c rs Q .normal env H = ∃ v, resOf c rs env H = some v ∧ Q v H := rfl

theorem Ks_n {b : Code} : Ks κ b K .normal env H = D κ b env H K := rfl
theorem Ks_e {b : Code} {i : Nat} : Ks κ b K (.exit i) env H = K (.exit i) env H := rfl
theorem Ks_r {b : Code} : Ks κ b K .ret env H = K .ret env H := rfl
theorem Kb_n {i : Nat} : Kb i K .normal env H = K .normal env H := rfl
theorem Kb_e {i : Nat} : Kb i K (.exit i) env H = K .normal env H := by simp [Kb]
theorem Kb_ne {i j : Nat} (h : j ≠ i) : Kb i K (.exit j) env H = K (.exit j) env H := by simp [Kb, h]
theorem Kb_r {i : Nat} : Kb i K .ret env H = K .ret env H := rfl
theorem Kl_n {I : Nat → AEnv → AHeap → Prop} {m : Nat} : Kl I m K .normal env H = ∃ m', m' < m ∧ I m' env H := rfl
theorem Kl_e {I : Nat → AEnv → AHeap → Prop} {m i : Nat} : Kl I m K (.exit i) env H = K (.exit i) env H := rfl
theorem Kl_r {I : Nat → AEnv → AHeap → Prop} {m : Nat} : Kl I m K .ret env H = K .ret env H := rfl

theorem D.sq {a b : Code} (h : D κ a env H (Ks κ b K)) : D κ (.seq a b) env H K := D.seq h
theorem D.bl {id : Nat} {b : Code} (h : D κ b env H (Kb id K)) : D κ (.block id b) env H K := D.block h
theorem D.lp {body : Code} (I : Nat → AEnv → AHeap → Prop) (m : Nat) (hI : I m env H) (hb : ∀ m env H, I m env H → D κ body env H (Kl I m K)) : D κ (.loop body) env H K := D.loop I hb m env H hI
theorem Pt.fn {f : FuncId} {args : List AV} {fn : Func} {b : Code} {n : Nat} {rs : List ResultVar} {Q : AV → AHeap → Prop} (hf : κ.c.P.funcs[f]? = some fn) (hb : fn.body = some b) (hr : fn.results.toList = rs) (hn : args.length + (fn.ntmps - args.length) = n) (h4 : n ≤ 524288)
    (h : D κ b (E n (numbered args 0)) H (Kf κ.c rs Q)) : ∃ v H', Pt κ f args H v H' ∧ Q v H' := by
  subst hr hn
  exact Pt.body hf hb h4 h

/-- what is known of the one function that is called -/
def only (f : FuncId) (S : Spec) : FuncId → Spec := fun g a H v H' => g = f → S a H v H'
theorem call_only {f : FuncId} {args : List AV} (S : Spec) (h : ∃ v H', Pt κ f args H v H' ∧ S args H v H') : ∃ v H', callT κ (only f S) f args H = some (v, H') ∧ S args H v H' := by
  obtain ⟨v, H', h1, h2⟩ := h
  obtain ⟨v, H', h3, h4⟩ := callT_run (T := only f S) ⟨v, H', h1, fun _ => h2⟩
  exact ⟨v, H', h3, h4 rfl⟩
def none_ : FuncId → Spec := fun _ _ _ _ _ => True

/-! ### the heap -/

theorem hat_ne {i j : Nat} (o : Option AObj) (h : j ≠ i) : hat (H.set i o) j = hat H j := by
  unfold hat; rw [List.getElem?_set_ne (fun e => h e.symm)]
theorem hat_eq {i : Nat} (o : Option AObj) (h : i < H.length) : hat (H.set i o) i = o := by
  unfold hat; simp [h]
theorem hat_nw {i : Nat} (o : AObj) (h : i < H.length) : hat (hnew H o) i = hat H i := by rw [hat_new, if_neg (by omega)]
theorem hat_nn (o : AObj) : hat (hnew H o) H.length = some o := by rw [hat_new, if_pos rfl]
theorem set_len {i : Nat} {o : Option AObj} : (H.set i o).length = H.length := List.length_set

/-- nothing below is changed but what is named -/
def Keep (H H' : AHeap) (S : Nat → Prop) : Prop := H.length ≤ H'.length ∧ ∀ j, j < H.length → ¬ S j → hat H' j = hat H j
theorem Keep.refl (S : Nat → Prop) : Keep H H S := ⟨Nat.le_refl _, fun _ _ _ => rfl⟩
theorem Keep.trans {H1 H2 : AHeap} {S : Nat → Prop} (h : Keep H H1 S) (k : Keep H1 H2 S) : Keep H H2 S :=
  ⟨Nat.le_trans h.1 k.1, fun j hj hs => (k.2 j (Nat.lt_of_lt_of_le hj h.1) hs).trans (h.2 j hj hs)⟩
/-- what was new in between may change too -/
theorem Keep.trans' {H1 H2 : AHeap} {S S' : Nat → Prop} (h : Keep H H1 S) (k : Keep H1 H2 S') (hs : ∀ j, j < H.length → S' j → S j) : Keep H H2 S :=
  ⟨Nat.le_trans h.1 k.1, fun j hj hn => (k.2 j (Nat.lt_of_lt_of_le hj h.1) (fun h' => hn (hs j hj h'))).trans (h.2 j hj hn)⟩
theorem Keep.set (i : Nat) (o : Option AObj) : Keep H (H.set i o) (fun j => j = i) := ⟨by simp, fun j _ h => hat_ne o h⟩
theorem Keep.new (o : AObj) (S : Nat → Prop) : Keep H (hnew H o) S := ⟨by simp [hnew], fun j h _ => hat_nw o h⟩
theorem Keep.mono {H' : AHeap} {S S' : Nat → Prop} (h : Keep H H' S) (hs : ∀ j, j < H.length → S j → S' j) : Keep H H' S' := ⟨h.1, fun j hj hn => h.2 j hj fun h' => hn (hs j hj h')⟩

/-! ### reading and writing -/

theorem rd_own {i off : Nat} {t e : Nat} {cs : List AV} (h : hat H i = some (.row t e cs)) : rd c H (.own i) off 1 = (cs[off]?).map fun x => [x] := by
  simp only [rd, rowOf, h, Option.bind_some]
  by_cases hl : off + 1 ≤ cs.length
  · rw [if_pos hl, List.drop_eq_getElem_cons (by omega), List.getElem?_eq_getElem (by omega)]
    rfl
  · rw [if_neg hl, List.getElem?_eq_none (by omega)]; rfl

theorem rd_row {l : Loc} {off : Nat} {cs : List AV} (h : rowOf c H l = some cs) : rd c H l off 1 = (cs[off]?).map fun x => [x] := by
  simp only [rd, h, Option.bind_some]
  by_cases hl : off + 1 ≤ cs.length
  · rw [if_pos hl, List.drop_eq_getElem_cons (by omega), List.getElem?_eq_getElem (by omega)]
    rfl
  · rw [if_neg hl, List.getElem?_eq_none (by omega)]; rfl

theorem wr_own {i off : Nat} {t e : Nat} {cs : List AV} {v : AV} (h : hat H i = some (.row t e cs)) (ho : off < cs.length) (hv : v.one = true) : wr H (.own i) off [v] = some (H.set i (some (.row t e (cs.set off v)))) := by
  simp only [wr, h]
  rw [if_pos ⟨by simp; omega, by simp [hv]⟩]
  congr 4
  simp only [setSeg, List.length_cons, List.length_nil, List.set_eq_take_append_cons_drop, if_pos ho, List.singleton_append, Nat.zero_add]

/-! ### slices of one cell each, as lists -/

def Sl (c : Ctx) (H : AHeap) (v : AV) (xs : List AV) : Prop :=
  ((v = .nilslice ∨ ∃ a, v = .odd a) ∧ xs = []) ∨ ∃ l st, v = .slice l 1 st xs.length ∧ (xs ≠ [] → ∃ cs, rowOf c H l = some cs ∧ (cs.drop st).take xs.length = xs)

def ptrAt (v : AV) (i : Nat) : AV := match v with | .slice l e st _ => .ptr l ((st + i) * e) | _ => .nilptr

theorem Sl.nil : Sl c H .nilslice [] := .inl ⟨.inl rfl, rfl⟩
theorem Sl.len {v : AV} {xs : List AV} (h : Sl c H v xs) {t e : TypeId} (ht : c.P.underlying t = some (.slice e)) : alen c H t v = some (.int .i64 xs.length) := by
  rcases h with ⟨rfl | ⟨a, rfl⟩, rfl⟩ | ⟨l, st, rfl, _⟩
  · simp [alen, ht]
  · simp [alen, ht]
  · simp [alen, ht]
theorem Sl.ia {v : AV} {xs : List AV} (h : Sl c H v xs) {t e : TypeId} (ht : c.P.underlying t = some (.slice e)) (hs : szOf c.P e = some 1) {i : Nat} (hi : i < xs.length) (k : IntKind) : aindexAddr c t v (.int k (i : Int)) = some (ptrAt v i) := by
  rcases h with ⟨_, rfl⟩ | ⟨l, st, rfl, _⟩
  · simp at hi
  · simp only [aindexAddr, ht, Option.bind_some, hs, ptrAt]
    rw [if_pos ⟨by simp, by omega, by omega⟩]
    simp
theorem Sl.ld {v : AV} {xs : List AV} (h : Sl c H v xs) {e : TypeId} (ha : isAggT c.P e = some false) {i : Nat} (hi : i < xs.length) : aload c H e (ptrAt v i) = some xs[i] := by
  rcases h with ⟨_, rfl⟩ | ⟨l, st, rfl, hx⟩
  · simp at hi
  · obtain ⟨cs, hr, hc⟩ := hx (by intro h0; rw [h0] at hi; simp at hi)
    have h1 : cs[st + i]? = some xs[i] := by
      have h2 := congrArg (fun l => l[i]?) hc
      rw [List.getElem?_take, if_pos hi, List.getElem?_drop, List.getElem?_eq_getElem hi] at h2
      exact h2
    simp only [ptrAt, aload, ha, Option.bind_some, Nat.mul_one, rd_row hr, h1, Option.map_some]
    rfl
theorem Sl.ext {v : AV} {xs : List AV} (h : Sl c H v xs) {H' : AHeap} (hk : ∀ b e st n, v = .slice (.own b) e st n → hat H' b = hat H b) : Sl c H' v xs := by
  rcases h with h | ⟨l, st, rfl, hx⟩
  · exact .inl h
  · refine .inr ⟨l, st, rfl, fun hn => ?_⟩
    obtain ⟨cs, hr, hc⟩ := hx hn
    refine ⟨cs, ?_, hc⟩
    cases l with
    | own b => simp only [rowOf, hk b _ _ _ rfl] at hr ⊢; exact hr
    | ext p => exact hr
/-- where a slice lies -/
def AV.at? : AV → Option Nat
  | .slice (.own b) _ _ _ => some b
  | _ => none
theorem Sl.keep {v : AV} {xs : List AV} (h : Sl c H v xs) {H' : AHeap} {S : Nat → Prop} (hk : Keep H H' S) (hv : ∀ b, v.at? = some b → b < H.length ∧ ¬ S b) : Sl c H' v xs :=
  h.ext fun b e st n hb => by subst hb; exact hk.2 b (hv b rfl).1 (hv b rfl).2

/-! ### maps from whole numbers to whole numbers -/

def mget (l : List (Int × Int × Nat)) (k : Int) : Option Int := (l.find? fun e => e.1 == k).map fun e => e.2.1
def enc (e : Int × Int × Nat) : AV × AV × Nat := (.int .i64 e.1, .int .i64 e.2.1, e.2.2)
def IM (H : AHeap) (m : Nat) (f : Int → Option Int) : Prop := ∃ l clock, hat H m = some (.map (l.map enc) clock) ∧ (l.map (·.1)).Nodup ∧ ∀ k, mget l k = f k
def upd1 (f : Int → Option Int) (k : Int) (v : Option Int) : Int → Option Int := fun q => if q = k then v else f q

theorem IM.keep {m : Nat} {f : Int → Option Int} (h : IM H m f) {H' : AHeap} (e : hat H' m = hat H m) : IM H' m f := by
  obtain ⟨l, k, h1, h2⟩ := h
  exact ⟨l, k, by rw [e]; exact h1, h2⟩
theorem IM.lt {m : Nat} {f : Int → Option Int} (h : IM H m f) : m < H.length := by
  obtain ⟨l, k, h1, h2⟩ := h
  exact hat_lt h1
theorem IM.new : IM (hnew H (.map [] 0)) H.length (fun _ => none) := ⟨[], 0, hat_nn _, by simp, fun k => rfl⟩

theorem find_enc (k : Int) : ∀ (l : List (Int × Int × Nat)) (i : Nat), findKey (.int .i64) (.int .i64 k) (l.map enc) i = some ((l.findIdx? fun e => e.1 == k).bind fun j => (l[j]?).map fun e => (i + j, .int .i64 e.2.1))
  | [], i => rfl
  | e :: r, i => by
    simp only [List.map_cons, findKey, enc, keyEq, if_true, Option.bind_some, List.findIdx?_cons]
    by_cases h : e.1 = k
    · subst h
      simp
    · have h1 : (k == e.1) = false := by simpa using fun e' => h e'.symm
      have h2 : (e.1 == k) = false := by simpa using h
      rw [h1, h2]
      simp only [Bool.false_eq_true, if_false]
      rw [find_enc k r (i + 1)]
      cases hq : r.findIdx? (fun e => e.1 == k) with
      | none => rfl
      | some j =>
        simp only [Option.bind_some, Option.map_some, List.getElem?_cons_succ]
        cases r[j]? with
        | none => rfl
        | some e' => simp only [Option.map_some]; congr 3; omega

theorem mget_idx (k : Int) (l : List (Int × Int × Nat)) : mget l k = ((l.findIdx? fun e => e.1 == k).bind fun j => (l[j]?).map fun e => e.2.1) := by
  induction l with
  | nil => rfl
  | cons e r ih =>
    simp only [mget, List.find?_cons, List.findIdx?_cons]
    cases h : (e.1 == k) with
    | true => simp
    | false =>
      simp only [mget] at ih
      simp only [ih]
      cases r.findIdx? (fun e => e.1 == k) <;> simp

theorem idx_key {k : Int} {l : List (Int × Int × Nat)} {j : Nat} (h : (l.findIdx? fun e => e.1 == k) = some j) : ∃ e, l[j]? = some e ∧ e.1 = k := by
  obtain ⟨hj, hp, _⟩ := List.findIdx?_eq_some_iff_getElem.1 h
  exact ⟨l[j], List.getElem?_eq_getElem hj, by simpa using hp⟩

theorem IM.find {m : Nat} {f : Int → Option Int} (h : IM H m f) (k : Int) : ∃ es clock, hat H m = some (.map es clock) ∧ ∃ r, findKey (.int .i64) (.int .i64 k) es 0 = some r ∧ r.map (·.2) = (f k).map (.int .i64) := by
  obtain ⟨l, clock, h1, hn, h2⟩ := h
  refine ⟨_, clock, h1, _, find_enc k l 0, ?_⟩
  rw [← h2 k, mget_idx]
  cases hq : l.findIdx? (fun e => e.1 == k) with
  | none => rfl
  | some j =>
    obtain ⟨e, he, _⟩ := idx_key hq
    simp [he]

theorem IM.look {m : Nat} {f : Int → Option Int} (h : IM H m f) {t kt vt : TypeId} (ht : c.P.underlying t = some (.map kt vt)) (hk : c.P.underlying kt = some (.int .i64)) (hz : zeroAV c.P vt = some (.int .i64 0)) (k : Int) (ok : Bool) :
    alookup c H t (.map (.own m)) (.int .i64 k) ok = some (if ok then .tuple [.int .i64 ((f k).getD 0), .bool (f k).isSome] else .int .i64 ((f k).getD 0)) := by
  obtain ⟨es, clock, h1, r, h2, h3⟩ := h.find k
  simp only [alookup, ht, Option.bind_some, hk, keyOk, if_true, entries, h1, h2]
  cases r with
  | none =>
    cases hf : f k with
    | none => simp only [hz, Option.map_some, Option.getD_none, Option.isSome_none]
    | some x => rw [hf] at h3; cases h3
  | some p =>
    obtain ⟨j, v⟩ := p
    cases hf : f k with
    | none => rw [hf] at h3; cases h3
    | some x =>
      rw [hf] at h3
      simp only [Option.map_some, Option.some.injEq] at h3
      subst h3
      rfl

theorem mget_none {l : List (Int × Int × Nat)} {k : Int} (h : ∀ e ∈ l, e.1 ≠ k) : mget l k = none := by
  simp only [mget, Option.map_eq_none_iff, List.find?_eq_none]
  intro e he; simpa using h e he
theorem mget_mem {l : List (Int × Int × Nat)} (hn : (l.map (·.1)).Nodup) {e : Int × Int × Nat} (he : e ∈ l) : mget l e.1 = some e.2.1 := by
  induction l with
  | nil => simp at he
  | cons a r ih =>
    simp only [List.map_cons, List.nodup_cons] at hn
    simp only [mget, List.find?_cons]
    rcases List.mem_cons.1 he with rfl | h
    · simp
    · have hne : a.1 ≠ e.1 := fun e' => hn.1 (by rw [e']; exact List.mem_map.2 ⟨e, h, rfl⟩)
      have : (a.1 == e.1) = false := by simpa using hne
      rw [this]
      exact ih hn.2 h
/-- two lists with the same entries read the same -/
theorem mget_iff {l : List (Int × Int × Nat)} (hn : (l.map (·.1)).Nodup) {k v : Int} : mget l k = some v ↔ ∃ b, (k, v, b) ∈ l := by
  constructor
  · intro h
    simp only [mget, Option.map_eq_some_iff] at h
    obtain ⟨e, he, rfl⟩ := h
    have h1 := List.find?_some he
    simp at h1
    subst h1
    exact ⟨e.2.2, List.mem_of_find?_eq_some he⟩
  · rintro ⟨b, hb⟩
    exact mget_mem hn hb

theorem er_map {α β : Type} (f : α → β) : ∀ (l : List α) (i : Nat), (l.map f).eraseIdx i = (l.eraseIdx i).map f
  | [], i => rfl
  | a :: r, 0 => rfl
  | a :: r, i + 1 => by simp only [List.map_cons, List.eraseIdx_cons_succ, er_map f r i]
theorem nodup_inj {α : Type} {l : List α} (h : l.Nodup) {i j : Nat} {hi : i < l.length} {hj : j < l.length} (e : l[i] = l[j]) : i = j := by
  have hp := List.pairwise_iff_getElem.1 h
  rcases Nat.lt_trichotomy i j with h1 | h1 | h1
  · exact absurd e (hp i j hi hj h1)
  · exact h1
  · exact absurd e.symm (hp j i hj hi h1)

theorem IM.put {m : Nat} {f : Int → Option Int} (h : IM H m f) {t kt vt : TypeId} (ht : c.P.underlying t = some (.map kt vt)) (hk : c.P.underlying kt = some (.int .i64)) (k v : Int) :
    ∃ o, amapUpdate c H t (.map (.own m)) (.int .i64 k) (.int .i64 v) = some (H.set m (some o)) ∧ ∀ H', hat H' m = some o → IM H' m (upd1 f k (some v)) := by
  obtain ⟨l, clock, h1, hn, h2⟩ := h
  simp only [amapUpdate, ht, Option.bind_some, hk, keyOk, if_true, h1, find_enc]
  cases hq : l.findIdx? (fun e => e.1 == k) with
  | none =>
    refine ⟨_, rfl, fun H' hH => ⟨l ++ [(k, v, clock)], clock + 1, by simpa [enc] using hH, ?_, ?_⟩⟩
    · have hno : ∀ e ∈ l, e.1 ≠ k := by
        rw [List.findIdx?_eq_none_iff] at hq
        intro e he; simpa using hq e he
      rw [List.map_append, List.nodup_append]
      refine ⟨hn, by simp, ?_⟩
      intro a ha b hb e
      obtain ⟨e1, he1, rfl⟩ := List.mem_map.1 ha
      simp at hb
      exact hno e1 he1 (e.trans hb)
    · intro q
      have hno : ∀ e ∈ l, e.1 ≠ k := by
        rw [List.findIdx?_eq_none_iff] at hq
        intro e he; simpa using hq e he
      unfold upd1
      rw [← h2 q]
      simp only [mget, List.find?_append]
      by_cases hqk : q = k
      · subst hqk
        rw [if_pos rfl]
        have : l.find? (fun e => e.1 == q) = none := by
          rw [List.find?_eq_none]; intro e he; simpa using hno e he
        rw [this]; simp
      · rw [if_neg hqk]
        have : (k == q) = false := by simpa using fun e => hqk e.symm
        cases l.find? (fun e => e.1 == q) with
        | none => simp [this]
        | some e => rfl
  | some j =>
    obtain ⟨e, he, hek⟩ := idx_key hq
    subst hek
    simp only [Option.bind_some, he, Option.map_some, Nat.zero_add]
    refine ⟨_, rfl, fun H' hH => ⟨l.set j (e.1, v, e.2.2), clock, ?_, ?_, ?_⟩⟩
    · rw [hH]
      congr 2
      apply List.ext_getElem?
      intro i
      rw [List.getElem?_modify, List.getElem?_map, List.getElem?_map, List.getElem?_set]
      have hjl : j < l.length := (List.getElem?_eq_some_iff.1 he).1
      by_cases hij : j = i
      · subst hij
        simp only [if_true, he, hjl, Option.map_some]
        rfl
      · simp only [if_neg hij]
        cases l[i]? <;> rfl
    · have : (l.set j (e.1, v, e.2.2)).map (·.1) = l.map (·.1) := by
        rw [List.map_set]
        apply List.ext_getElem?
        intro i
        rw [List.getElem?_set]
        by_cases hij : j = i
        · subst hij
          rw [if_pos rfl]
          have hjl : j < l.length := (List.getElem?_eq_some_iff.1 he).1
          rw [if_pos (by simpa using hjl), List.getElem?_map, he]; rfl
        · rw [if_neg hij]
      rw [this]; exact hn
    · intro q
      unfold upd1
      have hjl : j < l.length := (List.getElem?_eq_some_iff.1 he).1
      rw [← h2 q, mget_idx, mget_idx]
      have hfi : ∀ q, (l.set j (e.1, v, e.2.2)).findIdx? (fun x => x.1 == q) = l.findIdx? (fun x => x.1 == q) := by
        intro q
        have e1 : ∀ l : List (Int × Int × Nat), l.findIdx? (fun x => x.1 == q) = (l.map (·.1)).findIdx? (fun x => x == q) := by
          intro l; rw [List.findIdx?_map]; rfl
        rw [e1, e1]
        congr 1
        rw [List.map_set]
        apply List.ext_getElem?
        intro i
        rw [List.getElem?_set]
        by_cases hij : j = i
        · subst hij
          rw [if_pos rfl, if_pos (by simpa using hjl), List.getElem?_map, he]; rfl
        · rw [if_neg hij]
      rw [hfi]
      by_cases hqk : q = e.1
      · subst hqk
        rw [if_pos rfl, hq]
        simp [hjl]
      · rw [if_neg hqk]
        cases hq2 : l.findIdx? (fun x => x.1 == q) with
        | none => rfl
        | some i =>
          obtain ⟨e2, he2, hk2⟩ := idx_key hq2
          have hij : j ≠ i := by
            intro h; subst h
            rw [he] at he2; cases he2
            exact hqk hk2.symm
          simp [List.getElem?_set_ne hij]

theorem IM.del {m : Nat} {f : Int → Option Int} (h : IM H m f) {t kt vt : TypeId} (ht : c.P.underlying t = some (.map kt vt)) (hk : c.P.underlying kt = some (.int .i64)) (k : Int) :
    ∃ H', adelete c H t (.map (.own m)) (.int .i64 k) = some H' ∧ IM H' m (upd1 f k none) ∧ H'.length = H.length ∧ ∀ j, j ≠ m → hat H' j = hat H j := by
  obtain ⟨l, clock, h1, hn, h2⟩ := h
  have hm := hat_lt h1
  simp only [adelete, ht, Option.bind_some, hk, keyOk, if_true, h1, find_enc]
  cases hq : l.findIdx? (fun e => e.1 == k) with
  | none =>
    refine ⟨H, rfl, ⟨l, clock, h1, hn, fun q => ?_⟩, rfl, fun _ _ => rfl⟩
    unfold upd1
    by_cases hqk : q = k
    · subst hqk
      rw [if_pos rfl, mget_idx, hq]; rfl
    · rw [if_neg hqk]; exact h2 q
  | some j =>
    obtain ⟨e, he, hek⟩ := idx_key hq
    subst hek
    simp only [Option.bind_some, he, Option.map_some, Nat.zero_add]
    refine ⟨_, rfl, ⟨l.eraseIdx j, clock, ?_, ?_, ?_⟩, by simp, fun j hj => hat_ne _ hj⟩
    · rw [hat_eq _ hm]
      congr 2
      rw [er_map]
    · rw [← er_map]
      exact hn.sublist (List.eraseIdx_sublist _ _)
    · have hn' : ((l.eraseIdx j).map (·.1)).Nodup := by rw [← er_map]; exact hn.sublist (List.eraseIdx_sublist _ _)
      intro q
      unfold upd1
      rw [← h2 q]
      have hjl : j < l.length := (List.getElem?_eq_some_iff.1 he).1
      have hej : l[j] = e := (List.getElem?_eq_some_iff.1 he).2
      by_cases hqk : q = e.1
      · subst hqk
        rw [if_pos rfl]
        refine mget_none fun x hx hk => ?_
        obtain ⟨i, hi, hne, hxi⟩ : ∃ i, ∃ _ : i < l.length, i ≠ j ∧ l[i] = x := by
          obtain ⟨i, hi, rfl⟩ := List.getElem_of_mem hx
          rw [List.getElem_eraseIdx]
          rw [List.length_eraseIdx_of_lt hjl] at hi
          split
          · exact ⟨i, by omega, by omega, rfl⟩
          · exact ⟨i + 1, by omega, by omega, rfl⟩
        have : (l.map (·.1))[i]'(by simpa using hi) = (l.map (·.1))[j]'(by simpa using hjl) := by simp [hxi, hej, hk]
        exact hne (nodup_inj hn this)
      · rw [if_neg hqk]
        cases hg : mget l q with
        | some v =>
          obtain ⟨b, hb⟩ := (mget_iff hn).1 hg
          refine (mget_iff hn').2 ⟨b, ?_⟩
          obtain ⟨i, hi, hib⟩ := List.getElem_of_mem hb
          have hij : i ≠ j := by
            intro h; subst h
            rw [hej] at hib; rw [hib] at hqk; exact hqk rfl
          rw [List.mem_eraseIdx_iff_getElem]
          exact ⟨i, hi, hij, hib⟩
        | none =>
          cases hg2 : mget (l.eraseIdx j) q with
          | none => rfl
          | some v =>
            obtain ⟨b, hb⟩ := (mget_iff hn').1 hg2
            have := (mget_iff hn).2 ⟨b, List.mem_of_mem_eraseIdx hb⟩
            rw [hg] at this; cases this
/-! ### types -/
def infoSB (P : Program) (t : TypeId) : Option (Nat × Nat) := (P.info? t).map fun i => (i.size, i.bytes)

/-- an append, by the type's sizes alone -/
def aappend2 (c : Ctx) (H : AHeap) (st : TypeId) (s x : AV) : Option (AV × AHeap) :=
  (c.P.underlying st).bind fun d => match d with
  | .slice e => (infoSB c.P e).bind fun i => (zeroCells c.P e).bind fun z =>
    if 0 < i.1 ∧ 0 < i.2 ∧ z.length = i.1 then
    (source c H i.1 x).bind fun (n, cs) =>
    if n = 0 then match s with | .nilslice => some (s, H) | .slice _ _ _ _ => some (s, H) | _ => none
    else match s with
    | .nilslice => if n * i.2 ≤ 2 ^ 47 ∧ cs.all AV.one then some (.slice (fresh H) i.1 0 n, hnew H (.row e i.1 cs)) else none
    | .slice (.own b) esz start len =>
      if esz = i.1 ∧ cs.all AV.one then match hat H b with
      | some (.row ty esz' old) =>
        if ty = e ∧ esz' = esz ∧ (start + len) * esz ≤ old.length then
          if (start + len + n) * esz ≤ old.length then some (.slice (.own b) esz start (len + n), H.set b (some (.row ty esz (setSeg old ((start + len) * esz) cs))))
          else if (len + n) * i.2 ≤ 2 ^ 47 then
            some (.slice (fresh H) esz 0 (len + n), hnew (H.set b none) (.row ty esz ((old.drop (start * esz)).take (len * esz) ++ cs)))
          else none
        else none
      | some (.empty true) => if len = 0 ∧ start = 0 ∧ n * i.2 ≤ 2 ^ 47 then some (.slice (fresh H) esz 0 n, hnew H (.row e esz cs)) else none
      | _ => none
      else none
    | _ => none
    else none
  | _ => none
theorem aappend_eq (c : Ctx) (H : AHeap) (st : TypeId) (s x : AV) : aappend c H st s x = aappend2 c H st s x := by
  unfold aappend aappend2 infoSB
  congr 1
  funext d
  cases d <;> try rfl
  rename_i e
  simp only
  cases c.P.info? e <;> rfl

/-- a new row of cells -/
def amakeSlice2 (c : Ctx) (H : AHeap) (t : TypeId) : AV → AV → Option (AV × AHeap)
  | .int _ l, .int _ m => (c.P.underlying t).bind fun d => match d with
    | .slice e => (infoSB c.P e).bind fun i => (zeroCells c.P e).bind fun z =>
      if 0 ≤ l ∧ l ≤ m ∧ i.2 * m ≤ 2 ^ 47 ∧ m < 2 ^ 63 ∧ z.length = i.1 ∧ 0 < i.1 ∧ z.all AV.one then
        some (.slice (fresh H) i.1 0 l.toNat, hnew H (.row e i.1 (reps m.toNat z)))
      else none
    | _ => none
  | _, _ => none
theorem amake_eq (c : Ctx) (H : AHeap) (t : TypeId) (x y : AV) : amakeSlice c H t x y = amakeSlice2 c H t x y := by
  unfold amakeSlice amakeSlice2 infoSB
  split
  · congr 1
    funext d
    cases d <;> try rfl
    rename_i e
    simp only
    cases c.P.info? e <;> rfl
  · rename_i h
    split
    · rename_i k l k' m; exact absurd rfl (h k l k' m rfl)
    · rfl
theorem reps_rep (x : AV) : ∀ n, reps n [x] = List.replicate n x
  | 0 => rfl
  | n + 1 => by simp [reps, reps_rep x n, List.replicate_succ]
theorem ob_ft : ((some false : Option Bool) == some true) = false := rfl
theorem ob_tf : ((some true : Option Bool) == some false) = false := rfl
theorem ob_n (b : Bool) : ((none : Option Bool) == some b) = false := rfl

/-- what is known of two functions that are called -/
def two (f : FuncId) (S : Spec) (g : FuncId) (S' : Spec) : FuncId → Spec := fun h a H v H' => (h = f → S a H v H') ∧ (h = g → S' a H v H')
theorem call_two1 {f : FuncId} {args : List AV} (S : Spec) {g : FuncId} (S' : Spec) (hne : f ≠ g) (h : ∃ v H', Pt κ f args H v H' ∧ S args H v H') : ∃ v H', callT κ (two f S g S') f args H = some (v, H') ∧ S args H v H' := by
  obtain ⟨v, H', h1, h2⟩ := h
  obtain ⟨v, H', h3, h4⟩ := callT_run (T := two f S g S') ⟨v, H', h1, fun _ => h2, fun e => absurd e hne⟩
  exact ⟨v, H', h3, h4.1 rfl⟩
theorem call_two2 {f : FuncId} {args : List AV} (S : Spec) {g : FuncId} (S' : Spec) (hne : f ≠ g) (h : ∃ v H', Pt κ g args H v H' ∧ S' args H v H') : ∃ v H', callT κ (two f S g S') g args H = some (v, H') ∧ S' args H v H' := by
  obtain ⟨v, H', h1, h2⟩ := h
  obtain ⟨v, H', h3, h4⟩ := callT_run (T := two f S g S') ⟨v, H', h1, fun e => absurd e.symm hne, fun _ => h2⟩
  exact ⟨v, H', h3, h4.2 rfl⟩

/-- a region whose operations are run behind the look at its order -/
def R (κ : Kn) (T : FuncId → Spec) (ops : List Oper) (env : AEnv) (H : AHeap) (K : AEnv → AHeap → Prop) : Prop := ∃ env' H', asteps κ.c (callT κ T) ops ops env H = some (env', H') ∧ K env' H'
theorem D.drawR {id : Nat} {ops : Array Oper} (hs : staticOk ops.toList = true) (h : R κ T ops.toList env H (K .normal)) : D κ (.region id ops true) env H K := by
  obtain ⟨env', H', h1, h2⟩ := h
  exact D.draw hs h1 h2

/-! ### a row of one's own that grows -/

def Own (H : AHeap) (v : AV) (e : TypeId) (xs : List AV) : Prop :=
  (v = .nilslice ∧ xs = []) ∨ ∃ b, v = .slice (.own b) 1 0 xs.length ∧ hat H b = some (.row e 1 xs)

theorem Own.nil {e : TypeId} : Own H .nilslice e [] := .inl ⟨rfl, rfl⟩
theorem Own.sl {v : AV} {e : TypeId} {xs : List AV} (h : Own H v e xs) : Sl c H v xs := by
  rcases h with h | ⟨b, rfl, hb⟩
  · exact .inl ⟨.inl h.1, h.2⟩
  · exact .inr ⟨.own b, 0, rfl, fun _ => ⟨xs, by simp only [rowOf, hb], by simp⟩⟩
theorem Own.lt {v : AV} {e : TypeId} {xs : List AV} (h : Own H v e xs) {b : Nat} (hb : v.at? = some b) : b < H.length := by
  rcases h with ⟨rfl, _⟩ | ⟨b', rfl, h⟩
  · simp [AV.at?] at hb
  · simp only [AV.at?, Option.some.injEq] at hb; subst hb; exact hat_lt h
theorem Own.keep {v : AV} {e : TypeId} {xs : List AV} (h : Own H v e xs) {H' : AHeap} (hk : ∀ b, v.at? = some b → hat H' b = hat H b) : Own H' v e xs := by
  rcases h with h | ⟨b, rfl, h⟩
  · exact .inl h
  · exact .inr ⟨b, rfl, by rw [hk b rfl]; exact h⟩

/-- 's = append(s, x)' -/
theorem Own.app {v : AV} {e : TypeId} {xs : List AV} (h : Own H v e xs) {t : TypeId} {k : Nat} {z x : AV} (ht : c.P.underlying t = some (.slice e)) (hi : infoSB c.P e = some (1, k)) (hz : zeroCells c.P e = some [z]) (hk : 0 < k) (hx : x.one = true) (hn : (xs.length + 1) * k ≤ 2 ^ 47) :
    ∃ v' H', aappend c (hnew H (.row e 1 [x])) t v (.slice (.own H.length) 1 0 1) = some (v', H') ∧ Own H' v' e (xs ++ [x]) ∧ Keep H H' (fun j => v.at? = some j) ∧ (∃ b, v'.at? = some b ∧ H.length ≤ b) := by
  rw [aappend_eq]
  have hsrc : source c (hnew H (.row e 1 [x])) 1 (.slice (.own H.length) 1 0 1) = some (1, [x]) := by
    simp [source, rd_own (hat_nn _)]
  rcases h with ⟨rfl, rfl⟩ | ⟨b, rfl, hb⟩
  · refine ⟨.slice (.own (H.length + 1)) 1 0 1, hnew (hnew H (.row e 1 [x])) (.row e 1 [x]), ?_, .inr ⟨H.length + 1, rfl, ?_⟩, ⟨by simp [hnew], fun j hj _ => ?_⟩, H.length + 1, rfl, by omega⟩
    · simp only [aappend2, ht, Option.bind_some, hi, hz, hsrc]
      rw [if_pos ⟨by omega, hk, by trivial⟩, if_neg (by omega), if_pos ⟨by simpa using hn, by simp [hx]⟩]
      simp [fresh, len_new]
    · have := hat_nn (H := hnew H (.row e 1 [x])) (.row e 1 [x])
      rw [len_new] at this
      exact this
    · rw [hat_nw _ (by rw [len_new]; omega), hat_nw _ hj]
  · have hbl := hat_lt hb
    have hb' : hat (hnew H (.row e 1 [x])) b = some (.row e 1 xs) := by rw [hat_nw _ hbl]; exact hb
    refine ⟨.slice (.own (H.length + 1)) 1 0 (xs.length + 1), hnew ((hnew H (.row e 1 [x])).set b none) (.row e 1 (xs ++ [x])), ?_, .inr ⟨H.length + 1, by simp, ?_⟩, ⟨by simp [hnew]; omega, fun j hj hne => ?_⟩, H.length + 1, rfl, by omega⟩
    · simp only [aappend2, ht, Option.bind_some, hi, hz, hsrc]
      rw [if_pos ⟨by omega, hk, by trivial⟩, if_neg (by omega), if_pos ⟨by trivial, by simp [hx]⟩, hb']
      simp only []
      rw [if_pos ⟨by trivial, by trivial, by simp⟩, if_neg (by simp), if_pos hn]
      simp [fresh, len_new]
    · have := hat_nn (H := (hnew H (.row e 1 [x])).set b none) (.row e 1 (xs ++ [x]))
      rw [List.length_set, len_new] at this
      exact this
    · have hjb : j ≠ b := fun e' => hne (by rw [e']; rfl)
      rw [hat_nw _ (by rw [List.length_set, len_new]; omega), hat_ne _ hjb, hat_nw _ hj]

theorem D.regC {id : Nat} {ops : Array Oper} {env' : AEnv} {H' : AHeap} {f : FuncId} {as_ : List AV} {H0 : AHeap} {r : AV × AHeap} (_ : callT κ T f as_ H0 = some r) (h : asteps κ.c (callT κ T) ops.toList ops.toList env H = some (env', H')) (k : K .normal env' H') : D κ (.region id ops false) env H K := D.region h k
theorem D.drawC {id : Nat} {ops : Array Oper} {env' : AEnv} {H' : AHeap} {f : FuncId} {as_ : List AV} {H0 : AHeap} {r : AV × AHeap} (_ : callT κ T f as_ H0 = some r) (hs : staticOk ops.toList = true) (h : asteps κ.c (callT κ T) ops.toList ops.toList env H = some (env', H')) (k : K .normal env' H') : D κ (.region id ops true) env H K := D.draw hs h k

/-- what code is to reach, if it goes on -/
def Kc (P : AEnv → AHeap → Prop) : AExit → AEnv → AHeap → Prop := fun e env H => match e with
  | .normal => P env H
  | _ => False
theorem Kc_n {P : AEnv → AHeap → Prop} : Kc P .normal env H = P env H := rfl
theorem D.cut {code : Code} (P : AEnv → AHeap → Prop) (h : D κ code env H (Kc P)) (k : ∀ env' H', P env' H' → K .normal env' H') : D κ code env H K :=
  h.mono fun e env' H' hp => by
    cases e with
    | normal => exact k env' H' hp
    | _ => exact hp.elim
/-- the same, where the code may also return or leave -/
def Kx (P : AEnv → AHeap → Prop) (K : AExit → AEnv → AHeap → Prop) : AExit → AEnv → AHeap → Prop := fun e env H => match e with
  | .normal => P env H
  | e => K e env H
theorem Kx_n {P : AEnv → AHeap → Prop} : Kx P K .normal env H = P env H := rfl
theorem Kx_e {P : AEnv → AHeap → Prop} {i : Nat} : Kx P K (.exit i) env H = K (.exit i) env H := rfl
theorem Kx_r {P : AEnv → AHeap → Prop} : Kx P K .ret env H = K .ret env H := rfl
theorem D.cutx {code : Code} (P : AEnv → AHeap → Prop) (h : D κ code env H (Kx P K)) (k : ∀ env' H', P env' H' → K .normal env' H') : D κ code env H K :=
  h.mono fun e env' H' hp => by
    cases e with
    | normal => exact k env' H' hp
    | _ => exact hp
theorem cells_bool (b : Bool) : (AV.bool b).cells = [AV.bool b] := rfl
theorem one_bool (b : Bool) : (AV.bool b).one = true := rfl
theorem cells_int (k : IntKind) (n : Int) : (AV.int k n).cells = [AV.int k n] := rfl
theorem one_int (k : IntKind) (n : Int) : (AV.int k n).one = true := rfl
theorem cells_str (s : List UInt8) : (AV.str s).cells = [AV.str s] := rfl
theorem one_str (s : List UInt8) : (AV.str s).one = true := rfl
theorem cells_nilptr  : (AV.nilptr ).cells = [AV.nilptr ] := rfl
theorem one_nilptr  : (AV.nilptr ).one = true := rfl
theorem cells_ptr (l : Loc) (o : Nat) : (AV.ptr l o).cells = [AV.ptr l o] := rfl
theorem one_ptr (l : Loc) (o : Nat) : (AV.ptr l o).one = true := rfl
theorem cells_nilslice  : (AV.nilslice ).cells = [AV.nilslice ] := rfl
theorem one_nilslice  : (AV.nilslice ).one = true := rfl
theorem cells_slice (l : Loc) (a b d : Nat) : (AV.slice l a b d).cells = [AV.slice l a b d] := rfl
theorem one_slice (l : Loc) (a b d : Nat) : (AV.slice l a b d).one = true := rfl
theorem cells_nilmap  : (AV.nilmap ).cells = [AV.nilmap ] := rfl
theorem one_nilmap  : (AV.nilmap ).one = true := rfl
theorem cells_map (l : Loc) : (AV.map l).cells = [AV.map l] := rfl
theorem one_map (l : Loc) : (AV.map l).one = true := rfl
theorem cells_nilfunc  : (AV.nilfunc ).cells = [AV.nilfunc ] := rfl
theorem one_nilfunc  : (AV.nilfunc ).one = true := rfl
theorem cells_func (f : Fn) (a b : List AV) : (AV.func f a b).cells = [AV.func f a b] := rfl
theorem one_func (f : Fn) (a b : List AV) : (AV.func f a b).one = true := rfl
theorem cells_niliface  : (AV.niliface ).cells = [AV.niliface ] := rfl
theorem one_niliface  : (AV.niliface ).one = true := rfl
theorem cells_iface (t : TypeId) (v : AV) : (AV.iface t v).cells = [AV.iface t v] := rfl
theorem one_iface (t : TypeId) (v : AV) : (AV.iface t v).one = true := rfl
theorem cells_agg (l : List AV) : (AV.agg l).cells = l := rfl

/-! ### operations, one rule each (not by unfolding, so that the kernel need not find its way) -/
section ops
variable {call : Callee} {ops : List Oper}
/-- the rest of a region, behind a result -/
def nxt (c : Ctx) (call : Callee) (ops r : List Oper) (d : Option Tmp) (env : AEnv) : Option (ARes × AHeap) → Option (AEnv × AHeap)
  | some (.val v, H) => asteps c call ops r (eput env d (some v)) H
  | some (.skip, H) => asteps c call ops r (eput env d (some .undef)) H
  | some (.call f args, H) => (call f args H).bind fun p => asteps c call ops r (eput env d (some p.1)) p.2
  | none => none
def nxc (c : Ctx) (call : Callee) (ops r : List Oper) (d : Option Tmp) (env : AEnv) : Option (AV × AHeap) → Option (AEnv × AHeap)
  | some (v, H) => asteps c call ops r (eput env d (some v)) H
  | none => none
def nif (c : Ctx) (call : Callee) (ops r : List Oper) (d : Option Tmp) (op : Op) (env : AEnv) (H : AHeap) (w : Bool) : Option (Option Bool) → Option (AEnv × AHeap)
  | some y => if y = some w then nxt c call ops r d env (aop c env op H) else asteps c call ops r (eput env d (some .undef)) H
  | none => none
theorem s_nil (env : AEnv) (H : AHeap) : asteps c call ops [] env H = some (env, H) := Eq.trans rfl (Eq.refl _)
theorem s_go (d : Option Tmp) (op : Op) (ty : TypeId) (pos : String) (af : Array Edge) (r : List Oper) (env : AEnv) (H : AHeap) :
    asteps c call ops ({ dst := d, op := op, type := ty, pos := pos, after := af, guard := none } :: r) env H = nxt c call ops r d env (aop c env op H) := by
  simp only [asteps, astep, awanted, Option.bind_some, if_true]
  cases aop c env op H with
  | none => rfl
  | some p =>
    obtain ⟨x, H'⟩ := p
    cases x with
    | call f args =>
      simp only [Option.bind_some, nxt]
      cases call f args H' <;> rfl
    | _ => rfl
theorem s_if (d : Option Tmp) (op : Op) (ty : TypeId) (pos : String) (af : Array Edge) (j : Nat) (w : Bool) (r : List Oper) (env : AEnv) (H : AHeap) :
    asteps c call ops ({ dst := d, op := op, type := ty, pos := pos, after := af, guard := some (j, w) } :: r) env H = nif c call ops r d op env H w (ayield ops env j) := by
  simp only [asteps, astep, awanted]
  cases ayield ops env j with
  | none => rfl
  | some y =>
    simp only [Option.map_some, Option.bind_some, nif]
    by_cases h : y = some w
    · have h' : (y == some w) = true := by simpa using h
      rw [h', if_pos h]
      simp only [if_true]
      cases aop c env op H with
      | none => rfl
      | some p =>
        obtain ⟨x, H'⟩ := p
        cases x with
        | call f args =>
          simp only [Option.bind_some, nxt]
          cases call f args H' <;> rfl
        | _ => rfl
    · have h' : (y == some w) = false := by simpa using h
      rw [h', if_neg h]
      rfl
theorem n_val (r : List Oper) (d : Option Tmp) (env : AEnv) (v : AV) (H : AHeap) : nxt c call ops r d env (some (.val v, H)) = asteps c call ops r (eput env d (some v)) H := Eq.trans rfl (Eq.refl _)
theorem n_skip (r : List Oper) (d : Option Tmp) (env : AEnv) (H : AHeap) : nxt c call ops r d env (some (.skip, H)) = asteps c call ops r (eput env d (some .undef)) H := Eq.trans rfl (Eq.refl _)
theorem n_call (r : List Oper) (d : Option Tmp) (env : AEnv) (f : FuncId) (args : List AV) (H : AHeap) : nxt c call ops r d env (some (.call f args, H)) = nxc c call ops r d env (call f args H) := by
  simp only [nxt]; cases call f args H <;> rfl
theorem n_back (r : List Oper) (d : Option Tmp) (env : AEnv) (v : AV) (H : AHeap) : nxc c call ops r d env (some (v, H)) = asteps c call ops r (eput env d (some v)) H := Eq.trans rfl (Eq.refl _)
theorem i_tt (r : List Oper) (d : Option Tmp) (op : Op) (env : AEnv) (H : AHeap) : nif c call ops r d op env H true (some (some true)) = nxt c call ops r d env (aop c env op H) := by simp only [nif, if_true]
theorem i_ff (r : List Oper) (d : Option Tmp) (op : Op) (env : AEnv) (H : AHeap) : nif c call ops r d op env H false (some (some false)) = nxt c call ops r d env (aop c env op H) := by simp only [nif, if_true]
theorem i_tf (r : List Oper) (d : Option Tmp) (op : Op) (env : AEnv) (H : AHeap) : nif c call ops r d op env H true (some (some false)) = asteps c call ops r (eput env d (some .undef)) H := by simp [nif]
theorem i_ft (r : List Oper) (d : Option Tmp) (op : Op) (env : AEnv) (H : AHeap) : nif c call ops r d op env H false (some (some true)) = asteps c call ops r (eput env d (some .undef)) H := by simp [nif]
theorem i_n (r : List Oper) (d : Option Tmp) (op : Op) (env : AEnv) (H : AHeap) (w : Bool) : nif c call ops r d op env H w (some none) = asteps c call ops r (eput env d (some .undef)) H := by simp [nif]
theorem p_some (v : AV) (H : AHeap) : pair (some v) H = some (.val v, H) := Eq.trans rfl (Eq.refl _)
theorem b_some (v : AV) (H : AHeap) : both (some (v, H)) = some (.val v, H) := Eq.trans rfl (Eq.refl _)
theorem d_some (H : AHeap) : done (some H) = some (.skip, H) := Eq.trans rfl (Eq.refl _)
variable (env : AEnv) (H : AHeap)
theorem v_tmp (t : Tmp) : aval env (.tmp t) = eget env t := Eq.trans rfl (Eq.refl _)
theorem v_const (v : Value) : aval env (.const v) = constAV v := Eq.trans rfl (Eq.refl _)
theorem v_func (f : FuncId) : aval env (.func f) = some (.func (.func f) [] []) := Eq.trans rfl (Eq.refl _)
theorem v_glob (g : Nat) : aval env (.global g) = some (.ptr (.ext [0, g]) 0) := Eq.trans rfl (Eq.refl _)
theorem vs_nil : avals env [] = some [] := Eq.trans rfl (Eq.refl _)
theorem vs_cons (x : Operand) (r : List Operand) : avals env (x :: r) = (aval env x).bind fun a => (avals env r).bind fun b => some (a :: b) := Eq.trans rfl (Eq.refl _)
theorem o_move (x : Operand) : aop c env (.move x) H = pair (aval env x) H := Eq.trans rfl (Eq.refl _)
theorem o_assign (x : Operand) : aop c env (.assign x) H = pair (aval env x) H := Eq.trans rfl (Eq.refl _)
theorem o_pick (q a b : Operand) : aop c env (.pick q a b) H = (aval env q).bind fun v => match v with | .bool t => pair (if t then aval env a else aval env b) H | _ => none := Eq.trans rfl (Eq.refl _)
theorem o_alloc (t : TypeId) : aop c env (.alloc t) H = (zeroCells c.P t).bind fun z => both (anew c H t z) := Eq.trans rfl (Eq.refl _)
theorem o_box (t : TypeId) (x : Operand) : aop c env (.box t x) H = (aval env x).bind fun v => both (anew c H t v.cells) := Eq.trans rfl (Eq.refl _)
theorem o_build (t : TypeId) (ps : Array (Nat × Operand)) : aop c env (.build t ps) H = (mapO (fun p => (aval env p.2).map fun v => (p.1, v)) ps.toList).bind fun l => pair (abuild c t l) H := Eq.trans rfl (Eq.refl _)
theorem o_bslice (t : TypeId) (n : Nat) (ps : Array (Nat × Operand)) : aop c env (.buildSlice t n ps) H = (mapO (fun p => (aval env p.2).map fun v => (p.1, v)) ps.toList).bind fun l => both (abuildSlice c H t n l) := Eq.trans rfl (Eq.refl _)
theorem o_load (t : TypeId) (a : Operand) : aop c env (.load t a) H = (aval env a).bind fun p => pair (aload c H t p) H := Eq.trans rfl (Eq.refl _)
theorem o_store (t : TypeId) (a x : Operand) : aop c env (.store t a x) H = (aval env a).bind fun p => (aval env x).bind fun v => done (astore c H t p v) := Eq.trans rfl (Eq.refl _)
theorem o_nil (x : Operand) : aop c env (.nilCheck x) H = (aval env x).bind fun v => match v with
    | .ptr l off => some (.val (.ptr l off), H)
    | .func (.func f) a b => some (.val (.func (.func f) a b), H)
    | .iface t v => some (.val (.iface t v), H)
    | _ => none := Eq.trans rfl (Eq.refl _)
theorem o_bin (op : BinOp) (t : TypeId) (x y : Operand) (yt : TypeId) : aop c env (.binOp op t x y yt) H = (aval env x).bind fun a => (aval env y).bind fun b => pair (abin c op t a b) H := Eq.trans rfl (Eq.refl _)
theorem o_un (op : UnOp) (t : TypeId) (x : Operand) : aop c env (.unOp op t x) H = (aval env x).bind fun a => pair (aun op a) H := Eq.trans rfl (Eq.refl _)
theorem o_conv (s d : TypeId) (x : Operand) : aop c env (.convert s d x) H = (aval env x).bind fun a => pair (aconv c s d a) H := Eq.trans rfl (Eq.refl _)
theorem o_mkfn (fn : Fn) (f k : Array Operand) : aop c env (.makeFunc fn f k) H = (avals env f.toList).bind fun a => (avals env k.toList).bind fun b => some (.val (.func fn a b), H) := Eq.trans rfl (Eq.refl _)
theorem o_mkmap (t : TypeId) : aop c env (.makeMap t none) H = some (.val (.map (fresh H)), hnew H (.map [] 0)) := Eq.trans rfl (Eq.refl _)
theorem o_mksl (t : TypeId) (l m : Operand) : aop c env (.makeSlice t l m) H = (aval env l).bind fun a => (aval env m).bind fun b => both (amakeSlice c H t a b) := Eq.trans rfl (Eq.refl _)
theorem o_slice (t : TypeId) (x : Operand) (lo hi mx : Option Operand) : aop c env (.slice t x lo hi mx) H = (aval env x).bind fun a => (optval env lo).bind fun l => (optval env hi).bind fun h => (optval env mx).bind fun m => both (aslice c H t a l h m) := Eq.trans rfl (Eq.refl _)
theorem o_fa (s : TypeId) (x : Operand) (f : Nat) : aop c env (.fieldAddr s x f) H = (aval env x).bind fun a => pair (afieldAddr c s a f) H := Eq.trans rfl (Eq.refl _)
theorem o_field (s : TypeId) (x : Operand) (f : Nat) : aop c env (.field s x f) H = (aval env x).bind fun a => pair (afield c s a f) H := Eq.trans rfl (Eq.refl _)
theorem o_ia (t : TypeId) (x i : Operand) : aop c env (.indexAddr t x i) H = (aval env x).bind fun a => (aval env i).bind fun b => pair (aindexAddr c t a b) H := Eq.trans rfl (Eq.refl _)
theorem o_idx (t : TypeId) (x i : Operand) : aop c env (.index t x i) H = (aval env x).bind fun a => (aval env i).bind fun b => pair (aindex c t a b) H := Eq.trans rfl (Eq.refl _)
theorem o_look (t : TypeId) (m k : Operand) (ok : Bool) : aop c env (.lookup t m k ok) H = (aval env m).bind fun a => (aval env k).bind fun b => pair (alookup c H t a b ok) H := Eq.trans rfl (Eq.refl _)
theorem o_mapup (t : TypeId) (m k v : Operand) : aop c env (.mapUpdate t m k v) H = (aval env m).bind fun a => (aval env k).bind fun b => (aval env v).bind fun x => done (amapUpdate c H t a b x) := Eq.trans rfl (Eq.refl _)
theorem o_ext (x : Operand) (i : Nat) : aop c env (.extract x i) H = (aval env x).bind fun v => match v with | .tuple l => pair (l[i]?) H | _ => none := Eq.trans rfl (Eq.refl _)
theorem o_call (f : FuncId) (as_ : Array Operand) (ts : Array TypeId) : aop c env (.call { callee := .value (.func f), args := as_, argTypes := ts }) H = (avals env as_.toList).bind fun args => if hasBody c.P f = true then some (.call f args, H) else (aext c.P f args).map fun v => (.val v, H) := by
  simp only [aop, acallee, aval, Option.bind_some, List.nil_append, List.append_nil]
theorem o_built (b : Builtin) (as_ : Array Operand) (ts : Array TypeId) : aop c env (.call { callee := .builtin b, args := as_, argTypes := ts }) H = (avals env as_.toList).bind fun args => both (abuiltin c H b ts.toList args) := by
  simp only [aop, acallee]
  congr 1
theorem bu_len (t : TypeId) (ts : List TypeId) (x : AV) : abuiltin c H .len (t :: ts) [x] = (alen c H t x).map fun v => (v, H) := Eq.trans rfl (Eq.refl _)
def appOf (d : Option TypeDesc) (r : Option (AV × AHeap)) : Option (AV × AHeap) := d.bind fun d => match d with | .int _ => none | _ => r
theorem bu_app (t t2 : TypeId) (ts : List TypeId) (s x : AV) : abuiltin c H .append (t :: t2 :: ts) [s, x] = appOf (c.P.underlying t2) (aappend c H t s x) := Eq.trans rfl (Eq.refl _)
theorem app_sl (e : TypeId) (r : Option (AV × AHeap)) : appOf (some (.slice e)) r = r := Eq.trans rfl (Eq.refl _)
theorem bu_copy (t : TypeId) (ts : List TypeId) (d s : AV) : abuiltin c H .copy (t :: ts) [d, s] = acopy c H t d s := Eq.trans rfl (Eq.refl _)
theorem bu_del (t : TypeId) (ts : List TypeId) (m k : AV) : abuiltin c H .delete (t :: ts) [m, k] = (adelete c H t m k).map fun H' => (.tuple [], H') := Eq.trans rfl (Eq.refl _)
theorem bu_max (ts : List TypeId) (l : List AV) : abuiltin c H .max ts l = (aminmax true l).map fun v => (v, H) := by cases ts <;> rfl
theorem bu_min (ts : List TypeId) (l : List AV) : abuiltin c H .min ts l = (aminmax false l).map fun v => (v, H) := by cases ts <;> rfl
theorem o_inv (x : Operand) (name : String) (as_ : Array Operand) (ts : Array TypeId) : aop c env (.call { callee := .invoke x name, args := as_, argTypes := ts }) H = (avals env as_.toList).bind fun args => (aval env x).bind fun r => match r with
    | .iface t v => (amethod c H t v name).bind fun p => if hasBody c.P p.1 = true then some (.call p.1 (p.2 :: args), H) else none
    | _ => none := by
  simp only [aop, acallee]
  cases avals env as_.toList with
  | none => rfl
  | some args => cases aval env x with
    | none => rfl
    | some r => cases r <;> rfl
theorem o_mkif (t : TypeId) (x : Operand) : aop c env (.makeInterface t x) H = (aval env x).bind fun a => (c.P.underlying t).bind fun d => match d with
    | .interface _ => none
    | _ => some (.val (.iface t a), H) := Eq.trans rfl (Eq.refl _)
theorem o_ta (x : Operand) (xt t : TypeId) (ok : Bool) : aop c env (.typeAssert x xt t ok) H = (aval env x).bind fun v => (c.P.underlying t).bind fun d => match d, v with
    | .interface _, _ => none
    | _, .iface u w => if u = t then some (.val (if ok then .tuple [w, .bool true] else w), H) else if ok then (zeroAV c.P t).map fun z => (.val (.tuple [z, .bool false]), H) else none
    | _, .niliface => if ok then (zeroAV c.P t).map fun z => (.val (.tuple [z, .bool false]), H) else none
    | _, _ => none := Eq.trans rfl (Eq.refl _)
theorem o_ment (t : TypeId) (m k : Operand) : aop c env (.mapEntry t m k) H = (aval env m).bind fun a => (aval env k).bind fun b => both (amapEntry c H t a b) := Eq.trans rfl (Eq.refl _)
theorem o_est (t : TypeId) (m s v : Operand) : aop c env (.entryStore t m s v) H = (aval env m).bind fun a => (aval env s).bind fun b => (aval env v).bind fun x => done (aentryStore H a b x) := Eq.trans rfl (Eq.refl _)
end ops

/-! ### maps with their entries' order -/
structure ML (H : AHeap) (m : Nat) (l : List (Int × Int × Nat)) (clock : Nat) : Prop where
  at_ : hat H m = some (.map (l.map enc) clock)
  nodup : (l.map (·.1)).Nodup
  born : ∀ e ∈ l, e.2.2 < clock
  bnd : (l.map (·.2.2)).Nodup
theorem ML.keep {m : Nat} {l : List (Int × Int × Nat)} {k : Nat} (h : ML H m l k) {H' : AHeap} (e : hat H' m = hat H m) : ML H' m l k := ⟨by rw [e]; exact h.at_, h.nodup, h.born, h.bnd⟩
theorem ML.im {m : Nat} {l : List (Int × Int × Nat)} {k : Nat} (h : ML H m l k) : IM H m (mget l) := ⟨l, k, h.at_, h.nodup, fun _ => rfl⟩
theorem ML.lt {m : Nat} {l : List (Int × Int × Nat)} {k : Nat} (h : ML H m l k) : m < H.length := hat_lt h.at_
theorem idx_none {k : Int} {l : List (Int × Int × Nat)} (h : mget l k = none) : (l.findIdx? fun e => e.1 == k) = none := by
  cases hq : l.findIdx? (fun e => e.1 == k) with
  | none => rfl
  | some j =>
    obtain ⟨e, he, hk⟩ := idx_key hq
    rw [mget_idx, hq, Option.bind_some, he] at h
    cases h
theorem stamp_last {k : Int} {v : AV} : ∀ (l : List (Int × Int × Nat)) (j clock : Nat), (∀ e ∈ l, e.2.2 < clock) → stampAt (clock : Int) (l.map enc ++ [(.int .i64 k, v, clock)]) j = some (j + l.length)
  | [], j, clock, _ => by simp [stampAt]
  | e :: r, j, clock, h => by
    have h1 : e.2.2 < clock := h e (by simp)
    have h2 : ((e.2.2 : Int) == (clock : Int)) = false := by simp; omega
    simp only [List.map_cons, List.cons_append, stampAt, enc, h2, Bool.false_eq_true, if_false]
    rw [stamp_last r (j + 1) clock (fun x hx => h x (by simp [hx]))]
    simp; omega
/-- a new entry, put and then stored into -/
theorem ML.ent {m : Nat} {l : List (Int × Int × Nat)} {clock : Nat} (h : ML H m l clock) {t kt vt : TypeId} (ht : c.P.underlying t = some (.map kt vt)) (hk : c.P.underlying kt = some (.int .i64)) (hz : zeroAV c.P vt = some (.int .i64 0)) {k : Int} (v : Int) (h0 : mget l k = none) :
    amapEntry c H t (.map (.own m)) (.int .i64 k) = some (.tuple [.int .i64 0, .int .i64 clock], H.set m (some (.map (l.map enc ++ [(.int .i64 k, .int .i64 0, clock)]) (clock + 1)))) ∧
    aentryStore (H.set m (some (.map (l.map enc ++ [(.int .i64 k, .int .i64 0, clock)]) (clock + 1)))) (.map (.own m)) (.int .i64 clock) (.int .i64 v) = some (H.set m (some (.map ((l ++ [(k, v, clock)]).map enc) (clock + 1)))) ∧
    ML (H.set m (some (.map ((l ++ [(k, v, clock)]).map enc) (clock + 1)))) m (l ++ [(k, v, clock)]) (clock + 1) := by
  have hm := h.lt
  have hno : ∀ e ∈ l, e.1 ≠ k := by
    intro e he hk'
    have := mget_mem h.nodup he
    rw [hk', h0] at this; cases this
  refine ⟨?_, ?_, ⟨hat_eq _ hm, ?_, ?_, ?_⟩⟩
  · simp only [amapEntry, ht, Option.bind_some, hk, keyOk, if_true, h.at_, find_enc, idx_none h0, Option.bind_none, hz, Option.map_some]
  · simp only [aentryStore, hat_eq _ hm, stamp_last l 0 clock h.born, Option.map_some, List.set_set]
    congr 4
    rw [Nat.zero_add, List.map_append]
    apply List.ext_getElem?
    intro i
    rw [List.getElem?_modify]
    by_cases hi : l.length = i
    · subst hi
      rw [List.getElem?_append_right (by simp), List.getElem?_append_right (by simp)]
      simp [enc]
    · rcases Nat.lt_or_ge i l.length with h1 | h1
      · rw [List.getElem?_append_left (by simpa using h1), List.getElem?_append_left (by simpa using h1)]
        simp only [if_neg hi]
        cases (l.map enc)[i]? <;> rfl
      · rw [List.getElem?_eq_none (by simp; omega), List.getElem?_eq_none (by simp; omega)]; rfl
  · rw [List.map_append, List.nodup_append]
    refine ⟨h.nodup, by simp, ?_⟩
    intro a ha b hb e
    obtain ⟨x, hx, rfl⟩ := List.mem_map.1 ha
    simp at hb
    exact hno x hx (e.trans hb)
  · intro e he
    rcases List.mem_append.1 he with h1 | h1
    · have := h.born e h1; omega
    · simp at h1; subst h1; simp
  · rw [List.map_append, List.nodup_append]
    refine ⟨h.bnd, by simp, ?_⟩
    intro a ha b hb e
    obtain ⟨x, hx, rfl⟩ := List.mem_map.1 ha
    simp at hb
    have := h.born x hx; omega
/-- an entry taken out -/
theorem ML.del {m : Nat} {l : List (Int × Int × Nat)} {clock : Nat} (h : ML H m l clock) {t kt vt : TypeId} (ht : c.P.underlying t = some (.map kt vt)) (hk : c.P.underlying kt = some (.int .i64)) {k v : Int} (h0 : mget l k = some v) :
    ∃ l', adelete c H t (.map (.own m)) (.int .i64 k) = some (H.set m (some (.map (l'.map enc) clock))) ∧ ML (H.set m (some (.map (l'.map enc) clock))) m l' clock ∧ l'.length + 1 = l.length ∧ ∀ e, e ∈ l' ↔ e ∈ l ∧ e.1 ≠ k := by
  have hm := h.lt
  cases hq : l.findIdx? (fun e => e.1 == k) with
  | none => rw [mget_idx, hq] at h0; cases h0
  | some j =>
    obtain ⟨e, he, hek⟩ := idx_key hq
    have hjl : j < l.length := (List.getElem?_eq_some_iff.1 he).1
    have hej : l[j] = e := (List.getElem?_eq_some_iff.1 he).2
    refine ⟨l.eraseIdx j, ?_, ⟨hat_eq _ hm, ?_, ?_, ?_⟩, by rw [List.length_eraseIdx_of_lt hjl]; omega, ?_⟩
    · simp only [adelete, ht, Option.bind_some, hk, keyOk, if_true, h.at_, find_enc, hq, he, Option.map_some, Nat.zero_add, er_map]
    · rw [← er_map]; exact h.nodup.sublist (List.eraseIdx_sublist _ _)
    · intro x hx; exact h.born x (List.mem_of_mem_eraseIdx hx)
    · rw [← er_map]; exact h.bnd.sublist (List.eraseIdx_sublist _ _)
    · intro x
      rw [List.mem_eraseIdx_iff_getElem]
      constructor
      · rintro ⟨i, hi, hij, rfl⟩
        refine ⟨List.getElem_mem hi, fun hk' => ?_⟩
        have : (l.map (·.1))[i]'(by simpa using hi) = (l.map (·.1))[j]'(by simpa using hjl) := by simp [hk', hej, hek]
        exact hij (nodup_inj h.nodup this)
      · rintro ⟨hx, hk'⟩
        obtain ⟨i, hi, rfl⟩ := List.getElem_of_mem hx
        refine ⟨i, hi, fun e => ?_, rfl⟩
        subst e
        rw [hej, hek] at hk'; exact hk' rfl
end Go.AM
