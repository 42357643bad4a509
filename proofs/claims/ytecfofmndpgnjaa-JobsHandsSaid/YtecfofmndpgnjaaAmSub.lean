/-
  REGIONS THAT DRAW THEIR ORDER, few of whose operations turn the heap (own work): every set of those that may have been run is tried.
-/
import Derived.Test.YtecfofmndpgnjaaAmFree
namespace Go.AM
open Go.RowKit
set_option linter.unusedSimpArgs false

variable {c : Ctx} {base : Nat} {w0 w : World} {ρ : Pl} {H : AHeap}

def subsOf : List Bool → List (List Bool)
  | [] => [[]]
  | false :: r => (subsOf r).map (false :: ·)
  | true :: r => (subsOf r).map (false :: ·) ++ (subsOf r).map (true :: ·)

theorem mem_subs : ∀ {mv l : List Bool}, l.length = mv.length → (∀ i, l.getD i false = true → mv.getD i false = true) → l ∈ subsOf mv
  | [], l, hl, _ => by
    have : l = [] := List.eq_nil_of_length_eq_zero hl
    subst this; simp [subsOf]
  | m :: r, [], hl, _ => by simp at hl
  | m :: r, x :: l, hl, h => by
    have ih : l ∈ subsOf r := mem_subs (by simpa using hl) (fun i hi => by simpa using h (i + 1) (by simpa using hi))
    cases m with
    | false =>
      have hx : x = false := by
        cases x with
        | false => rfl
        | true => simpa using h 0 rfl
      subst hx
      exact List.mem_map.2 ⟨l, ih, rfl⟩
    | true =>
      cases x with
      | false => exact List.mem_append.2 (.inl (List.mem_map.2 ⟨l, ih, rfl⟩))
      | true => exact List.mem_append.2 (.inr (List.mem_map.2 ⟨l, ih, rfl⟩))

/-- the heap when those of S have been run -/
def heapS (f : Nat → AHeap → AHeap) (S : Nat → Bool) (H : AHeap) : Nat → AHeap
  | 0 => H
  | k + 1 => if S k then f k (heapS f S H k) else heapS f S H k

theorem heapS_congr {f : Nat → AHeap → AHeap} {S S' : Nat → Bool} {H : AHeap} : ∀ k, (∀ i, i < k → S i = S' i) → heapS f S H k = heapS f S' H k
  | 0, _ => rfl
  | k + 1, h => by
    simp only [heapS]
    rw [h k (Nat.lt_succ_self _), heapS_congr k (fun i hi => h i (by omega))]

theorem heapS_none {f : Nat → AHeap → AHeap} {S : Nat → Bool} {H : AHeap} : ∀ k, (∀ i, i < k → S i = false) → heapS f S H k = H
  | 0, _ => rfl
  | k + 1, h => by
    simp only [heapS]
    rw [h k (Nat.lt_succ_self _)]
    simpa using heapS_none k (fun i hi => h i (by omega))

def oneS (c : Ctx) (call : Callee) (ops : List Oper) (env : AEnv) (t : List (Option AV × AHeap)) (j : Nat) (K : AHeap) : AHeap :=
  match stepV c call ops (opsOf ops j) (envK (fun i => (ops.getD i default).dst) (fun i => (t.getD i dft).1) (fun _ => true) env j) K with
  | some p => p.2
  | none => K

def mayBe (ops : List Oper) (b : Array Nat) (mv : List Bool) (l : List Bool) (j : Nat) : Bool :=
  (List.range ops.length).all fun i => !mv.getD i false || ((!(b.getD j 0).testBit i || l.getD i false) && (!(b.getD i 0).testBit j || !l.getD i false))

def subOk (c : Ctx) (call : Callee) (ops : List Oper) (env : AEnv) (H : AHeap) (t : List (Option AV × AHeap)) : Bool :=
  let mv := (List.range ops.length).map fun i => (moves ops H t).getD i false
  Nat.ble (mv.filter id).length 3 && (edgesOk ops && (apartOk ops && (
    heapEq (heapS (oneS c call ops env t) (fun i => mv.getD i false) H ops.length) (heapsOf H t ops.length) &&
    (subsOf mv).all fun l => (List.range ops.length).all fun j => l.getD j false || (!mayBe ops (Region.before ops.toArray) mv l j ||
      sameStep (stepV c call ops (opsOf ops j) (envK (fun i => (ops.getD i default).dst) (fun i => (t.getD i dft).1) (fun _ => true) env j) (heapS (oneS c call ops env t) (fun i => l.getD i false) H ops.length))
        (t.getD j dft).1 (heapS (oneS c call ops env t) (fun i => if Nat.beq i j then mv.getD j false else l.getD i false) H ops.length)))))

theorem sub_sound (hm : c.P.follows .mixedOrders = true) (call : Callee) (hc : CallOK c base w0 call) (id : Nat) (opsA : Array Oper) (env env' : AEnv) (H H' : AHeap) (t : List (Option AV × AHeap)) (ht : trace c call opsA.toList opsA.toList env H = some t)
    (hok : subOk c call opsA.toList env H t = true) (hend : endOf opsA.toList t env H = (env', H'))
    (ρ : Pl) (w : World) (a : Act) (h : Rel c base w0 ρ H w) (hf : Fresh ρ H) (he : EnvR ρ env a.tmps) : (Code.region id opsA true).wp c.P (Behind c base w0 ρ H w a .normal env' H') a w := by
  obtain ⟨ops⟩ := opsA
  simp only at ht hok hend
  obtain ⟨_, _, f3⟩ := trace_facts ht
  have hst := endOf_steps ht
  rw [f3, Option.some.injEq] at hst
  have hheap := endOf_heap ht
  rw [hend] at hst hheap
  simp only [Prod.mk.injEq] at hst
  have hE := hst.1
  change H' = _ at hheap
  subst hE hheap
  simp only [subOk, Bool.and_eq_true] at hok
  obtain ⟨_, hedge, hap, hfin, hall⟩ := hok
  have hfin := heapEq_eq hfin
  clear hst f3 hend
  generalize hmvl : (List.range ops.length).map (fun i => (moves ops H t).getD i false) = mv at *
  have hmvlen : mv.length = ops.length := by rw [← hmvl]; simp
  generalize hdst : (fun i => (ops.getD i default).dst) = dst at *
  generalize hvals : (fun i => (t.getD i dft).1) = vals at *
  have hdst' : ∀ i, dst i = (opsOf ops i).dst := fun i => by rw [← hdst]; rfl
  have hvals' : ∀ i, (t.getD i dft).1 = vals i := fun i => by rw [← hvals]
  generalize hfs : oneS c call ops env t = fs at *
  have hedge' : ∀ j, j < ops.length → ∀ e ∈ (opsOf ops j).after.toList, Region.binds .any e = true → e.on < j := by
    intro j hj e hej hb
    have := List.all_eq_true.1 (List.all_eq_true.1 hedge j (List.mem_range.2 hj)) e hej
    rw [hb] at this
    simpa using this
  have hap' : ∀ i j, i < j → j < ops.length → ((Region.before ops.toArray).getD j 0).testBit i = true ∨ Oper.apart ops.toArray (opsOf ops i) (opsOf ops j) = true := by
    intro i j hij hj
    have := List.all_eq_true.1 (List.all_eq_true.1 hap j (List.mem_range.2 hj)) i (List.mem_range.2 hij)
    simpa only [Bool.or_eq_true] using this
  have hchk : ∀ (S : Nat → Bool) (j : Nat), j < ops.length → S j = false → (∀ i, i < ops.length → mv.getD i false = true → (((Region.before ops.toArray).getD j 0).testBit i = true → S i = true) ∧ (((Region.before ops.toArray).getD i 0).testBit j = true → S i = false)) →
      stepV c call ops (opsOf ops j) (envK dst vals (fun _ => true) env j) (heapS fs (fun i => S i && mv.getD i false) H ops.length) = some (vals j, heapS fs (fun i => (if i = j then true else S i) && mv.getD i false) H ops.length) := by
    intro S j hj hSj hS
    generalize hl : (List.range ops.length).map (fun i => S i && mv.getD i false) = l
    have hlg : ∀ i, i < ops.length → l.getD i false = (S i && mv.getD i false) := fun i hi => by rw [← hl]; simp [hi]
    have hmem : l ∈ subsOf mv := mem_subs (by rw [← hl, hmvlen]; simp) (fun i hi => by
      by_cases hil : i < ops.length
      · rw [hlg i hil] at hi; simp only [Bool.and_eq_true] at hi; exact hi.2
      · rw [← hl] at hi; simp [hil] at hi)
    have := List.all_eq_true.1 (List.all_eq_true.1 hall l hmem) j (List.mem_range.2 hj)
    simp only [Bool.or_eq_true, Bool.not_eq_true'] at this
    rcases this with h1 | h1 | h1
    · rw [hlg j hj, hSj] at h1; simp at h1
    · exfalso
      have h2 : mayBe ops (Region.before ops.toArray) mv l j = true := by
        simp only [mayBe, List.all_eq_true, List.mem_range, Bool.or_eq_true, Bool.and_eq_true, Bool.not_eq_true']
        intro i hi
        cases hmi : mv.getD i false with
        | false => exact .inl rfl
        | true =>
          obtain ⟨h3, h4⟩ := hS i hi hmi
          refine .inr ⟨?_, ?_⟩
          · cases hb : ((Region.before ops.toArray).getD j 0).testBit i with
            | false => exact .inl rfl
            | true => exact .inr (by rw [hlg i hi, h3 hb, hmi]; rfl)
          · cases hb : ((Region.before ops.toArray).getD i 0).testBit j with
            | false => exact .inl rfl
            | true => exact .inr (by rw [hlg i hi, h4 hb]; rfl)
      rw [h2] at h1; cases h1
    · have h2 := sameStep_eq h1
      rw [hvals'] at h2
      rw [heapS_congr (S' := fun i => l.getD i false) _ (fun i hi => (hlg i hi).symm), h2]
      congr 2
      refine heapS_congr _ (fun i hi => ?_)
      by_cases hij : i = j
      · subst hij; simp
      · have : Nat.beq i j = false := by
          cases hq : Nat.beq i j with
          | false => rfl
          | true => exact absurd (Nat.eq_of_beq_eq_true hq) hij
        simp only [this, hij, if_false, hlg i hi]
        simp
  generalize hbf : Region.before ops.toArray = bf at *
  clear hall
  -- the heart: what holds when some have been run
  have main : ∀ (fuel : Nat) (listed : Array Bool) (ρ' : Pl) (a' : Act) (w' : World), listed.size = ops.length → toCome (setOf listed) ops.length = fuel →
      (∀ j, j < ops.length → setOf listed j = true → ∀ i, (bf.getD j 0).testBit i = true → setOf listed i = true) → a'.defers = a.defers →
      Post c base w0 ρ H w ρ' (heapS fs (fun i => setOf listed i && mv.getD i false) H ops.length) w' → EnvR ρ' (envK dst vals (setOf listed) env ops.length) a'.tmps →
      wpAny c.P .any ops.toArray (Behind c base w0 ρ H w a .normal (envK dst vals (fun _ => true) env ops.length) (heapsOf H t ops.length)) fuel listed a' w' := by
    intro fuel
    induction fuel with
    | zero =>
      intro listed ρ' a' w' hls hcount hclosed hdf hpost henv
      have hall := toCome_zero hcount
      have hE : EnvEq (envK dst vals (setOf listed) env ops.length) (envK dst vals (fun _ => true) env ops.length) :=
        ⟨by rw [envK_size, envK_size], fun t => envK_agree _ (fun i hi _ => hall i hi)⟩
      have hHH : heapS fs (fun i => setOf listed i && mv.getD i false) H ops.length = heapsOf H t ops.length := by
        rw [← hfin]
        exact heapS_congr _ (fun i hi => by rw [hall i hi]; rfl)
      refine ⟨?_, rfl, hdf, ρ', hHH ▸ hpost, henv.congr hE⟩
      rw [List.eq_nil_iff_forall_not_mem]
      intro i hi
      obtain ⟨hi1, hi2, _⟩ := (mem_ready hls).1 hi
      rw [hall i hi1] at hi2; cases hi2
    | succ fuel ih =>
      intro listed ρ' a' w' hls hcount hclosed hdf hpost henv
      refine ⟨fun hnil => ?_, fun j hj => ?_⟩
      · -- none is ready, and not all are through: that cannot be
        exfalso
        have hall : ∀ k, k ≤ ops.length → ∀ i, i < k → setOf listed i = true := by
          intro k
          induction k with
          | zero => intro _ i hi; omega
          | succ k ihk =>
            intro hk i hi
            by_cases hik : i = k
            · subst hik
              cases hS : setOf listed i with
              | true => rfl
              | false =>
                have : i ∈ Region.ready .any ops.toArray listed := (mem_ready hls).2 ⟨by omega, hS, fun e hej hb => ihk (by omega) _ (hedge' i (by omega) e hej hb)⟩
                rw [hnil] at this; cases this
            · exact ihk (by omega) i (by omega)
        have hz : toCome (setOf listed) ops.length = 0 := by
          have : ∀ m, m ≤ ops.length → toCome (setOf listed) m = 0 := by
            intro m hm'
            induction m with
            | zero => rfl
            | succ m ihm => simp only [toCome]; rw [ihm (by omega), hall _ (Nat.le_refl _) m (by omega)]; rfl
          exact this _ (Nat.le_refl _)
        omega
      · obtain ⟨hjn, hSj, hready⟩ := (mem_ready hls).1 hj
        have hoj := opsOf_get hjn
        have hpre : ∀ i, (bf.getD j 0).testBit i = true → setOf listed i = true := by
          intro i hi
          rw [← hbf] at hi
          obtain ⟨e, hej, hb, hq⟩ := before_bits hoj (hedge' j hjn) hi
          rcases hq with rfl | hq
          · exact hready e hej hb
          · rw [hbf] at hq
            exact hclosed e.on (by have := hedge' j hjn e hej hb; omega) (hready e hej hb) i hq
        have hpr : ∀ i, i < ops.length → i ≠ j → setOf listed i = decide (i < j) ∨ Oper.apart ops.toArray (opsOf ops (min i j)) (opsOf ops (max i j)) = true := by
          intro i hi hij
          by_cases hlt : i < j
          · rcases hap' i j hlt hjn with hb | hb
            · exact .inl (by rw [hpre i hb]; simp [hlt])
            · exact .inr (by rw [Nat.min_eq_left (by omega), Nat.max_eq_right (by omega)]; exact hb)
          · rcases hap' j i (by omega) hi with hb | hb
            · refine .inl ?_
              cases hS : setOf listed i with
              | false => simp; omega
              | true =>
                have := hclosed i hi hS j hb
                rw [hSj] at this; cases this
            · exact .inr (by rw [Nat.min_eq_right (by omega), Nat.max_eq_left (by omega)]; exact hb)
        have hreads : ∀ t ∈ (opsOf ops j).looksAt ops.toArray, eget (envK dst vals (setOf listed) env ops.length) t = eget (envK dst vals (fun _ => true) env j) t := by
          intro t ht'
          rw [← envK_upto j ops.length (by omega)]
          refine envK_agree _ (fun i hi hd => ?_)
          by_cases hij : i = j
          · subst hij; rw [hSj]; simp
          · rcases hpr i hi hij with hp | hap
            · exact hp
            · exfalso
              rw [hdst'] at hd
              by_cases hlt : i < j
              · rw [Nat.min_eq_left (by omega), Nat.max_eq_right (by omega)] at hap
                exact (Oper.apart_spec hap).1 t hd ht'
              · rw [Nat.min_eq_right (by omega), Nat.max_eq_left (by omega)] at hap
                exact (Oper.apart_spec hap).2.2 t hd ht'
        have hw : awanted ops (envK dst vals (setOf listed) env ops.length) (opsOf ops j) = awanted ops (envK dst vals (fun _ => true) env j) (opsOf ops j) := awanted_reads hreads
        have hop : ∀ K, aop c (envK dst vals (setOf listed) env ops.length) (opsOf ops j).op K = aop c (envK dst vals (fun _ => true) env j) (opsOf ops j).op K := fun K => aop_congr (aval_reads hreads) K
        generalize hS' : (fun i => if i = j then true else setOf listed i) = S' at *
        have hS'j : S' j = true := by rw [← hS']; simp
        have hS'n : ∀ i, i ≠ j → S' i = setOf listed i := fun i hi => by rw [← hS']; simp [hi]
        have hset : setOf (listed.setIfInBounds j true) = S' := by
          funext i
          simp only [setOf, Array.getD_eq_getD_getElem?, Array.getElem?_setIfInBounds]
          by_cases hij : j = i
          · subst hij
            rw [if_pos rfl, if_pos (by omega), hS'j]; rfl
          · rw [if_neg hij, hS'n i (Ne.symm hij)]
            simp [setOf, Array.getD_eq_getD_getElem?]
        have henv' : EnvEq (eput (envK dst vals (setOf listed) env ops.length) (dst j) (vals j)) (envK dst vals S' env ops.length) := by
          refine ⟨by rw [eput_size, envK_size, envK_size], fun t => ?_⟩
          by_cases hdt : dst j = some t
          · have := envK_last (vals := vals) (env := env) hdt hS'j ops.length hjn (fun i h1 h2 hd => by
              rw [hS'n i (by omega)]
              rcases hpr i h2 (by omega) with hp | hap
              · rw [hp]; simp; omega
              · exfalso
                rw [Nat.min_eq_right (by omega), Nat.max_eq_left (by omega)] at hap
                rw [hdst'] at hd hdt
                exact (Oper.apart_spec hap).2.1 t hdt hd)
            rw [this, hdt]
            exact eput_eq (by rw [envK_size, envK_size])
          · rw [eput_ne hdt]
            refine envK_agree _ (fun i hi hd => ?_)
            exact (hS'n i (fun hij => hdt (by rw [← hij]; exact hd))).symm
        have hgo := hchk (setOf listed) j hjn hSj (fun i hi hmi => ⟨fun hb => hpre i hb, fun hb => by
          cases hS : setOf listed i with
          | false => rfl
          | true =>
            have := hclosed i hi hS j hb
            rw [hSj] at this; cases this⟩)
        have hS'' : heapS fs (fun i => (if i = j then true else setOf listed i) && mv.getD i false) H ops.length = heapS fs (fun i => S' i && mv.getD i false) H ops.length := by
          refine heapS_congr _ (fun i hi => ?_)
          rw [← hS']
        rw [hS''] at hgo
        have hast : astep c call ops (opsOf ops j) (envK dst vals (setOf listed) env ops.length) (heapS fs (fun i => setOf listed i && mv.getD i false) H ops.length) = some (eput (envK dst vals (setOf listed) env ops.length) (dst j) (vals j), heapS fs (fun i => S' i && mv.getD i false) H ops.length) := by
          rw [astep_stepV]
          have : stepV c call ops (opsOf ops j) (envK dst vals (setOf listed) env ops.length) (heapS fs (fun i => setOf listed i && mv.getD i false) H ops.length) = stepV c call ops (opsOf ops j) (envK dst vals (fun _ => true) env j) (heapS fs (fun i => setOf listed i && mv.getD i false) H ops.length) := by
            simp only [stepV, hw, hop]
          rw [this, hgo, hdst']; rfl
        refine step_sound hc hpost.rel (hpost.fresh hf) henv hoj hast ?_
        rintro a2 w2 ⟨hd2, ρ2, hp2, he2⟩
        refine ih (listed.setIfInBounds j true) ρ2 a2 w2 (by simpa using hls) ?_ ?_ (hd2.trans hdf) ?_ ?_
        · rw [hset]
          have := toCome_step hSj hS'j (fun i hi => (hS'n i hi).symm) hjn
          omega
        · rw [hset]
          intro k hk hSk i hi
          by_cases hij : i = j
          · rw [hij]; exact hS'j
          · rw [hS'n i hij]
            by_cases hkj : k = j
            · subst hkj; exact hpre i hi
            · exact hclosed k hk (by rw [← hS'n k hkj]; exact hSk) i hi
        · rw [hset]; exact hpost.trans hp2
        · rw [hset]; exact he2.congr henv'
  refine wp_region_any hm ?_
  have hS0 : ∀ i, setOf (Array.replicate ops.length false) i = false := fun i => by
    simp only [setOf, Array.getD_eq_getD_getElem?, Array.getElem?_replicate]
    split <;> rfl
  have hE0 : ∀ k, envK dst vals (setOf (Array.replicate ops.length false)) env k = env := by
    intro k
    induction k with
    | zero => rfl
    | succ k ihk => simp only [envK, hS0]; simpa using ihk
  have hT0 : ∀ k, toCome (setOf (Array.replicate ops.length false)) k = k := by
    intro k
    induction k with
    | zero => rfl
    | succ k ihk => simp only [toCome, hS0]; simp [ihk]
  refine main ops.length (Array.replicate ops.length false) ρ a _ (by simp) (hT0 _) (fun j _ hj => by rw [hS0] at hj; cases hj) rfl ?_ ?_
  · rw [heapS_none _ (fun i hi => by rw [hS0]; rfl)]; exact post_drew h
  · rw [hE0]; exact he

/-- what a region that draws its order does -/
def drawRunS : DrawOk := fun c call ops env H => (trace c call ops ops env H).bind fun t => if regOk ops (moves ops H t) (still c call ops env H t) || (freeOk c call ops env H t || subOk c call ops env H t) then some (endOf ops t env H) else none

theorem drawS_sound (hm : c.P.follows .mixedOrders = true) (call : Callee) (hc : CallOK c base w0 call) : DrawOKs c base w0 drawRunS call := by
  intro id ops env env' H H' e ρ w a h hf he
  simp only [drawRunS, Option.bind_eq_some_iff] at e
  obtain ⟨t, ht, e⟩ := e
  split at e
  · rename_i hok
    simp only [Bool.or_eq_true] at hok
    rcases hok with hok | hok | hok
    · refine order_sound hm call hc id ops env env' H H' ?_ ?_ ρ w a h hf he
      · simp only [drawOk, ht]; exact hok
      · rw [endOf_steps ht]; exact e
    · simp only [Option.some.injEq] at e
      exact free_sound hm call hc id ops env env' H H' t ht hok e ρ w a h hf he
    · simp only [Option.some.injEq] at e
      exact sub_sound hm call hc id ops env env' H H' t ht hok e ρ w a h hf he
  · cases e

end Go.AM
