/-
  REGIONS THAT DRAW THEIR ORDER, the two laws joined (own work): operations that are ordered against all others cut the region into parts; within a part each operation only adds to the heap.
-/
import Derived.Test.YtecfofmndpgnjaaAmSub
namespace Go.AM
open Go.RowKit
set_option linter.unusedSimpArgs false

variable {c : Ctx} {base : Nat} {w0 w : World} {ρ : Pl} {H : AHeap}

/-- is the operation ordered against all others? -/
def settled (ops : List Oper) (b : Array Nat) (j : Nat) : Bool := (List.range ops.length).all fun i => Nat.beq i j || inOrder b i j

/-- the first of the settled ones that has not been run; among m -/
def nextW (sd S : Nat → Bool) : Nat → Nat
  | 0 => 0
  | m + 1 => if Nat.blt (nextW sd S m) m then nextW sd S m else if sd m && !S m then m else m + 1

theorem nextW_spec {sd S : Nat → Bool} : ∀ m, nextW sd S m ≤ m ∧ (∀ j, j < nextW sd S m → sd j = true → S j = true) ∧ (nextW sd S m < m → sd (nextW sd S m) = true ∧ S (nextW sd S m) = false)
  | 0 => ⟨Nat.le_refl _, fun j h => by simp [nextW] at h, fun h => by simp [nextW] at h⟩
  | m + 1 => by
    obtain ⟨h1, h2, h3⟩ := nextW_spec (sd := sd) (S := S) m
    simp only [nextW]
    split
    · rename_i hlt
      rw [Nat.blt_eq] at hlt
      exact ⟨by omega, h2, fun _ => h3 hlt⟩
    · rename_i hlt
      rw [Nat.blt_eq] at hlt
      have he : nextW sd S m = m := by omega
      rw [he] at h2
      split
      · rename_i hs
        simp only [Bool.and_eq_true, Bool.not_eq_true'] at hs
        exact ⟨by omega, h2, fun _ => hs⟩
      · rename_i hs
        refine ⟨Nat.le_refl _, fun j hj hsj => ?_, fun h => by omega⟩
        by_cases hjm : j = m
        · subst hjm
          cases hS : S j with
          | true => rfl
          | false => simp [hsj, hS] at hs
        · exact h2 j (by omega) hsj

theorem nextW_congr {sd S S' : Nat → Bool} (h : ∀ j, sd j = true → S j = S' j) : ∀ m, nextW sd S m = nextW sd S' m
  | 0 => rfl
  | m + 1 => by
    simp only [nextW, nextW_congr h m]
    cases hs : sd m with
    | false => simp
    | true => rw [h m hs]

theorem nextW_unique {sd S : Nat → Bool} {n N : Nat} (h1 : N ≤ n) (h2 : ∀ j, j < N → sd j = true → S j = true) (h3 : N < n → sd N = true ∧ S N = false) : nextW sd S n = N := by
  obtain ⟨k1, k2, k3⟩ := nextW_spec (sd := sd) (S := S) n
  rcases Nat.lt_trichotomy (nextW sd S n) N with h | h | h
  · obtain ⟨k4, k5⟩ := k3 (by omega)
    rw [h2 _ h k4] at k5; cases k5
  · exact h
  · obtain ⟨k4, k5⟩ := h3 (by omega)
    rw [k2 _ h k4] at k5; cases k5

def mixOk (c : Ctx) (call : Callee) (ops : List Oper) (env : AEnv) (H : AHeap) (t : List (Option AV × AHeap)) : Bool :=
  edgesOk ops && (apartOk ops && (List.range ops.length).all fun j => (settled ops (Region.before ops.toArray) j && Nat.ble (heapsOf H t j).length (heapsOf H t (j + 1)).length) || freeAt c call ops env H t j)

theorem heaps_heapK {call : Callee} {ops : List Oper} {env : AEnv} {H : AHeap} {t : List (Option AV × AHeap)} (ht : trace c call ops ops env H = some t) : ∀ m, m ≤ ops.length → heapK (fun i => (t.getD i dft).2) (fun i => (moves ops H t).getD i false) (fun _ => true) H m = heapsOf H t m
  | 0, _ => rfl
  | m + 1, hm => by
    obtain ⟨f1, f2, _⟩ := trace_facts ht
    have ih := heaps_heapK ht m (by omega)
    simp only [heapK, heapsOf]
    cases hmv : (moves ops H t).getD m false with
    | true => simp
    | false =>
      simp only [Bool.and_false, Bool.false_eq_true, if_false]
      have h1 := f1 m (opsOf ops m) (opsOf_get (by omega))
      have h2 := f2 m (by omega)
      rw [hmv] at h2
      exact (mvOf_same (o := opsOf ops m) h2.symm h1).symm

theorem mix_sound (hm : c.P.follows .mixedOrders = true) (call : Callee) (hc : CallOK c base w0 call) (id : Nat) (opsA : Array Oper) (env env' : AEnv) (H H' : AHeap) (t : List (Option AV × AHeap)) (ht : trace c call opsA.toList opsA.toList env H = some t)
    (hok : mixOk c call opsA.toList env H t = true) (hend : endOf opsA.toList t env H = (env', H'))
    (ρ : Pl) (w : World) (a : Act) (h : Rel c base w0 ρ H w) (hf : Fresh ρ H) (he : EnvR ρ env a.tmps) : (Code.region id opsA true).wp c.P (Behind c base w0 ρ H w a .normal env' H') a w := by
  obtain ⟨ops⟩ := opsA
  simp only at ht hok hend
  obtain ⟨_, _, f3⟩ := trace_facts ht
  have hst := endOf_steps ht
  rw [f3, Option.some.injEq] at hst
  have hheap := endOf_heap ht
  rw [hend] at hst hheap
  simp only [Prod.mk.injEq] at hst
  have hE := hst.1
  change H' = _ at hheap
  subst hE hheap
  simp only [mixOk, Bool.and_eq_true, List.all_eq_true, List.mem_range] at hok
  obtain ⟨hedge, hap, hfree⟩ := hok
  have hF1 : ∀ j, j < ops.length → stepV c call ops (opsOf ops j) (envK (fun i => (ops.getD i default).dst) (fun i => (t.getD i dft).1) (fun _ => true) env j) (heapsOf H t j) = some ((t.getD j dft).1, heapsOf H t (j + 1)) := fun j hj => by
    have := (trace_facts ht).1 j (opsOf ops j) (opsOf_get hj)
    rw [heaps_heapK ht j (by omega)] at this
    rw [this]; rfl
  have hspec := fun j hj (hns : (settled ops (Region.before ops.toArray) j && Nat.ble (heapsOf H t j).length (heapsOf H t (j + 1)).length) = false) => free_spec ((Bool.or_eq_true _ _ ▸ hfree j hj : _ ∨ _).resolve_left (by rw [hns]; simp))
  generalize hsd : (fun j => settled ops (Region.before ops.toArray) j && Nat.ble (heapsOf H t j).length (heapsOf H t (j + 1)).length) = sd at *
  have hsd' : ∀ j, (settled ops (Region.before ops.toArray) j && Nat.ble (heapsOf H t j).length (heapsOf H t (j + 1)).length) = sd j := fun j => by rw [← hsd]
  have hsdl : ∀ j, sd j = true → (heapsOf H t j).length ≤ (heapsOf H t (j + 1)).length := fun j hj => by
    rw [← hsd'] at hj; simp only [Bool.and_eq_true, Nat.ble_eq] at hj; exact hj.2
  have hsdo : ∀ j, sd j = true → ∀ i, i < ops.length → i ≠ j → inOrder (Region.before ops.toArray) i j = true := fun j hj i hi hij => by
    rw [← hsd'] at hj
    simp only [Bool.and_eq_true] at hj
    have := List.all_eq_true.1 hj.1 i (List.mem_range.2 hi)
    simp only [Bool.or_eq_true] at this
    rcases this with h | h
    · exact absurd (Nat.eq_of_beq_eq_true h) hij
    · exact h
  simp only [hsd'] at hspec
  clear hfree hst f3 hend
  generalize hdst : (fun i => (ops.getD i default).dst) = dst at *
  generalize hvals : (fun i => (t.getD i dft).1) = vals at *
  have hdst' : ∀ i, dst i = (opsOf ops i).dst := fun i => by rw [← hdst]; rfl
  have hvals' : ∀ i, (t.getD i dft).1 = vals i := fun i => by rw [← hvals]
  generalize hhp : heapsOf H t = hp at *
  have hp0 : hp 0 = H := by rw [← hhp]; rfl
  generalize hs : (fun k => (hp k).length) = s at *
  have hs' : ∀ k, (hp k).length = s k := fun k => by rw [← hs]
  have hedge' : ∀ j, j < ops.length → ∀ e ∈ (opsOf ops j).after.toList, Region.binds .any e = true → e.on < j := by
    intro j hj e hej hb
    have := List.all_eq_true.1 (List.all_eq_true.1 hedge j (List.mem_range.2 hj)) e hej
    rw [hb] at this
    simpa using this
  have hap' : ∀ i j, i < j → j < ops.length → ((Region.before ops.toArray).getD j 0).testBit i = true ∨ Oper.apart ops.toArray (opsOf ops i) (opsOf ops j) = true := by
    intro i j hij hj
    have := List.all_eq_true.1 (List.all_eq_true.1 hap j (List.mem_range.2 hj)) i (List.mem_range.2 hij)
    simpa only [Bool.or_eq_true] using this
  generalize hbf : Region.before ops.toArray = bf at *
  have hsd1 : ∀ j, sd j = true → ∀ i, i < ops.length → i < j → (bf.getD j 0).testBit i = true := fun j hj i hi hij => by
    have := hsdo j hj i hi (by omega)
    have hb : Nat.blt i j = true := by rw [Nat.blt_eq]; exact hij
    simpa [inOrder, hb] using this
  have hsd2 : ∀ j, sd j = true → ∀ i, i < ops.length → j < i → (bf.getD i 0).testBit j = true := fun j hj i hi hij => by
    have := hsdo j hj i hi (by omega)
    have hb : Nat.blt i j = false := by
      cases hq : Nat.blt i j with
      | false => rfl
      | true => rw [Nat.blt_eq] at hq; omega
    simpa [inOrder, hb] using this
  simp only [hs', hvals'] at hspec hF1 hsdl
  -- the heaps grow
  have hmono1 : ∀ j, j < ops.length → s j ≤ s (j + 1) := by
    intro j hj
    cases hq : sd j with
    | true => exact hsdl j hq
    | false =>
      have := congrArg List.length (hspec j hj hq).1
      rw [List.length_take, hs', hs'] at this
      omega
  have hmono : ∀ {j k}, j ≤ k → k ≤ ops.length → s j ≤ s k := fun hjk hk => mono_of hmono1 hjk hk
  have hget : ∀ {j k : Nat}, j ≤ k → k ≤ ops.length → (∀ q, j ≤ q → q < k → sd q = false) → ∀ i, i < s j → (hp k)[i]? = (hp j)[i]? := by
    intro j k hjk
    induction k with
    | zero => intro _ _ i _; have : j = 0 := by omega
              subst this; rfl
    | succ k ih =>
      intro hk hno i hi
      by_cases e : j = k + 1
      · subst e; rfl
      · rw [← ih (by omega) (by omega) (fun q h1 h2 => hno q h1 (by omega)) i hi]
        have hik : i < s k := Nat.lt_of_lt_of_le hi (hmono (by omega) (by omega))
        have := congrArg (fun l => l[i]?) (hspec k (by omega) (hno k (by omega) (by omega))).1
        rw [List.getElem?_take, if_pos hik] at this
        exact this
  have hhat : ∀ {j k : Nat}, j ≤ k → k ≤ ops.length → (∀ q, j ≤ q → q < k → sd q = false) → ∀ i, i < s j → hat (hp k) i = hat (hp j) i := fun hjk hk hno i hi => by
    unfold hat; rw [hget hjk hk hno i hi]
  have hs0 : s 0 = H.length := by rw [← hs', hp0]
  generalize hN : (fun S : Nat → Bool => nextW sd S ops.length) = N at *
  have hN' : ∀ S, nextW sd S ops.length = N S := fun S => by rw [← hN]
  have hNs := fun S => nextW_spec (sd := sd) (S := S) ops.length
  simp only [hN'] at hNs
  generalize hA : (fun S : Nat → Bool => mask (keepS s ops.length S) 0 (hp (N S))) = A at *
  have hA' : ∀ S, mask (keepS s ops.length S) 0 (hp (N S)) = A S := fun S => by rw [← hA]
  have hAl : ∀ S, (A S).length = s (N S) := fun S => by rw [← hA', mask_len, hs']
  have hAh : ∀ S i o, hat (A S) i = some o ↔ keepS s ops.length S i = true ∧ hat (hp (N S)) i = some o := by
    intro S i o
    rw [← hA', mask_hat]
    cases keepS s ops.length S i <;> simp
  have keep_mono : ∀ {S S' : Nat → Bool}, (∀ i, S i = true → S' i = true) → ∀ i, keepS s ops.length S i = true → keepS s ops.length S' i = true := by
    intro S S' hSS i hk
    rcases keepS_iff.1 hk with h1 | ⟨j, h1, h2, h3⟩
    · exact keepS_iff.2 (.inl h1)
    · exact keepS_iff.2 (.inr ⟨j, h1, hSS j h2, h3⟩)
  -- the heart: what holds when some have been run
  have main : ∀ (fuel : Nat) (listed : Array Bool) (ρ' : Pl) (a' : Act) (w' : World), listed.size = ops.length → toCome (setOf listed) ops.length = fuel →
      (∀ j, j < ops.length → setOf listed j = true → ∀ i, (bf.getD j 0).testBit i = true → setOf listed i = true) → a'.defers = a.defers →
      Post c base w0 ρ H w ρ' (A (setOf listed)) w' → EnvR ρ' (envK dst vals (setOf listed) env ops.length) a'.tmps → (∀ i p, s 0 ≤ i → ρ' (.own i) = some p → keepS s ops.length (setOf listed) i = true) →
      wpAny c.P .any ops.toArray (Behind c base w0 ρ H w a .normal (envK dst vals (fun _ => true) env ops.length) (hp ops.length)) fuel listed a' w' := by
    intro fuel
    induction fuel with
    | zero =>
      intro listed ρ' a' w' hls hcount hclosed hdf hpost henv hinv
      have hall := toCome_zero hcount
      have hE : EnvEq (envK dst vals (setOf listed) env ops.length) (envK dst vals (fun _ => true) env ops.length) :=
        ⟨by rw [envK_size, envK_size], fun t => envK_agree _ (fun i hi _ => hall i hi)⟩
      have hNn : N (setOf listed) = ops.length := by
        rw [← hN']
        exact nextW_unique (Nat.le_refl _) (fun j hj _ => hall j hj) (fun h => by omega)
      have hHH : A (setOf listed) = hp ops.length := by
        rw [← hA', hNn]
        refine mask_all fun i hi => ?_
        rw [hs'] at hi
        rcases range_of _ hi with h1 | ⟨j, h1, h2⟩
        · exact keepS_iff.2 (.inl h1)
        · exact keepS_iff.2 (.inr ⟨j, h1, hall j h1, h2⟩)
      refine ⟨?_, rfl, hdf, ρ', hHH ▸ hpost, henv.congr hE⟩
      rw [List.eq_nil_iff_forall_not_mem]
      intro i hi
      obtain ⟨hi1, hi2, _⟩ := (mem_ready hls).1 hi
      rw [hall i hi1] at hi2; cases hi2
    | succ fuel ih =>
      intro listed ρ' a' w' hls hcount hclosed hdf hpost henv hinv
      refine ⟨fun hnil => ?_, fun j hj => ?_⟩
      · -- none is ready, and not all are through: that cannot be
        exfalso
        have hall : ∀ k, k ≤ ops.length → ∀ i, i < k → setOf listed i = true := by
          intro k
          induction k with
          | zero => intro _ i hi; omega
          | succ k ihk =>
            intro hk i hi
            by_cases hik : i = k
            · subst hik
              cases hS : setOf listed i with
              | true => rfl
              | false =>
                have : i ∈ Region.ready .any ops.toArray listed := (mem_ready hls).2 ⟨by omega, hS, fun e hej hb => ihk (by omega) _ (hedge' i (by omega) e hej hb)⟩
                rw [hnil] at this; cases this
            · exact ihk (by omega) i (by omega)
        have hz : toCome (setOf listed) ops.length = 0 := by
          have : ∀ m, m ≤ ops.length → toCome (setOf listed) m = 0 := by
            intro m hm'
            induction m with
            | zero => rfl
            | succ m ihm => simp only [toCome]; rw [ihm (by omega), hall _ (Nat.le_refl _) m (by omega)]; rfl
          exact this _ (Nat.le_refl _)
        omega
      · obtain ⟨hjn, hSj, hready⟩ := (mem_ready hls).1 hj
        have hoj := opsOf_get hjn
        have hpre : ∀ i, (bf.getD j 0).testBit i = true → setOf listed i = true := by
          intro i hi
          rw [← hbf] at hi
          obtain ⟨e, hej, hb, hq⟩ := before_bits hoj (hedge' j hjn) hi
          rcases hq with rfl | hq
          · exact hready e hej hb
          · rw [hbf] at hq
            exact hclosed e.on (by have := hedge' j hjn e hej hb; omega) (hready e hej hb) i hq
        have hpr : ∀ i, i < ops.length → i ≠ j → setOf listed i = decide (i < j) ∨ Oper.apart ops.toArray (opsOf ops (min i j)) (opsOf ops (max i j)) = true := by
          intro i hi hij
          by_cases hlt : i < j
          · rcases hap' i j hlt hjn with hb | hb
            · exact .inl (by rw [hpre i hb]; simp [hlt])
            · exact .inr (by rw [Nat.min_eq_left (by omega), Nat.max_eq_right (by omega)]; exact hb)
          · rcases hap' j i (by omega) hi with hb | hb
            · refine .inl ?_
              cases hS : setOf listed i with
              | false => simp; omega
              | true =>
                have := hclosed i hi hS j hb
                rw [hSj] at this; cases this
            · exact .inr (by rw [Nat.min_eq_right (by omega), Nat.max_eq_left (by omega)]; exact hb)
        have hreads : ∀ t ∈ (opsOf ops j).looksAt ops.toArray, eget (envK dst vals (setOf listed) env ops.length) t = eget (envK dst vals (fun _ => true) env j) t := by
          intro t ht'
          rw [← envK_upto j ops.length (by omega)]
          refine envK_agree _ (fun i hi hd => ?_)
          by_cases hij : i = j
          · subst hij; rw [hSj]; simp
          · rcases hpr i hi hij with hp | hap
            · exact hp
            · exfalso
              rw [hdst'] at hd
              by_cases hlt : i < j
              · rw [Nat.min_eq_left (by omega), Nat.max_eq_right (by omega)] at hap
                exact (Oper.apart_spec hap).1 t hd ht'
              · rw [Nat.min_eq_right (by omega), Nat.max_eq_left (by omega)] at hap
                exact (Oper.apart_spec hap).2.2 t hd ht'
        generalize hS' : (fun i => if i = j then true else setOf listed i) = S' at *
        have hS'j : S' j = true := by rw [← hS']; simp
        have hS'n : ∀ i, i ≠ j → S' i = setOf listed i := fun i hi => by rw [← hS']; simp [hi]
        have hset : setOf (listed.setIfInBounds j true) = S' := by
          funext i
          simp only [setOf, Array.getD_eq_getD_getElem?, Array.getElem?_setIfInBounds]
          by_cases hij : j = i
          · subst hij
            rw [if_pos rfl, if_pos (by omega), hS'j]; rfl
          · rw [if_neg hij, hS'n i (Ne.symm hij)]
            simp [setOf, Array.getD_eq_getD_getElem?]
        have hSS' : ∀ i, setOf listed i = true → S' i = true := fun i hi => by
          by_cases hij : i = j
          · rw [hij]; exact hS'j
          · rw [hS'n i hij]; exact hi
        have henv' : EnvEq (eput (envK dst vals (setOf listed) env ops.length) (dst j) (vals j)) (envK dst vals S' env ops.length) := by
          refine ⟨by rw [eput_size, envK_size, envK_size], fun t => ?_⟩
          by_cases hdt : dst j = some t
          · have := envK_last (vals := vals) (env := env) hdt hS'j ops.length hjn (fun i h1 h2 hd => by
              rw [hS'n i (by omega)]
              rcases hpr i h2 (by omega) with hp | hap
              · rw [hp]; simp; omega
              · exfalso
                rw [Nat.min_eq_right (by omega), Nat.max_eq_left (by omega)] at hap
                rw [hdst'] at hd hdt
                exact (Oper.apart_spec hap).2.1 t hdt hd)
            rw [this, hdt]
            exact eput_eq (by rw [envK_size, envK_size])
          · rw [eput_ne hdt]
            refine envK_agree _ (fun i hi hd => ?_)
            exact (hS'n i (fun hij => hdt (by rw [← hij]; exact hd))).symm
        have hdisj : ∀ i, s j ≤ i → i < s (j + 1) → keepS s ops.length (setOf listed) i = false := by
          intro i h1 h2
          cases hk : keepS s ops.length (setOf listed) i with
          | false => rfl
          | true =>
            exfalso
            rcases keepS_iff.1 hk with h3 | ⟨k, h3, h4, h5, h6⟩
            · have := hmono (Nat.zero_le j) (Nat.le_of_lt hjn); omega
            · rcases Nat.lt_trichotomy k j with hlt | rfl | hlt
              · have := hmono (show k + 1 ≤ j by omega) (Nat.le_of_lt hjn); omega
              · rw [hSj] at h4; cases h4
              · have := hmono (show j + 1 ≤ k by omega) (Nat.le_of_lt h3); omega
        obtain ⟨hN1, hN2, hN3⟩ := hNs (setOf listed)
        cases hsj : sd j with
        | true =>
          -- it is ordered against all others
          have hlt : ∀ i, i < j → setOf listed i = true := fun i hi => hpre i (hsd1 j hsj i (by omega) hi)
          have hgt : ∀ i, i < ops.length → j < i → setOf listed i = false := fun i hi hji => by
            cases hS : setOf listed i with
            | false => rfl
            | true => rw [hclosed i hi hS j (hsd2 j hsj i hi hji)] at hSj; cases hSj
          have hNj : N (setOf listed) = j := by
            rw [← hN']
            exact nextW_unique (Nat.le_of_lt hjn) (fun q hq _ => hlt q hq) (fun _ => ⟨hsj, hSj⟩)
          have hAj : A (setOf listed) = hp j := by
            rw [← hA', hNj]
            refine mask_all fun i hi => ?_
            rw [hs'] at hi
            rcases range_of _ hi with h1 | ⟨k, h1, h2⟩
            · exact keepS_iff.2 (.inl h1)
            · exact keepS_iff.2 (.inr ⟨k, by omega, hlt k h1, h2⟩)
          have hpost' := hpost
          rw [hAj] at hpost'
          have hw : awanted ops (envK dst vals (setOf listed) env ops.length) (opsOf ops j) = awanted ops (envK dst vals (fun _ => true) env j) (opsOf ops j) := awanted_reads hreads
          have hop : ∀ K, aop c (envK dst vals (setOf listed) env ops.length) (opsOf ops j).op K = aop c (envK dst vals (fun _ => true) env j) (opsOf ops j).op K := fun K => aop_congr (aval_reads hreads) K
          have hast : astep c call ops (opsOf ops j) (envK dst vals (setOf listed) env ops.length) (hp j) = some (eput (envK dst vals (setOf listed) env ops.length) (dst j) (vals j), hp (j + 1)) := by
            rw [astep_stepV]
            have : stepV c call ops (opsOf ops j) (envK dst vals (setOf listed) env ops.length) (hp j) = stepV c call ops (opsOf ops j) (envK dst vals (fun _ => true) env j) (hp j) := by
              simp only [stepV, hw, hop]
            rw [this, hF1 j hjn, hdst']; rfl
          have hNj' : j + 1 ≤ N S' := by
            obtain ⟨h1, h2, h3⟩ := hNs S'
            rcases Nat.lt_or_ge (N S') (j + 1) with h | h
            · obtain ⟨h4, h5⟩ := h3 (by omega)
              by_cases hq : N S' = j
              · rw [hq, hS'j] at h5; cases h5
              · rw [hS'n _ hq, hlt _ (by omega)] at h5; cases h5
            · exact h
          have hno : ∀ q, j + 1 ≤ q → q < N S' → sd q = false := fun q h1 h2 => by
            cases hq : sd q with
            | false => rfl
            | true =>
              obtain ⟨k1, k2, _⟩ := hNs S'
              have := k2 q h2 hq
              rw [hS'n q (by omega), hgt q (by omega) (by omega)] at this; cases this
          have hkeep : ∀ i, keepS s ops.length S' i = true ↔ i < s (j + 1) := by
            intro i
            constructor
            · intro hk
              rcases keepS_iff.1 hk with h1 | ⟨k, h1, h2, h3, h4⟩
              · exact Nat.lt_of_lt_of_le h1 (hmono (Nat.zero_le _) (by omega))
              · have hkj : k ≤ j := by
                  rcases Nat.lt_or_ge j k with h | h
                  · rw [hS'n k (by omega), hgt k h1 h] at h2; cases h2
                  · exact h
                exact Nat.lt_of_lt_of_le h4 (hmono (by omega) (by omega))
            · intro hi
              rcases range_of _ hi with h1 | ⟨k, h1, h2⟩
              · exact keepS_iff.2 (.inl h1)
              · refine keepS_iff.2 (.inr ⟨k, by omega, ?_, h2⟩)
                by_cases hkj : k = j
                · rw [hkj]; exact hS'j
                · rw [hS'n k hkj]; exact hlt k (by omega)
          have hfp : Fresh ρ' (hp j) := fun i hi => by
            rw [hs'] at hi
            cases hq : ρ' (.own i) with
            | none => rfl
            | some p =>
              have h1 := hinv i p (Nat.le_trans (hmono (Nat.zero_le _) (Nat.le_of_lt hjn)) hi) hq
              rcases keepS_iff.1 h1 with h2 | ⟨k, h2, h3, h4, h5⟩
              · have := hmono (Nat.zero_le j) (Nat.le_of_lt hjn); omega
              · have hkj : k < j := by
                  rcases Nat.lt_trichotomy k j with h | rfl | h
                  · exact h
                  · rw [hSj] at h3; cases h3
                  · rw [hgt k h2 h] at h3; cases h3
                have := hmono (show k + 1 ≤ j by omega) (Nat.le_of_lt hjn)
                omega
          refine step_sound hc hpost'.rel hfp henv hoj hast ?_
          rintro a2 w2 ⟨hd2, ρ2, hp2, he2⟩
          refine ih (listed.setIfInBounds j true) ρ2 a2 w2 (by simpa using hls) ?_ ?_ (hd2.trans hdf) ?_ ?_ ?_
          · rw [hset]
            have := toCome_step hSj hS'j (fun i hi => (hS'n i hi).symm) hjn
            omega
          · rw [hset]
            intro k hk hSk i hi
            by_cases hij : i = j
            · rw [hij]; exact hS'j
            · rw [hS'n i hij]
              by_cases hkj : k = j
              · subst hkj; exact hpre i hi
              · exact hclosed k hk (by rw [← hS'n k hkj]; exact hSk) i hi
          · rw [hset]
            refine post_same (hpost'.trans hp2) (fun i o => ?_) (by rw [hAl, hs']; exact hmono hNj' (hNs S').1)
            rw [hAh, hkeep]
            constructor
            · rintro ⟨h1, h2⟩
              rw [hhat hNj' (hNs S').1 hno i h1] at h2; exact h2
            · intro h2
              have h1 : i < s (j + 1) := by rw [← hs']; exact hat_lt h2
              exact ⟨h1, by rw [hhat hNj' (hNs S').1 hno i h1]; exact h2⟩
          · rw [hset]; exact he2.congr henv'
          · rw [hset]
            intro i p h1 hq
            rcases hp2.new _ _ hq with h2 | ⟨k, hk, h3, h4⟩
            · exact keep_mono hSS' i (hinv i p h1 h2)
            · cases hk
              rw [hs'] at h4
              exact (hkeep i).2 h4
        | false =>
        have hjN : j < N (setOf listed) := by
          rcases Nat.lt_trichotomy j (N (setOf listed)) with h | h | h
          · exact h
          · obtain ⟨h1, _⟩ := hN3 (by omega)
            rw [← h, hsj] at h1; cases h1
          · obtain ⟨h1, h2⟩ := hN3 (by omega)
            rw [hpre _ (hsd2 _ h1 j hjn h)] at h2; cases h2
        have hno : ∀ q, j ≤ q → q < N (setOf listed) → sd q = false := fun q h1 h2 => by
          cases hq : sd q with
          | false => rfl
          | true =>
            have hqj : q ≠ j := fun e => by rw [e, hsj] at hq; cases hq
            have hqn : q < ops.length := by omega
            rw [hclosed q hqn (hN2 q h2 hq) j (hsd1 q hq j hjn (by omega))] at hSj; cases hSj
        have hNS : N S' = N (setOf listed) := by
          rw [← hN', ← hN']
          refine nextW_congr (fun q hq => ?_) _
          have hqj : q ≠ j := fun e => by rw [e, hsj] at hq; cases hq
          exact hS'n q hqj
        obtain ⟨hsp1, hsp2, hsp3⟩ := hspec j hjn hsj
        have hreads2 : ∀ t ∈ (opsOf ops j).looksAt ops.toArray, eget (lowEnv (s j) (envK dst vals (setOf listed) env ops.length)) t = eget (lowEnv (s j) (envK dst vals (fun _ => true) env j)) t := fun t ht' => by
          rw [lowEnv_get, lowEnv_get, hreads t ht']
        have hw : awanted ops (lowEnv (s j) (envK dst vals (setOf listed) env ops.length)) (opsOf ops j) = awanted ops (lowEnv (s j) (envK dst vals (fun _ => true) env j)) (opsOf ops j) := awanted_reads hreads2
        have hop : ∀ K, aop c (lowEnv (s j) (envK dst vals (setOf listed) env ops.length)) (opsOf ops j).op K = aop c (lowEnv (s j) (envK dst vals (fun _ => true) env j)) (opsOf ops j).op K := fun K => aop_congr (aval_reads hreads2) K
        generalize hB : (fun i => (bf.getD j 0).testBit i) = B at *
        have hB' : ∀ i, (bf.getD j 0).testBit i = B i := fun i => by rw [← hB]
        simp only [hB'] at hsp3 hpre
        generalize hV : mask (keepS s ops.length B) 0 (hp j) = V at *
        generalize hV' : mask (keepS s ops.length fun i => B i || Nat.beq i j) 0 (hp (j + 1)) = V' at *
        have hVl : V.length = s j := by rw [← hV, mask_len, hs']
        have hVl' : V'.length = s (j + 1) := by rw [← hV', mask_len, hs']
        have hgo : stepV c call ops (opsOf ops j) (lowEnv (s j) (envK dst vals (setOf listed) env ops.length)) V = some (vals j, V') := by
          rw [← hsp3]
          simp only [stepV, hw, hop]
        have hkeepB : ∀ i, i < s j → keepS s ops.length (fun i => B i || Nat.beq i j) i = keepS s ops.length B i := by
          intro i hi
          rw [Bool.eq_iff_iff]
          constructor
          · intro hk
            rcases keepS_iff.1 hk with h1 | ⟨k, h1, h2, h3, h4⟩
            · exact keepS_iff.2 (.inl h1)
            · simp only [Bool.or_eq_true] at h2
              rcases h2 with h2 | h2
              · exact keepS_iff.2 (.inr ⟨k, h1, h2, h3, h4⟩)
              · have := Nat.eq_of_beq_eq_true h2
                subst this; omega
          · exact keep_mono (fun i hi => by simp [hi]) i
        have hsub : ∀ i o, hat V i = some o → hat (A (setOf listed)) i = some o := by
          intro i o e
          have hi : i < s j := hVl ▸ hat_lt e
          rw [← hV, mask_hat] at e
          split at e
          · rename_i hk
            refine (hAh _ _ _).2 ⟨keep_mono (fun i hi => hpre i hi) i hk, ?_⟩
            rw [hhat (Nat.le_of_lt hjN) hN1 hno i hi]; exact e
          · cases e
        have hm' : H.length ≤ s j := by rw [← hs0]; exact hmono (Nat.zero_le _) (Nat.le_of_lt hjn)
        have hrelV := rel_part h hf hpost.ext hm' hpost.rel hsub hsp2 hVl
        have hfV : Fresh (cut (s j) ρ') V := fun i hi => by
          unfold cut
          rw [if_neg]
          simp [Loc.low]; omega
        -- whose number it is
        have hdisj : ∀ i, s j ≤ i → i < s (j + 1) → keepS s ops.length (setOf listed) i = false := by
          intro i h1 h2
          cases hk : keepS s ops.length (setOf listed) i with
          | false => rfl
          | true =>
            exfalso
            rcases keepS_iff.1 hk with h3 | ⟨k, h3, h4, h5, h6⟩
            · have := hmono (Nat.zero_le j) (Nat.le_of_lt hjn); omega
            · rcases Nat.lt_trichotomy k j with hlt | rfl | hlt
              · have := hmono (show k + 1 ≤ j by omega) (Nat.le_of_lt hjn); omega
              · rw [hSj] at h4; cases h4
              · have := hmono (show j + 1 ≤ k by omega) (Nat.le_of_lt h3); omega
        have hAA : ∀ i o, hat (A S') i = some o ↔ hat (A (setOf listed)) i = some o ∨ (s j ≤ i ∧ hat V' i = some o) := by
          intro i o
          rw [hAh, hAh, ← hV', mask_hat, ← hNS]
          constructor
          · rintro ⟨hk, ho⟩
            rcases keepS_iff.1 hk with h1 | ⟨k, h1, h2, h3, h4⟩
            · exact .inl ⟨keepS_iff.2 (.inl h1), ho⟩
            · by_cases hkj : k = j
              · subst hkj
                refine .inr ⟨h3, ?_⟩
                rw [if_pos (keepS_iff.2 (.inr ⟨k, h1, by simp, h3, h4⟩)), ← hhat (show k + 1 ≤ N S' by omega) (by rw [hNS]; exact hN1) (fun q h1 h2 => hno q (by omega) (by rw [← hNS]; exact h2)) i h4]
                exact ho
              · exact .inl ⟨keepS_iff.2 (.inr ⟨k, h1, by rw [← hS'n k hkj]; exact h2, h3, h4⟩), ho⟩
          · rintro (⟨hk, ho⟩ | ⟨h1, ho⟩)
            · exact ⟨keep_mono hSS' i hk, ho⟩
            · split at ho
              · have hi : i < s (j + 1) := by rw [← hs']; exact hat_lt ho
                refine ⟨keepS_iff.2 (.inr ⟨j, hjn, hS'j, h1, hi⟩), ?_⟩
                rw [hhat (show j + 1 ≤ N S' by omega) (by rw [hNS]; exact hN1) (fun q h1 h2 => hno q (by omega) (by rw [← hNS]; exact h2)) i hi]; exact ho
              · cases ho
        refine stepV_sound hc hrelV hfV henv.cut hoj hgo ?_
        intro x w2 ρ2 hv hp2
        have hkeep : V'.take (s j) = V := by
          rw [← hV, ← hV']
          apply List.ext_getElem?
          intro i
          rw [List.getElem?_take, mask_get, mask_get]
          split
          · rename_i hi
            rw [hget (Nat.le_succ j) (by omega) (fun q h1 h2 => (show q = j by omega) ▸ hsj) i hi, Nat.zero_add, hkeepB i hi]
          · rename_i hi
            rw [List.getElem?_eq_none (show (hp j).length ≤ i by rw [hs']; omega)]; rfl
        obtain ⟨hp3, he1, he2⟩ := post_part h hf hm' hpost hsub hsp2 hVl hp2 hkeep (fun i h1 h2 => by
            rw [hVl'] at h2
            cases hq : ρ' (.own i) with
            | none => rfl
            | some p =>
              have := hinv i p (by have := hmono (Nat.zero_le j) (Nat.le_of_lt hjn); omega) hq
              rw [hdisj i h1 h2] at this; cases this) hAA (by rw [hAl, hAl, hNS]) (by rw [hVl', hAl]; exact hmono (by omega) hN1)
        refine ih (listed.setIfInBounds j true) (joinP (s j) V'.length ρ' ρ2) (a'.put (opsOf ops j).dst x) w2 (by simpa using hls) ?_ ?_ ?_ ?_ ?_ ?_
        · rw [hset]
          have := toCome_step hSj hS'j (fun i hi => (hS'n i hi).symm) hjn
          omega
        · rw [hset]
          intro k hk hSk i hi
          by_cases hij : i = j
          · rw [hij]; exact hS'j
          · rw [hS'n i hij]
            by_cases hkj : k = j
            · subst hkj; exact hpre i (by rw [← hB']; exact hi)
            · exact hclosed k hk (by rw [← hS'n k hkj]; exact hSk) i hi
        · rw [← hdf]; cases (opsOf ops j).dst <;> rfl
        · rw [hset]; exact hp3
        · rw [hset]; exact EnvR.congr (by rw [hdst']; exact (henv.mono he1).put _ (fun u hu => (hv u hu).mono he2)) henv'
        · rw [hset]
          intro i p h1 hq
          simp only [joinP] at hq
          split at hq
          · rename_i hi
            rw [hVl'] at hi
            exact keepS_iff.2 (.inr ⟨j, hjn, hS'j, hi.1, hi.2⟩)
          · exact keep_mono hSS' i (hinv i p h1 hq)
  refine wp_region_any hm ?_
  have hS0 : ∀ i, setOf (Array.replicate ops.length false) i = false := fun i => by
    simp only [setOf, Array.getD_eq_getD_getElem?, Array.getElem?_replicate]
    split <;> rfl
  have hE0 : ∀ k, envK dst vals (setOf (Array.replicate ops.length false)) env k = env := by
    intro k
    induction k with
    | zero => rfl
    | succ k ihk => simp only [envK, hS0]; simpa using ihk
  have hT0 : ∀ k, toCome (setOf (Array.replicate ops.length false)) k = k := by
    intro k
    induction k with
    | zero => rfl
    | succ k ihk => simp only [toCome, hS0]; simp [ihk]
  have hno0 : ∀ q, 0 ≤ q → q < N (setOf (Array.replicate ops.length false)) → sd q = false := fun q _ h2 => by
    cases hq : sd q with
    | false => rfl
    | true =>
      have := (hNs _).2.1 q h2 hq
      rw [hS0] at this; cases this
  refine main ops.length (Array.replicate ops.length false) ρ a _ (by simp) (hT0 _) (fun j _ hj => by rw [hS0] at hj; cases hj) rfl ?_ ?_ ?_
  · refine post_same (post_drew h) (fun i o => ?_) ?_
    · rw [hAh]
      constructor
      · rintro ⟨hk, ho⟩
        rcases keepS_iff.1 hk with h1 | ⟨k, _, h2, _⟩
        · rw [hhat (Nat.zero_le _) (hNs _).1 hno0 i h1, hp0] at ho; exact ho
        · rw [hS0] at h2; cases h2
      · intro ho
        have hi : i < s 0 := by rw [hs0]; exact hat_lt ho
        exact ⟨keepS_iff.2 (.inl hi), by rw [hhat (Nat.zero_le _) (hNs _).1 hno0 i hi, hp0]; exact ho⟩
    · rw [hAl, ← hs0]; exact hmono (Nat.zero_le _) (hNs _).1
  · rw [hE0]; exact he
  · intro i p h1 hq
    rw [hf i (by omega)] at hq; cases hq

/-- what a region that draws its order does -/
def drawRunM : DrawOk := fun c call ops env H => (trace c call ops ops env H).bind fun t => if regOk ops (moves ops H t) (still c call ops env H t) || (mixOk c call ops env H t || subOk c call ops env H t) then some (endOf ops t env H) else none

theorem drawM_sound (hm : c.P.follows .mixedOrders = true) (call : Callee) (hc : CallOK c base w0 call) : DrawOKs c base w0 drawRunM call := by
  intro id ops env env' H H' e ρ w a h hf he
  simp only [drawRunM, Option.bind_eq_some_iff] at e
  obtain ⟨t, ht, e⟩ := e
  split at e
  · rename_i hok
    simp only [Bool.or_eq_true] at hok
    rcases hok with hok | hok | hok
    · refine order_sound hm call hc id ops env env' H H' ?_ ?_ ρ w a h hf he
      · simp only [drawOk, ht]; exact hok
      · rw [endOf_steps ht]; exact e
    · simp only [Option.some.injEq] at e
      exact mix_sound hm call hc id ops env env' H H' t ht hok e ρ w a h hf he
    · simp only [Option.some.injEq] at e
      exact sub_sound hm call hc id ops env env' H H' t ht hok e ρ w a h hf he
  · cases e

end Go.AM
