/-
  REGIONS THAT DRAW THEIR ORDER, OVER ANY HEAP, the general law (own work): the heap is told for each set of those operations that may have been run.
-/
import Derived.Test.YtecfofmndpgnjaaAmPlain
import Derived.Test.YtecfofmndpgnjaaAmStill
namespace Go.AM
open Go.RowKit
set_option linter.unusedSimpArgs false
set_option linter.unusedVariables false

variable {c : Ctx} {base : Nat} {w0 w : World} {ρ : Pl} {H : AHeap}

theorem stepV_rel {call : Callee} (hc : CallOK c base w0 call) (h : Rel c base w0 ρ H w) (hf : Fresh ρ H) {env : AEnv} {a : Act} (he : EnvR ρ env a.tmps) {ops : List Oper} {o : Oper} {u : Option AV} {H' : AHeap}
    (e : stepV c call ops o env H = some (u, H')) : ∃ x w' ρ', (∀ v, u = some v → VR ρ' v x) ∧ Post c base w0 ρ H w ρ' H' w' := by
  simp only [stepV, Option.bind_eq_some_iff] at e
  obtain ⟨b, hb, e⟩ := e
  cases b with
  | false =>
    simp only [Bool.false_eq_true, if_false, Option.some.injEq, Prod.mk.injEq] at e
    obtain ⟨rfl, rfl⟩ := e
    exact ⟨_, w, ρ, fun v hv => by cases hv; exact undef_r ρ, Post.refl h⟩
  | true =>
    simp only [if_true, Option.bind_eq_some_iff] at e
    obtain ⟨⟨r, H1⟩, hr, e⟩ := e
    obtain ⟨ρ1, n, w1, hrun, hres, hpost⟩ := op_sound h he hr (fun _ => hf _ (Nat.le_refl _))
    cases r with
    | val v =>
      cases e
      cases n <;> simp only [PRes] at hres
      rename_i x
      exact ⟨x, w1, ρ1, fun u hu => by cases hu; exact hres, hpost⟩
    | skip =>
      cases e
      cases n <;> simp only [PRes] at hres
      exact ⟨_, w1, ρ1, fun v hv => by cases hv; exact undef_r ρ1, hpost⟩
    | call f args =>
      cases n <;> simp only [PRes] at hres
      rename_i g xs
      obtain ⟨rfl, l, hl, rfl⟩ := hres
      simp only [Option.bind_eq_some_iff] at e
      obtain ⟨⟨v, H2⟩, hv, e⟩ := e
      cases e
      obtain ⟨e', w', fr, ⟨ρ', x, rfl, hvr, hp2⟩, _⟩ := hc f args H1 v H2 hv ρ1 w1 l hpost.rel (hpost.fresh hf) hl []
      exact ⟨x, w', ρ', fun u hu => by cases hu; exact hvr, hpost.trans hp2⟩

abbrev envT (ops : List Oper) (t : List (Option AV × AHeap)) (env : AEnv) (j : Nat) : AEnv := envK (fun i => (ops.getD i default).dst) (fun i => (t.getD i dft).1) (fun _ => true) env j

/-- the text's order, as it is walked -/
theorem trace_rel {call : Callee} (hc : CallOK c base w0 call) {ops : List Oper} {env : AEnv} {t : List (Option AV × AHeap)} (ht : trace c call ops ops env H = some t) (h : Rel c base w0 ρ H w) (hf : Fresh ρ H) {a : Act} (he : EnvR ρ env a.tmps) :
    ∀ j, j ≤ ops.length → ∃ ρ' w' a', Post c base w0 ρ H w ρ' (heapsOf H t j) w' ∧ EnvR ρ' (envT ops t env j) (Act.tmps a') := by
  intro j
  induction j with
  | zero => intro _; exact ⟨ρ, w, a, Post.refl h, he⟩
  | succ j ih =>
    intro hj
    obtain ⟨ρ1, w1, a1, hp, he1⟩ := ih (by omega)
    have hst := trace_at ht j _ (opsOf_get (ops := ops) (by omega))
    obtain ⟨x, w2, ρ2, hv, hp2⟩ := stepV_rel hc hp.rel (hp.fresh hf) he1 hst
    refine ⟨ρ2, w2, a1.put (opsOf ops j).dst x, hp.trans hp2, ?_⟩
    have := (he1.mono hp2.ext).put (opsOf ops j).dst hv
    exact this
theorem trace_low {call : Callee} (hc : CallOK c base w0 call) {ops : List Oper} {env : AEnv} {t : List (Option AV × AHeap)} (ht : trace c call ops ops env H = some t) (h : Rel c base w0 ρ H w) (hf : Fresh ρ H) {a : Act} (he : EnvR ρ env a.tmps) :
    ∀ j, j ≤ ops.length → heapLow (heapsOf H t j).length (heapsOf H t j) = true ∧ envLow (heapsOf H t j).length (envT ops t env j) ∧ H.length ≤ (heapsOf H t j).length := by
  intro j hj
  obtain ⟨ρ', w', a', hp, he'⟩ := trace_rel hc ht h hf he j hj
  exact ⟨hp.rel.low (hp.fresh hf), he'.low (hp.fresh hf), hp.len⟩

theorem stepV_congr {call : Callee} {ops : List Oper} {o : Oper} {e1 e2 : AEnv} (h : ∀ t, eget e1 t = eget e2 t) {K : AHeap} : stepV c call ops o e1 K = stepV c call ops o e2 K := by
  simp only [stepV, awanted_reads (ops := ops) (o := o) fun t _ => h t, aop_congr (aval_reads (ops := ops) (o := o) fun t _ => h t)]

theorem isP_stepV {call : Callee} {ops : List Oper} {o : Oper} (hp : isP o.op = true) {env : AEnv} {v : Option AV} {H' : AHeap} (e : stepV c call ops o env H = some (v, H')) : H' = H ∧ ∀ K, stepV c call ops o env K = some (v, K) := by
  simp only [stepV, Option.bind_eq_some_iff] at e
  obtain ⟨b, hb, e⟩ := e
  cases b with
  | false =>
    simp only [Bool.false_eq_true, if_false, Option.some.injEq, Prod.mk.injEq] at e
    obtain ⟨rfl, rfl⟩ := e
    exact ⟨rfl, fun K => by simp only [stepV, hb, Option.bind_some, Bool.false_eq_true, if_false]⟩
  | true =>
    simp only [if_true, Option.bind_eq_some_iff] at e
    obtain ⟨⟨r, H1⟩, hr, e⟩ := e
    obtain ⟨⟨rfl, u, rfl⟩, hk⟩ := isP_still hp hr []
    cases e
    refine ⟨rfl, fun K => ?_⟩
    have := (isP_still hp hr K).2
    simp only [stepV, hb, Option.bind_some, if_true, this]

theorem anyG_sound (hm : c.P.follows .mixedOrders = true) (call : Callee) (hc : CallOK c base w0 call) (id : Nat) (opsA : Array Oper) (env env' : AEnv) (H H' : AHeap) (t : List (Option AV × AHeap)) (ht : trace c call opsA.toList opsA.toList env H = some t)
    (hend : endOf opsA.toList t env H = (env', H')) (hedge : edgesOk opsA.toList = true) (hap : apartOk opsA.toList = true)
    (hmono0 : ∀ j, j < opsA.toList.length → (heapsOf H t j).length ≤ (heapsOf H t (j + 1)).length)
    (A : (Nat → Bool) → AHeap) (hlen : ∀ S, (A S).length = (heapsOf H t opsA.toList.length).length)
    (hA0 : ∀ S, (∀ i, S i = false) → ∀ i o, hat (A S) i = some o ↔ hat H i = some o)
    (hAn : ∀ S, (∀ i, i < opsA.toList.length → S i = true) → A S = heapsOf H t opsA.toList.length)
    (hAP : ∀ S j, j < opsA.toList.length → isP (opsOf opsA.toList j).op = true → S j = false → A (fun i => if i = j then true else S i) = A S)
    (hchk0 : ∀ (S : Nat → Bool) (j : Nat), j < opsA.toList.length → S j = false → isP (opsOf opsA.toList j).op = false →
      (∀ k, k < opsA.toList.length → S k = true → ∀ i, ((Region.before opsA.toList.toArray).getD k 0).testBit i = true → S i = true) → (∀ i, ((Region.before opsA.toList.toArray).getD j 0).testBit i = true → S i = true) →
      heapLow (heapsOf H t j).length ((A S).take (heapsOf H t j).length) = true ∧ ∃ V',
      stepV c call opsA.toList (opsOf opsA.toList j) (lowEnv (heapsOf H t j).length (envT opsA.toList t env j)) ((A S).take (heapsOf H t j).length) = some ((t.getD j dft).1, V') ∧ V'.length = (heapsOf H t (j + 1)).length ∧
        V' ++ (A S).drop (heapsOf H t (j + 1)).length = A (fun i => if i = j then true else S i))
    (ρ : Pl) (w : World) (a : Act) (h : Rel c base w0 ρ H w) (hf : Fresh ρ H) (he : EnvR ρ env a.tmps) : (Code.region id opsA true).wp c.P (Behind c base w0 ρ H w a .normal env' H') a w := by
  obtain ⟨ops⟩ := opsA
  simp only at ht hend hedge hap hmono0 hlen hAn hAP hchk0
  have hcan := fun j (hj : j < ops.length) => trace_at ht j _ (opsOf_get hj)
  obtain ⟨_, _, f3⟩ := trace_facts ht
  have hst := endOf_steps ht
  rw [f3, Option.some.injEq] at hst
  have hheap := endOf_heap ht
  rw [hend] at hst hheap
  simp only [Prod.mk.injEq] at hst
  have hE := hst.1
  change H' = _ at hheap
  subst hE hheap
  clear hst f3 hend
  simp only [envT] at hchk0
  generalize hdst : (fun i => (ops.getD i default).dst) = dst at *
  generalize hvals : (fun i => (t.getD i dft).1) = vals at *
  have hdst' : ∀ i, dst i = (opsOf ops i).dst := fun i => by rw [← hdst]; rfl
  have hvals' : ∀ i, (t.getD i dft).1 = vals i := fun i => by rw [← hvals]
  have hcan' : ∀ j, j < ops.length → stepV c call ops (opsOf ops j) (envK dst vals (fun _ => true) env j) (heapsOf H t j) = some (vals j, heapsOf H t (j + 1)) := fun j hj => by
    rw [hcan j hj, ← hvals' j]; rfl
  clear hcan
  generalize hhp : heapsOf H t = hp at *
  have hp0 : hp 0 = H := by rw [← hhp]; rfl
  generalize hs : (fun k => (hp k).length) = s at *
  have hs' : ∀ k, (hp k).length = s k := fun k => by rw [← hs]
  simp only [hs'] at hlen hmono0
  have hs0 : s 0 = H.length := by rw [← hs', hp0]
  have hmono1 : ∀ j, j < ops.length → s j ≤ s (j + 1) := hmono0
  have hmono : ∀ {j k}, j ≤ k → k ≤ ops.length → s j ≤ s k := fun hjk hk => mono_of hmono1 hjk hk
  have hedge' : ∀ j, j < ops.length → ∀ e ∈ (opsOf ops j).after.toList, Region.binds .any e = true → e.on < j := by
    intro j hj e hej hb
    have := List.all_eq_true.1 (List.all_eq_true.1 hedge j (List.mem_range.2 hj)) e hej
    rw [hb] at this
    simpa using this
  have hap' : ∀ i j, i < j → j < ops.length → ((Region.before ops.toArray).getD j 0).testBit i = true ∨ Oper.apart ops.toArray (opsOf ops i) (opsOf ops j) = true := by
    intro i j hij hj
    have := List.all_eq_true.1 (List.all_eq_true.1 hap j (List.mem_range.2 hj)) i (List.mem_range.2 hij)
    simpa only [Bool.or_eq_true] using this
  simp only [hs', hvals'] at hchk0
  generalize hbf : Region.before ops.toArray = bf at *
  have keep_mono : ∀ {S S' : Nat → Bool}, (∀ i, S i = true → S' i = true) → ∀ i, keepS s ops.length S i = true → keepS s ops.length S' i = true := by
    intro S S' hSS i hk
    rcases keepS_iff.1 hk with h1 | ⟨j, h1, h2, h3⟩
    · exact keepS_iff.2 (.inl h1)
    · exact keepS_iff.2 (.inr ⟨j, h1, hSS j h2, h3⟩)
  -- the heart: what holds when some have been run
  have main : ∀ (fuel : Nat) (listed : Array Bool) (ρ' : Pl) (a' : Act) (w' : World), listed.size = ops.length → toCome (setOf listed) ops.length = fuel →
      (∀ j, j < ops.length → setOf listed j = true → ∀ i, (bf.getD j 0).testBit i = true → setOf listed i = true) → a'.defers = a.defers →
      Post c base w0 ρ H w ρ' (A (setOf listed)) w' → EnvR ρ' (envK dst vals (setOf listed) env ops.length) a'.tmps → (∀ i p, s 0 ≤ i → ρ' (.own i) = some p → keepS s ops.length (setOf listed) i = true) →
      wpAny c.P .any ops.toArray (Behind c base w0 ρ H w a .normal (envK dst vals (fun _ => true) env ops.length) (hp ops.length)) fuel listed a' w' := by
    intro fuel
    induction fuel with
    | zero =>
      intro listed ρ' a' w' hls hcount hclosed hdf hpost henv hinv
      have hall := toCome_zero hcount
      have hE : EnvEq (envK dst vals (setOf listed) env ops.length) (envK dst vals (fun _ => true) env ops.length) :=
        ⟨by rw [envK_size, envK_size], fun t => envK_agree _ (fun i hi _ => hall i hi)⟩
      have hHH : A (setOf listed) = hp ops.length := hAn _ hall
      refine ⟨?_, rfl, hdf, ρ', hHH ▸ hpost, henv.congr hE⟩
      rw [List.eq_nil_iff_forall_not_mem]
      intro i hi
      obtain ⟨hi1, hi2, _⟩ := (mem_ready hls).1 hi
      rw [hall i hi1] at hi2; cases hi2
    | succ fuel ih =>
      intro listed ρ' a' w' hls hcount hclosed hdf hpost henv hinv
      refine ⟨fun hnil => ?_, fun j hj => ?_⟩
      · -- none is ready, and not all are through: that cannot be
        exfalso
        have hall : ∀ k, k ≤ ops.length → ∀ i, i < k → setOf listed i = true := by
          intro k
          induction k with
          | zero => intro _ i hi; omega
          | succ k ihk =>
            intro hk i hi
            by_cases hik : i = k
            · subst hik
              cases hS : setOf listed i with
              | true => rfl
              | false =>
                have : i ∈ Region.ready .any ops.toArray listed := (mem_ready hls).2 ⟨by omega, hS, fun e hej hb => ihk (by omega) _ (hedge' i (by omega) e hej hb)⟩
                rw [hnil] at this; cases this
            · exact ihk (by omega) i (by omega)
        have hz : toCome (setOf listed) ops.length = 0 := by
          have : ∀ m, m ≤ ops.length → toCome (setOf listed) m = 0 := by
            intro m hm'
            induction m with
            | zero => rfl
            | succ m ihm => simp only [toCome]; rw [ihm (by omega), hall _ (Nat.le_refl _) m (by omega)]; rfl
          exact this _ (Nat.le_refl _)
        omega
      · obtain ⟨hjn, hSj, hready⟩ := (mem_ready hls).1 hj
        have hoj := opsOf_get hjn
        have hpre : ∀ i, (bf.getD j 0).testBit i = true → setOf listed i = true := by
          intro i hi
          rw [← hbf] at hi
          obtain ⟨e, hej, hb, hq⟩ := before_bits hoj (hedge' j hjn) hi
          rcases hq with rfl | hq
          · exact hready e hej hb
          · rw [hbf] at hq
            exact hclosed e.on (by have := hedge' j hjn e hej hb; omega) (hready e hej hb) i hq
        have hpr : ∀ i, i < ops.length → i ≠ j → setOf listed i = decide (i < j) ∨ Oper.apart ops.toArray (opsOf ops (min i j)) (opsOf ops (max i j)) = true := by
          intro i hi hij
          by_cases hlt : i < j
          · rcases hap' i j hlt hjn with hb | hb
            · exact .inl (by rw [hpre i hb]; simp [hlt])
            · exact .inr (by rw [Nat.min_eq_left (by omega), Nat.max_eq_right (by omega)]; exact hb)
          · rcases hap' j i (by omega) hi with hb | hb
            · refine .inl ?_
              cases hS : setOf listed i with
              | false => simp; omega
              | true =>
                have := hclosed i hi hS j hb
                rw [hSj] at this; cases this
            · exact .inr (by rw [Nat.min_eq_right (by omega), Nat.max_eq_left (by omega)]; exact hb)
        have hreads : ∀ t ∈ (opsOf ops j).looksAt ops.toArray, eget (envK dst vals (setOf listed) env ops.length) t = eget (envK dst vals (fun _ => true) env j) t := by
          intro t ht'
          rw [← envK_upto j ops.length (by omega)]
          refine envK_agree _ (fun i hi hd => ?_)
          by_cases hij : i = j
          · subst hij; rw [hSj]; simp
          · rcases hpr i hi hij with hp | hap
            · exact hp
            · exfalso
              rw [hdst'] at hd
              by_cases hlt : i < j
              · rw [Nat.min_eq_left (by omega), Nat.max_eq_right (by omega)] at hap
                exact (Oper.apart_spec hap).1 t hd ht'
              · rw [Nat.min_eq_right (by omega), Nat.max_eq_left (by omega)] at hap
                exact (Oper.apart_spec hap).2.2 t hd ht'
        have hreads2 : ∀ t ∈ (opsOf ops j).looksAt ops.toArray, eget (lowEnv (s j) (envK dst vals (setOf listed) env ops.length)) t = eget (lowEnv (s j) (envK dst vals (fun _ => true) env j)) t := fun t ht' => by
          rw [lowEnv_get, lowEnv_get, hreads t ht']
        have hw : awanted ops (lowEnv (s j) (envK dst vals (setOf listed) env ops.length)) (opsOf ops j) = awanted ops (lowEnv (s j) (envK dst vals (fun _ => true) env j)) (opsOf ops j) := awanted_reads hreads2
        have hop : ∀ K, aop c (lowEnv (s j) (envK dst vals (setOf listed) env ops.length)) (opsOf ops j).op K = aop c (lowEnv (s j) (envK dst vals (fun _ => true) env j)) (opsOf ops j).op K := fun K => aop_congr (aval_reads hreads2) K
        generalize hS' : (fun i => if i = j then true else setOf listed i) = S' at *
        have hS'j : S' j = true := by rw [← hS']; simp
        have hS'n : ∀ i, i ≠ j → S' i = setOf listed i := fun i hi => by rw [← hS']; simp [hi]
        have hset : setOf (listed.setIfInBounds j true) = S' := by
          funext i
          simp only [setOf, Array.getD_eq_getD_getElem?, Array.getElem?_setIfInBounds]
          by_cases hij : j = i
          · subst hij
            rw [if_pos rfl, if_pos (by omega), hS'j]; rfl
          · rw [if_neg hij, hS'n i (Ne.symm hij)]
            simp [setOf, Array.getD_eq_getD_getElem?]
        have hSS' : ∀ i, setOf listed i = true → S' i = true := fun i hi => by
          by_cases hij : i = j
          · rw [hij]; exact hS'j
          · rw [hS'n i hij]; exact hi
        have henv' : EnvEq (eput (envK dst vals (setOf listed) env ops.length) (dst j) (vals j)) (envK dst vals S' env ops.length) := by
          refine ⟨by rw [eput_size, envK_size, envK_size], fun t => ?_⟩
          by_cases hdt : dst j = some t
          · have := envK_last (vals := vals) (env := env) hdt hS'j ops.length hjn (fun i h1 h2 hd => by
              rw [hS'n i (by omega)]
              rcases hpr i h2 (by omega) with hp | hap
              · rw [hp]; simp; omega
              · exfalso
                rw [Nat.min_eq_right (by omega), Nat.max_eq_left (by omega)] at hap
                rw [hdst'] at hd hdt
                exact (Oper.apart_spec hap).2.1 t hdt hd)
            rw [this, hdt]
            exact eput_eq (by rw [envK_size, envK_size])
          · rw [eput_ne hdt]
            refine envK_agree _ (fun i hi hd => ?_)
            exact (hS'n i (fun hij => hdt (by rw [← hij]; exact hd))).symm
        cases hPj : isP (opsOf ops j).op with
        | true =>
          obtain ⟨hPs, hPk⟩ := isP_stepV hPj (hcan' j hjn)
          have hw2 : awanted ops (envK dst vals (setOf listed) env ops.length) (opsOf ops j) = awanted ops (envK dst vals (fun _ => true) env j) (opsOf ops j) := awanted_reads hreads
          have hop2 : ∀ K, aop c (envK dst vals (setOf listed) env ops.length) (opsOf ops j).op K = aop c (envK dst vals (fun _ => true) env j) (opsOf ops j).op K := fun K => aop_congr (aval_reads hreads) K
          have hgo : stepV c call ops (opsOf ops j) (envK dst vals (setOf listed) env ops.length) (A (setOf listed)) = some (vals j, A (setOf listed)) := by
            rw [← hPk]
            simp only [stepV, hw2, hop2]
          have hfA : Fresh ρ' (A (setOf listed)) := fun i hi => by
            cases hq : ρ' (.own i) with
            | none => rfl
            | some p =>
              rw [hlen] at hi
              have := hinv i p (Nat.le_trans (hmono (Nat.zero_le _) (Nat.le_refl _)) hi) hq
              rcases keepS_iff.1 this with h3 | ⟨k, h3, h4, h5, h6⟩
              · have := hmono (Nat.zero_le ops.length) (Nat.le_refl _); omega
              · have := hmono (show k + 1 ≤ ops.length by omega) (Nat.le_refl _); omega
          refine stepV_sound hc hpost.rel hfA henv hoj hgo ?_
          intro x w2 ρ2 hv hp2
          have hAS : A S' = A (setOf listed) := by rw [← hS']; exact hAP _ j hjn hPj hSj
          refine ih (listed.setIfInBounds j true) ρ2 (a'.put (opsOf ops j).dst x) w2 (by simpa using hls) ?_ ?_ ?_ ?_ ?_ ?_
          · rw [hset]
            have := toCome_step hSj hS'j (fun i hi => (hS'n i hi).symm) hjn
            omega
          · rw [hset]
            intro k hk hSk i hi
            by_cases hij : i = j
            · rw [hij]; exact hS'j
            · rw [hS'n i hij]
              by_cases hkj : k = j
              · subst hkj; exact hpre i hi
              · exact hclosed k hk (by rw [← hS'n k hkj]; exact hSk) i hi
          · rw [← hdf]; cases (opsOf ops j).dst <;> rfl
          · rw [hset, hAS]; exact hpost.trans hp2
          · rw [hset]; exact EnvR.congr (by rw [hdst']; exact (henv.mono hp2.ext).put _ hv) henv'
          · rw [hset]
            intro i p h1 hq
            rcases hp2.new _ _ hq with e1 | ⟨k, hk, h2, h3⟩
            · exact keep_mono hSS' i (hinv i p h1 e1)
            · omega
        | false =>
          -- whose number it is
          have hdisj : ∀ i, s j ≤ i → i < s (j + 1) → keepS s ops.length (setOf listed) i = false := by
            intro i h1 h2
            cases hk : keepS s ops.length (setOf listed) i with
            | false => rfl
            | true =>
              exfalso
              rcases keepS_iff.1 hk with h3 | ⟨k, h3, h4, h5, h6⟩
              · have := hmono (Nat.zero_le j) (Nat.le_of_lt hjn); omega
              · rcases Nat.lt_trichotomy k j with hlt | rfl | hlt
                · have := hmono (show k + 1 ≤ j by omega) (Nat.le_of_lt hjn); omega
                · rw [hSj] at h4; cases h4
                · have := hmono (show j + 1 ≤ k by omega) (Nat.le_of_lt h3); omega
          obtain ⟨hlow, V', hsp3, hVl', hAA⟩ := hchk0 (setOf listed) j hjn hSj hPj hclosed hpre
          have hlenA := hlen (setOf listed)
          rw [hS'] at hAA
          generalize hAe : A (setOf listed) = An at *
          have hsn : s (j + 1) ≤ s ops.length := hmono (by omega) (Nat.le_refl _)
          have hsj : s j ≤ s (j + 1) := hmono1 j hjn
          have hVl : (An.take (s j)).length = s j := by rw [List.length_take]; omega
          have hVh : ∀ i, i < s j → hat (An.take (s j)) i = hat An i := fun i hi => by
            unfold hat; rw [List.getElem?_take, if_pos hi]
          have hgo : stepV c call ops (opsOf ops j) (lowEnv (s j) (envK dst vals (setOf listed) env ops.length)) (An.take (s j)) = some (vals j, V') := by
            rw [← hsp3]
            simp only [stepV, hw, hop]
          have hm' : H.length ≤ s j := by rw [← hs0]; exact hmono (Nat.zero_le _) (Nat.le_of_lt hjn)
          have hrelV := rel_part h hf hpost.ext hm' hpost.rel (fun i o e => by rw [← hVh i (hVl ▸ hat_lt e)]; exact e) hlow hVl
          have hfV : Fresh (AM.cut (s j) ρ') (An.take (s j)) := fun i hi => by
            unfold AM.cut
            rw [if_neg]
            simp [Loc.low]; omega
          refine stepV_sound hc hrelV hfV henv.cut hoj hgo ?_
          intro x w2 ρ2 hv hp2
          obtain ⟨hp3, he1, he2⟩ := post_part2 (A' := A S') hm' hpost hVh hVl hp2 (fun i h1 h2 => by
              rw [hVl'] at h2
              cases hq : ρ' (.own i) with
              | none => rfl
              | some p =>
                have := hinv i p (by have := hmono (Nat.zero_le j) (Nat.le_of_lt hjn); omega) hq
                rw [hdisj i h1 h2] at this; cases this) (fun i o => by
              rw [← hAA]
              unfold hat
              rcases Nat.lt_or_ge i V'.length with hi | hi
              · rw [List.getElem?_append_left hi]
                constructor
                · exact fun e => .inl ⟨hi, e⟩
                · rintro (⟨_, e⟩ | ⟨h1, _⟩)
                  · exact e
                  · omega
              · rw [List.getElem?_append_right hi, List.getElem?_drop, ← hVl', show V'.length + (i - V'.length) = i by omega]
                constructor
                · exact fun e => .inr ⟨hi, e⟩
                · rintro (⟨h1, _⟩ | ⟨_, e⟩)
                  · omega
                  · exact e) (by rw [← hAA, List.length_append, List.length_drop]; omega) (by rw [← hAA, List.length_append]; omega)
          refine ih (listed.setIfInBounds j true) (joinP (s j) V'.length ρ' ρ2) (a'.put (opsOf ops j).dst x) w2 (by simpa using hls) ?_ ?_ ?_ ?_ ?_ ?_
          · rw [hset]
            have := toCome_step hSj hS'j (fun i hi => (hS'n i hi).symm) hjn
            omega
          · rw [hset]
            intro k hk hSk i hi
            by_cases hij : i = j
            · rw [hij]; exact hS'j
            · rw [hS'n i hij]
              by_cases hkj : k = j
              · subst hkj; exact hpre i hi
              · exact hclosed k hk (by rw [← hS'n k hkj]; exact hSk) i hi
          · rw [← hdf]; cases (opsOf ops j).dst <;> rfl
          · rw [hset]; exact hp3
          · rw [hset]; exact EnvR.congr (by rw [hdst']; exact (henv.mono he1).put _ (fun u hu => (hv u hu).mono he2)) henv'
          · rw [hset]
            intro i p h1 hq
            simp only [joinP] at hq
            split at hq
            · rename_i hi
              rw [hVl'] at hi
              exact keepS_iff.2 (.inr ⟨j, hjn, hS'j, hi.1, hi.2⟩)
            · exact keep_mono hSS' i (hinv i p h1 hq)
  refine wp_region_any hm ?_
  have hS0 : ∀ i, setOf (Array.replicate ops.length false) i = false := fun i => by
    simp only [setOf, Array.getD_eq_getD_getElem?, Array.getElem?_replicate]
    split <;> rfl
  have hE0 : ∀ k, envK dst vals (setOf (Array.replicate ops.length false)) env k = env := by
    intro k
    induction k with
    | zero => rfl
    | succ k ihk => simp only [envK, hS0]; simpa using ihk
  have hT0 : ∀ k, toCome (setOf (Array.replicate ops.length false)) k = k := by
    intro k
    induction k with
    | zero => rfl
    | succ k ihk => simp only [toCome, hS0]; simp [ihk]
  refine main ops.length (Array.replicate ops.length false) ρ a _ (by simp) (hT0 _) (fun j _ hj => by rw [hS0] at hj; cases hj) rfl ?_ ?_ ?_
  · exact post_same (post_drew h) (hA0 _ hS0) (by rw [hlen, ← hs0]; exact hmono (Nat.zero_le _) (Nat.le_refl _))
  · rw [hE0]; exact he
  · intro i p h1 hq
    rw [hf i (by omega)] at hq; cases hq


/-! ### operations that only add, each told by what it looks at -/

theorem hat_ext {L M : AHeap} (hl : L.length = M.length) (h : ∀ b, hat L b = hat M b) : L = M := by
  apply List.ext_getElem?
  intro i
  have := h i
  unfold hat at this
  rcases Nat.lt_or_ge i L.length with hi | hi
  · rw [List.getElem?_eq_getElem hi, List.getElem?_eq_getElem (hl ▸ hi)] at this ⊢
    simpa using this
  · rw [List.getElem?_eq_none hi, List.getElem?_eq_none (hl ▸ hi)]
theorem hat_none {L : AHeap} {b : Nat} (h : L.length ≤ b) : hat L b = none := by
  unfold hat; rw [List.getElem?_eq_none h]
theorem hat_app {L M : AHeap} {b : Nat} : hat (L ++ M) b = if b < L.length then hat L b else hat M (b - L.length) := by
  unfold hat
  by_cases h : b < L.length
  · rw [if_pos h, List.getElem?_append_left h]
  · rw [if_neg h, List.getElem?_append_right (by omega)]
theorem hat_take {L : AHeap} {m b : Nat} : hat (L.take m) b = if b < m then hat L b else none := by
  unfold hat
  by_cases h : b < m
  · rw [if_pos h, List.getElem?_take, if_pos h]
  · rw [if_neg h, List.getElem?_take, if_neg h]
theorem hat_drop {L : AHeap} {m b : Nat} : hat (L.drop m) b = hat L (m + b) := by
  unfold hat; rw [List.getElem?_drop]
theorem hat_setI {L : AHeap} {i b : Nat} {o : Option AObj} : hat (L.set i o) b = if b = i ∧ i < L.length then o else hat L b := by
  split
  · rename_i h; obtain ⟨rfl, h⟩ := h; exact hat_eq o h
  · rename_i h
    by_cases hb : b = i
    · subst hb
      have : L.length ≤ b := by omega
      rw [hat_none this, hat_none (by simpa using this)]
    · exact hat_ne o hb
theorem heapLow_of {n : Nat} {L : AHeap} (h : ∀ b o, hat L b = some o → o.low n = true) : heapLow n L = true := by
  refine heapLow_iff.2 fun o ho => ?_
  obtain ⟨i, hi, he⟩ := List.getElem_of_mem ho
  refine h i o ?_
  unfold hat
  rw [List.getElem?_eq_getElem hi, he]

/-- what a listed operation looks at: its number, how many new things lie ahead of it, those that it needs, the one that it takes away, how many it makes -/
structure Lo where
  j : Nat
  ahead : Nat
  need : List Nat := []
  kill : Option Nat := none
  makes : Nat := 0

def mk1 (U : List Lo) (ops : List Oper) (j : Nat) : Nat := match U.find? (fun u => u.j == j) with
  | some u => u.makes
  | none => if isP (opsOf ops j).op then 0 else 1
def sg (U : List Lo) (ops : List Oper) : Nat → Nat
  | 0 => 0
  | j + 1 => sg U ops j + mk1 U ops j
def killOf (U : List Lo) (j : Nat) : Option Nat := (U.find? fun u => u.j == j).bind (·.kill)
def needOf (U : List Lo) (j : Nat) : List Nat := match U.find? (fun u => u.j == j) with | some u => u.need | none => []
def killK (H : AHeap) (q : Option Nat) (K : AHeap) : AHeap := match q with | none => K | some b => K.set (H.length + b) none

/-- is the last operation behind all others? -/
def lastOk (ops : List Oper) : Bool := !isP (opsOf ops (ops.length - 1)).op && (Nat.blt 0 ops.length && (List.range (ops.length - 1)).all fun i => isP (opsOf ops i).op || ((Region.before ops.toArray).getD (ops.length - 1) 0).testBit i)
def localOk (ops : List Oper) (U : List Lo) (last : Bool) : Bool :=
  edgesOk ops && (apartOk ops && ((!last || lastOk ops) && ((List.range ops.length).all fun j =>
    (isP (opsOf ops j).op && (U.find? fun u => u.j == j).isNone) || ((last && Nat.beq j (ops.length - 1) && (U.find? fun u => u.j == j).isNone) ||
      (match U.find? (fun u => u.j == j) with
       | none => plainOper (opsOf ops j)
       | some u => !isP (opsOf ops j).op && (Nat.beq u.ahead (sg U ops j) && (Nat.ble u.makes 1 && ((u.need.all fun b => (List.range j).any fun i => Nat.beq (mk1 U ops i) 1 && (Nat.beq (sg U ops i) b && ((Region.before ops.toArray).getD j 0).testBit i) && (List.range ops.length).all fun k => !(killOf U k == some b) || (Nat.beq k j || ((Region.before ops.toArray).getD k 0).testBit j)) &&
           (match u.kill with | none => true | some b => u.need.contains b)))))))))


theorem take_trace2 {call : Callee} {ops : List Oper} : ∀ {r : List Oper} {env : AEnv} {H : AHeap} {t : List (Option AV × AHeap)}, trace c call ops r env H = some t → ∀ m, m ≤ r.length →
    asteps c call ops (r.take m) env H = some (envK (fun i => (r.getD i default).dst) (fun i => (t.getD i dft).1) (fun _ => true) env m, heapsOf H t m)
  | r, env, H, t, ht, 0, _ => rfl
  | [], env, H, t, ht, m + 1, h => by simp at h
  | o :: r, env, H, t, ht, m + 1, h => by
    simp only [trace, Option.bind_eq_some_iff, Option.some.injEq] at ht
    obtain ⟨p, hp, t', ht, rfl⟩ := ht
    have ih := take_trace2 ht m (by simpa using h)
    simp only [List.take_succ_cons, asteps, astep_stepV, hp, Option.map_some, Option.bind_some]
    rw [ih, envK_shift]
    cases m <;> rfl

theorem maker_len {env : AEnv} {o : Op} (hp : plainOp o = true) (hn : isP o = false) {r : ARes} {H' : AHeap} (e : aop c env o H = some (r, H')) : H'.length = H.length + 1 := by
  unfold plainOp at hp
  split at hp <;> first | (simp [isP] at hn; done) | skip
  · simp only [aop, both, anew, Option.bind_eq_some_iff, Option.map_eq_some_iff] at e
    obtain ⟨z, hz, ⟨u, H1⟩, ⟨m, hm, e⟩, e2⟩ := e
    split at e
    · cases e; cases e2; simp [hnew]
    · cases e
  · simp only [aop, both, anew, Option.bind_eq_some_iff, Option.map_eq_some_iff] at e
    obtain ⟨z, hz, ⟨u, H1⟩, ⟨m, hm, e⟩, e2⟩ := e
    split at e
    · cases e; cases e2; simp [hnew]
    · cases e
  · simp only [aop, both, abuildSlice, Option.bind_eq_some_iff, Option.map_eq_some_iff] at e
    obtain ⟨l, hls, ⟨u, H1⟩, ⟨d, hd, e⟩, e2⟩ := e
    split at e
    · simp only [Option.bind_eq_some_iff] at e
      obtain ⟨m, hm, z, hz, e⟩ := e
      split at e
      · simp only [Option.map_eq_some_iff] at e
        obtain ⟨cs, hcs, e⟩ := e
        cases e; cases e2; simp [hnew]
      · split at e
        · cases e; cases e2; simp [hnew]
        · cases e
    · cases e
  · simp only [aop, Option.some.injEq, Prod.mk.injEq] at e
    obtain ⟨rfl, rfl⟩ := e
    simp [hnew]
  · simp only [aop, both, Option.bind_eq_some_iff] at e
    obtain ⟨u, hu, v, hv, e⟩ := e
    unfold amakeSlice at e
    split at e
    · simp only [Option.map_eq_some_iff, Option.bind_eq_some_iff] at e
      obtain ⟨⟨q, H1⟩, ⟨d, hd, e⟩, e2⟩ := e
      split at e
      · simp only [Option.bind_eq_some_iff] at e
        obtain ⟨i, hi, z, hz, e⟩ := e
        split at e
        · cases e; cases e2; simp [hnew]
        · cases e
      · cases e
    · cases e
  · cases hp

theorem sg_mono {U : List Lo} {ops : List Oper} : ∀ {i j : Nat}, i ≤ j → sg U ops i ≤ sg U ops j := by
  intro i j h
  induction j with
  | zero => obtain rfl : i = 0 := by omega
            exact Nat.le_refl _
  | succ j ih =>
    by_cases e : i = j + 1
    · subst e; exact Nat.le_refl _
    · exact Nat.le_trans (ih (by omega)) (Nat.le_add_right _ _)
theorem sg_inj {U : List Lo} {ops : List Oper} {i j : Nat} (h : sg U ops i = sg U ops j) (hi : mk1 U ops i = 1) (hj : mk1 U ops j = 1) : i = j := by
  rcases Nat.lt_trichotomy i j with h1 | h1 | h1
  · have := sg_mono (U := U) (ops := ops) (show i + 1 ≤ j by omega); simp only [sg, hi] at this; omega
  · exact h1
  · have := sg_mono (U := U) (ops := ops) (show j + 1 ≤ i by omega); simp only [sg, hj] at this; omega
theorem ifS {S : Nat → Bool} {i j : Nat} (h : S i = true) : (if i = j then true else S i) = true := by
  split
  · rfl
  · exact h
theorem killK_len {K : AHeap} {q : Option Nat} : (killK H q K).length = K.length := by cases q <;> simp [killK]
theorem killK_hat {K : AHeap} {q : Option Nat} {b : Nat} : hat (killK H q K) b = if H.length ≤ b ∧ q = some (b - H.length) then none else hat K b := by
  cases q with
  | none => simp [killK]
  | some x =>
    by_cases hb : b = H.length + x
    · subst hb
      rw [if_pos (show H.length ≤ H.length + x ∧ some x = some (H.length + x - H.length) from ⟨by omega, by congr 1; omega⟩)]
      simp only [killK, hat_setI]
      split
      · rfl
      · rename_i h; exact hat_none (by simp at h; omega)
    · rw [if_neg (fun e => hb (by have h2 := e.2; simp only [Option.some.injEq] at h2; omega))]
      simp only [killK, hat_setI]
      rw [if_neg (fun e => hb e.1)]

section
open Classical
variable (H : AHeap) (t : List (Option AV × AHeap)) (U : List Lo) (ops : List Oper) (q : Nat)
/-- who is there when those of S have been run -/
def Al (S : Nat → Bool) (b : Nat) : Prop := b < H.length ∨ ((∃ i, i < q ∧ S i = true ∧ mk1 U ops i = 1 ∧ b = H.length + sg U ops i) ∧ ∀ k, k < q → S k = true → killOf U k ≠ some (b - H.length))
noncomputable def Fo (b : Nat) : Option AObj := if b < H.length then hat H b else if h : ∃ i, i < q ∧ mk1 U ops i = 1 ∧ b = H.length + sg U ops i then hat (heapsOf H t (h.choose + 1)) b else none
noncomputable def AS (N : Nat) (S : Nat → Bool) : AHeap := (List.range N).map fun b => if Al H U ops q S b then Fo H t U ops q b else none
variable {H t U ops q}
theorem AS_len {N : Nat} {S : Nat → Bool} : (AS H t U ops q N S).length = N := by simp [AS]
theorem AS_hat {N : Nat} {S : Nat → Bool} {b : Nat} : hat (AS H t U ops q N S) b = if b < N ∧ Al H U ops q S b then Fo H t U ops q b else none := by
  unfold hat AS
  by_cases hb : b < N
  · rw [List.getElem?_eq_getElem (by simpa using hb)]
    simp only [List.getElem_map, List.getElem_range, hb, true_and]
  · rw [List.getElem?_eq_none (by simpa using hb), if_neg (fun e => hb e.1)]
theorem Fo_old {b : Nat} (h : b < H.length) : Fo H t U ops q b = hat H b := by simp [Fo, h]
theorem Fo_new {i : Nat} (hi : i < q) (h1 : mk1 U ops i = 1) : Fo H t U ops q (H.length + sg U ops i) = hat (heapsOf H t (i + 1)) (H.length + sg U ops i) := by
  have hx : ∃ i', i' < q ∧ mk1 U ops i' = 1 ∧ H.length + sg U ops i = H.length + sg U ops i' := ⟨i, hi, h1, rfl⟩
  unfold Fo
  rw [if_neg (by omega), dif_pos hx]
  have hc := hx.choose_spec
  rw [sg_inj (by omega) hc.2.1 h1]
end

theorem local_sound (hm : c.P.follows .mixedOrders = true) (call : Callee) (hc : CallOK c base w0 call) (id : Nat) (opsA : Array Oper) (env env' : AEnv) (H H' : AHeap) (U : List Lo) (last : Bool) (hs : localOk opsA.toList U last = true)
    (hst : asteps c call opsA.toList opsA.toList env H = some (env', H'))
    (hU : ∀ u ∈ U, ∃ ej Hj v news, asteps c call opsA.toList (opsA.toList.take u.j) env H = some (ej, Hj) ∧ news.length = u.makes ∧ ∀ K : AHeap, K.length = H.length + u.ahead → (∀ b, b < H.length → hat K b = hat H b) → (∀ b ∈ u.need, hat K (H.length + b) = hat Hj (H.length + b)) →
      stepV c call opsA.toList (opsOf opsA.toList u.j) ej K = some (v, killK H u.kill K ++ news))
    (ρ : Pl) (w : World) (a : Act) (h : Rel c base w0 ρ H w) (hf : Fresh ρ H) (he : EnvR ρ env a.tmps) : (Code.region id opsA true).wp c.P (Behind c base w0 ρ H w a .normal env' H') a w := by
  classical
  obtain ⟨t, ht⟩ := trace_of_steps hst
  have hend := endOf_steps ht
  rw [hst, Option.some.injEq] at hend
  have low := trace_low hc ht h hf he
  have rel := trace_rel hc ht h hf he
  generalize hops : opsA.toList = ops at *
  simp only [localOk, Bool.and_eq_true, Bool.or_eq_true, Bool.not_eq_true', List.all_eq_true, List.mem_range] at hs
  obtain ⟨hedge, hap, hlast, hall⟩ := hs
  have hcan : ∀ j, j < ops.length → stepV c call ops (opsOf ops j) (envT ops t env j) (heapsOf H t j) = some ((t.getD j dft).1, heapsOf H t (j + 1)) := fun j hj => trace_at ht j _ (opsOf_get hj)
  have hbef : ∀ i j, j < ops.length → ((Region.before ops.toArray).getD j 0).testBit i = true → i < j := by
    intro i j hj hb
    have hedge' : ∀ j, j < ops.length → ∀ e ∈ (opsOf ops j).after.toList, Region.binds .any e = true → e.on < j := by
      intro j hj e hej hb
      have := List.all_eq_true.1 (List.all_eq_true.1 hedge j (List.mem_range.2 hj)) e hej
      rw [hb] at this
      simpa using this
    have key : ∀ m j, j < m → j < ops.length → ((Region.before ops.toArray).getD j 0).testBit i = true → i < j := by
      intro m
      induction m with
      | zero => intro j h; omega
      | succ m ih =>
        intro j hjm hj hb
        obtain ⟨e, hej, hb', hq⟩ := before_bits (opsOf_get hj) (hedge' j hj) hb
        have hlt := hedge' j hj e hej hb'
        rcases hq with rfl | hq
        · exact hlt
        · exact Nat.lt_trans (ih e.on (by omega) (by omega) hq) hlt
    exact key (j + 1) j (by omega) hj hb
  generalize hq : (if last = true then ops.length - 1 else ops.length) = q
  have hqn : q ≤ ops.length := by subst hq; split <;> omega
  -- what is told of each local operation
  have find_none : ∀ {j}, (U.find? fun u => u.j == j) = none → killOf U j = none ∧ needOf U j = [] := fun {j} h => by simp [killOf, needOf, h]
  have fact : ∀ j, j < q → (isP (opsOf ops j).op = true ∧ mk1 U ops j = 0 ∧ killOf U j = none ∧ needOf U j = []) ∨ (isP (opsOf ops j).op = false ∧ plainOper (opsOf ops j) = true ∧ mk1 U ops j = 1 ∧ killOf U j = none ∧ needOf U j = []) ∨
      (isP (opsOf ops j).op = false ∧ ∃ u ∈ U, u.j = j ∧ u.ahead = sg U ops j ∧ mk1 U ops j = u.makes ∧ u.makes ≤ 1 ∧ killOf U j = u.kill ∧ needOf U j = u.need ∧
        (∀ b ∈ u.need, ∃ i, i < j ∧ mk1 U ops i = 1 ∧ sg U ops i = b ∧ ((Region.before ops.toArray).getD j 0).testBit i = true ∧ ∀ k, k < ops.length → killOf U k = some b → k = j ∨ ((Region.before ops.toArray).getD k 0).testBit j = true) ∧ ∀ b, u.kill = some b → b ∈ u.need) := by
    intro j hj
    rcases hall j (by omega) with ⟨h1, h2⟩ | ⟨⟨h1, h2⟩, h3⟩ | h1
    · have h2' := Option.isNone_iff_eq_none.1 h2
      exact .inl ⟨h1, by simp [mk1, h2', h1], find_none h2'⟩
    · subst hq; rw [h1, if_pos rfl] at hj
      have := Nat.eq_of_beq_eq_true h2; omega
    · cases hfd : U.find? (fun u => u.j == j) with
      | none =>
        rw [hfd] at h1
        cases hp : isP (opsOf ops j).op with
        | true => exact .inl ⟨rfl, by simp [mk1, hfd, hp], find_none hfd⟩
        | false => exact .inr (.inl ⟨rfl, h1, by simp [mk1, hfd, hp], find_none hfd⟩)
      | some u =>
        rw [hfd] at h1
        simp only [Bool.and_eq_true, List.all_eq_true, List.any_eq_true, List.mem_range, Bool.or_eq_true, Bool.not_eq_true', beq_eq_false_iff_ne, ne_eq] at h1
        obtain ⟨k0, k1, k2, k3, k4⟩ := h1
        have huj : u.j = j := by have := List.find?_some hfd; simpa using this
        refine .inr (.inr ⟨k0, u, List.mem_of_find?_eq_some hfd, huj, Nat.eq_of_beq_eq_true k1, by simp [mk1, hfd], by simpa using k2, by simp [killOf, hfd], by simp [needOf, hfd], ?_, ?_⟩)
        · intro b hb
          obtain ⟨i, hi, ⟨g1, g2, g3⟩, g4⟩ := k3 b hb
          refine ⟨i, hi, Nat.eq_of_beq_eq_true g1, Nat.eq_of_beq_eq_true g2, g3, fun k hk hkb => ?_⟩
          rcases g4 k hk with g | g | g
          · exact absurd hkb g
          · exact .inl (Nat.eq_of_beq_eq_true g)
          · exact .inr g
        · intro b hb
          rw [hb] at k4
          simpa using k4
  -- a thing taken away was made by what lies ahead
  have killer : ∀ k, k < q → ∀ b, killOf U k = some b → ∃ i, i < k ∧ mk1 U ops i = 1 ∧ sg U ops i = b ∧ ((Region.before ops.toArray).getD k 0).testBit i = true := by
    intro k hk b hb
    rcases fact k hk with ⟨_, _, h1, _⟩ | ⟨_, _, _, h1, _⟩ | ⟨_, u, _, _, _, _, _, h1, _, h2, h3⟩
    · rw [h1] at hb; cases hb
    · rw [h1] at hb; cases hb
    · rw [h1] at hb
      obtain ⟨i, g1, g2, g3, g4, _⟩ := h2 b (h3 b hb)
      exact ⟨i, g1, g2, g3, g4⟩
  have mk01 : ∀ j, j < q → mk1 U ops j ≤ 1 := by
    intro j hj
    rcases fact j hj with ⟨_, h1, _⟩ | ⟨_, _, h1, _⟩ | ⟨_, u, _, _, _, h1, h2, _⟩ <;> omega
  have step : ∀ j, j < q → (heapsOf H t j).length = H.length + sg U ops j → (∀ b, b < H.length → hat (heapsOf H t j) b = hat H b) → ∃ news : AHeap, news.length = mk1 U ops j ∧ heapsOf H t (j + 1) = killK H (killOf U j) (heapsOf H t j) ++ news ∧ ∀ K : AHeap, K.length = H.length + sg U ops j → (∀ b, b < H.length → hat K b = hat H b) →
      (∀ b ∈ needOf U j, hat K (H.length + b) = hat (heapsOf H t j) (H.length + b)) → stepV c call ops (opsOf ops j) (envT ops t env j) K = some ((t.getD j dft).1, killK H (killOf U j) K ++ news) := by
    intro j hj hl hold
    have hjn : j < ops.length := by omega
    rcases fact j hj with ⟨hp, h1, h2, h3⟩ | ⟨hn, hp, h1, h2, h3⟩ | ⟨hn, u, hu, rfl, h1, h2, h3, h4, h5, h6, h7⟩
    · obtain ⟨e1, e2⟩ := isP_stepV hp (hcan j hjn)
      refine ⟨[], by rw [h1]; rfl, by rw [h2, e1, List.append_nil]; rfl, fun K _ _ _ => ?_⟩
      rw [h2, List.append_nil]; exact e2 K
    · have hs := hcan j hjn
      have hpo : plainOp (opsOf ops j).op = true := by simp only [plainOper, Bool.and_eq_true] at hp; exact hp.1
      rw [stepV_plain hp, Option.bind_eq_some_iff] at hs
      obtain ⟨⟨r, K0⟩, ha, hs⟩ := hs
      obtain ⟨v, rfl, hv⟩ := plain_step hpo (low j (by omega)).2.1 ha
      have hlen := maker_len hpo hn ha
      simp only [Option.some.injEq, Prod.mk.injEq] at hs
      obtain ⟨hs1, hs2⟩ := hs
      rcases hv with ⟨e1, _⟩ | ⟨ob, e1, _, _, e2⟩
      · rw [e1] at hlen; omega
      · refine ⟨[some ob], by rw [h1]; rfl, by rw [h2, ← hs2, e1]; rfl, fun K hK _ _ => ?_⟩
        rw [h2, stepV_plain hp, e2 K (by rw [hK, hl]), ← hs1]
        rfl
    · obtain ⟨ej, Hj, v, news, g1, g2, g3⟩ := hU u hu
      have hT := take_trace2 ht u.j (by omega)
      rw [g1, Option.some.injEq, Prod.mk.injEq] at hT
      obtain ⟨rfl, rfl⟩ := hT
      have hc0 := g3 (heapsOf H t u.j) (by rw [hl, h1]) hold (fun _ _ => rfl)
      have hs := hcan u.j hjn
      simp only [envT] at hs
      rw [hc0, Option.some.injEq, Prod.mk.injEq] at hs
      refine ⟨news, by rw [g2, h2], by rw [h4, ← hs.2], fun K k1 k2 k3 => ?_⟩
      rw [h4, ← hs.1]
      exact g3 K (by rw [k1, h1]) k2 (by rw [← h5]; exact k3)
  have canon : ∀ j, j ≤ q → (heapsOf H t j).length = H.length + sg U ops j ∧ ∀ b, b < (heapsOf H t j).length → hat (heapsOf H t j) b = if Al H U ops q (fun i => decide (i < j)) b then Fo H t U ops q b else none := by
    intro j
    induction j with
    | zero =>
      intro _
      refine ⟨rfl, fun b hb => ?_⟩
      have hb' : b < H.length := hb
      rw [if_pos (.inl hb'), Fo_old hb']; rfl
    | succ j ih =>
      intro hj
      obtain ⟨i1, i2⟩ := ih (by omega)
      have hold : ∀ b, b < H.length → hat (heapsOf H t j) b = hat H b := fun b hb => by rw [i2 b (by omega), if_pos (.inl hb), Fo_old hb]
      obtain ⟨news, g1, g2, _⟩ := step j (by omega) i1 hold
      have hl : (heapsOf H t (j + 1)).length = H.length + sg U ops (j + 1) := by rw [g2, List.length_append, killK_len, i1, g1]; simp only [sg]; omega
      refine ⟨hl, fun b hb => ?_⟩
      rw [hl] at hb
      by_cases hbj : b < H.length + sg U ops j
      · rw [g2, hat_app, killK_len, i1, if_pos hbj, killK_hat, i2 b (by omega)]
        by_cases hk : H.length ≤ b ∧ killOf U j = some (b - H.length)
        · rw [if_pos hk, if_neg]
          rintro (h1 | ⟨_, h1⟩)
          · omega
          · exact h1 j (by omega) (by simp) hk.2
        · rw [if_neg hk]
          have : Al H U ops q (fun i => decide (i < j)) b ↔ Al H U ops q (fun i => decide (i < j + 1)) b := by
            constructor
            · rintro (h1 | ⟨⟨i, k1, k2, k3, k4⟩, h2⟩)
              · exact .inl h1
              · refine .inr ⟨⟨i, k1, by simp at k2 ⊢; omega, k3, k4⟩, fun k hk' hS e => ?_⟩
                by_cases hkj : k = j
                · subst hkj; exact hk ⟨by omega, e⟩
                · exact h2 k hk' (by simp at hS ⊢; omega) e
            · rintro (h1 | ⟨⟨i, k1, k2, k3, k4⟩, h2⟩)
              · exact .inl h1
              · refine .inr ⟨⟨i, k1, ?_, k3, k4⟩, fun k hk' hS e => h2 k hk' (by simp at hS ⊢; omega) e⟩
                simp at k2 ⊢
                by_cases hij : i = j
                · subst hij; omega
                · omega
          simp only [this]
      · have hm1 : mk1 U ops j = 1 := by have := mk01 j (by omega); simp only [sg] at hb; omega
        have hbe : b = H.length + sg U ops j := by simp only [sg, hm1] at hb; omega
        rw [if_pos, hbe, Fo_new (by omega) hm1]
        refine .inr ⟨⟨j, by omega, by simp, hm1, hbe⟩, fun k hk hS e => ?_⟩
        obtain ⟨i, k1, k2, k3, _⟩ := killer k hk _ e
        have : i = j := sg_inj (by omega) k2 hm1
        simp at hS; omega
  have mono1 : ∀ j, j < ops.length → (heapsOf H t j).length ≤ (heapsOf H t (j + 1)).length := by
    intro j hj
    obtain ⟨ρ1, w1, a1, hp, he1⟩ := rel j (by omega)
    obtain ⟨x, w2, ρ2, hv, hp2⟩ := stepV_rel hc hp.rel (hp.fresh hf) he1 (hcan j hj)
    exact hp2.len
  have hmono : ∀ {j k}, j ≤ k → k ≤ ops.length → (heapsOf H t j).length ≤ (heapsOf H t k).length := fun hjk hk => mono_of (s := fun k => (heapsOf H t k).length) (fun j hj => mono1 j hj) hjk hk
  have heq : ∀ (j : Nat), j ≤ q → ∀ S : Nat → Bool, (∀ i, i < q → mk1 U ops i = 1 ∨ killOf U i ≠ none → (S i = true ↔ i < j)) → (AS H t U ops q (heapsOf H t ops.length).length S).take (heapsOf H t j).length = heapsOf H t j := by
    intro j hj S hS
    obtain ⟨c1, c2⟩ := canon j hj
    have hN := hmono (show j ≤ ops.length by omega) (Nat.le_refl _)
    refine hat_ext (by rw [List.length_take, AS_len]; omega) fun b => ?_
    rw [hat_take]
    by_cases hb : b < (heapsOf H t j).length
    · rw [if_pos hb, AS_hat, c2 b hb]
      have : (b < (heapsOf H t ops.length).length ∧ Al H U ops q S b) ↔ Al H U ops q (fun i => decide (i < j)) b := by
        constructor
        · rintro ⟨_, h1 | ⟨⟨i, k1, k2, k3, k4⟩, h2⟩⟩
          · exact .inl h1
          · exact .inr ⟨⟨i, k1, by simpa using (hS i k1 (.inl k3)).1 k2, k3, k4⟩, fun k hk hk' e => h2 k hk ((hS k hk (.inr (by rw [e]; simp))).2 (by simpa using hk')) e⟩
        · rintro (h1 | ⟨⟨i, k1, k2, k3, k4⟩, h2⟩)
          · exact ⟨by omega, .inl h1⟩
          · exact ⟨by omega, .inr ⟨⟨i, k1, (hS i k1 (.inl k3)).2 (by simpa using k2), k3, k4⟩, fun k hk hk' e => h2 k hk (by simpa using (hS k hk (.inr (by rw [e]; simp))).1 hk') e⟩⟩
      simp only [this]
    · rw [if_neg hb, hat_none (by omega)]
  have hlq : last = true → q = ops.length - 1 ∧ 0 < ops.length ∧ isP (opsOf ops (ops.length - 1)).op = false ∧ ∀ i, i < ops.length - 1 → isP (opsOf ops i).op = true ∨ ((Region.before ops.toArray).getD (ops.length - 1) 0).testBit i = true := by
    intro hl
    rcases hlast with h1 | h1
    · rw [hl] at h1; cases h1
    · simp only [lastOk, Bool.and_eq_true, Bool.not_eq_true', List.all_eq_true, List.mem_range, Bool.or_eq_true, Nat.blt_eq] at h1
      exact ⟨by rw [← hq, if_pos hl], h1.2.1, h1.1, h1.2.2⟩
  have hnlq : last = false → q = ops.length := fun hl => by rw [← hq, hl]; simp
  have pfree : ∀ i, i < q → isP (opsOf ops i).op = true → mk1 U ops i = 0 ∧ killOf U i = none := by
    intro i hi hp
    rcases fact i hi with ⟨_, h1, h2, _⟩ | ⟨h1, _⟩ | ⟨h1, _⟩
    · exact ⟨h1, h2⟩
    · rw [hp] at h1; cases h1
    · rw [hp] at h1; cases h1
  subst hops
  refine anyG_sound hm call hc id opsA env env' H H' t ht hend.symm hedge hap mono1 (fun S => if (last && S (opsA.toList.length - 1)) = true then heapsOf H t opsA.toList.length else AS H t U opsA.toList q (heapsOf H t opsA.toList.length).length S) ?_ ?_ ?_ ?_ ?_ ρ w a h hf he
  all_goals generalize opsA.toList = ops at *
  · intro S
    split
    · rfl
    · exact AS_len
  · intro S hS i o
    simp only [hS, Bool.and_false, Bool.false_eq_true, if_false]
    rw [AS_hat]
    have : Al H U ops q S i ↔ i < H.length := by
      constructor
      · rintro (h1 | ⟨⟨i, k1, k2, _⟩, _⟩)
        · exact h1
        · rw [hS] at k2; cases k2
      · exact .inl
    simp only [this]
    by_cases hi : i < H.length
    · rw [if_pos ⟨by have := (low ops.length (Nat.le_refl _)).2.2; omega, hi⟩, Fo_old hi]
    · rw [if_neg (fun e => hi e.2), hat_none (by omega)]
  · intro S hS
    try simp only []
    split
    · rfl
    · rename_i hl
      have hlf : last = false := by
        cases hl' : last with
        | false => rfl
        | true =>
          obtain ⟨_, h0, _⟩ := hlq hl'
          rw [hl', hS _ (by omega)] at hl; simp at hl
      have hqe := hnlq hlf
      have := heq ops.length (by omega) S (fun i hi _ => ⟨fun _ => by omega, fun _ => hS i (by omega)⟩)
      refine Eq.trans ?_ this
      rw [List.take_of_length_le (by rw [AS_len]; exact Nat.le_refl _)]
  · intro S j hj hp hSj
    try simp only []
    have hne : last = true → j ≠ ops.length - 1 := by
      intro hl e
      obtain ⟨_, _, h1, _⟩ := hlq hl
      rw [← e, hp] at h1; cases h1
    have e1 : (last && (if ops.length - 1 = j then true else S (ops.length - 1))) = (last && S (ops.length - 1)) := by
      cases hl : last with
      | false => rfl
      | true => rw [if_neg (Ne.symm (hne hl))]
    rw [e1]
    split
    · rfl
    · refine hat_ext (by rw [AS_len, AS_len]) fun b => ?_
      rw [AS_hat, AS_hat]
      have hjq : j < q := by
        cases hl : last with
        | false => rw [hnlq hl]; exact hj
        | true => rw [(hlq hl).1]; have := hne hl; omega
      obtain ⟨p1, p2⟩ := pfree j hjq hp
      have : Al H U ops q (fun i => if i = j then true else S i) b ↔ Al H U ops q S b := by
        constructor
        · rintro (h1 | ⟨⟨i, k1, k2, k3, k4⟩, h2⟩)
          · exact .inl h1
          · refine .inr ⟨⟨i, k1, ?_, k3, k4⟩, fun k hk hS => h2 k hk (ifS hS)⟩
            by_cases hij : i = j
            · subst hij; omega
            · simpa only [hij, if_false] using k2
        · rintro (h1 | ⟨⟨i, k1, k2, k3, k4⟩, h2⟩)
          · exact .inl h1
          · refine .inr ⟨⟨i, k1, ifS k2, k3, k4⟩, fun k hk hS e => ?_⟩
            by_cases hkj : k = j
            · subst hkj; rw [p2] at e; cases e
            · exact h2 k hk (by simpa only [hkj, if_false] using hS) e
      simp only [this]
  · intro S j hj hSj hnP hclo hpre
    try simp only []
    by_cases hL : last = true ∧ j = ops.length - 1
    · -- the last one
      obtain ⟨hl, rfl⟩ := hL
      obtain ⟨l1, l2, l3, l4⟩ := hlq hl
      rw [hl]
      simp only [Bool.true_and, hSj, Bool.false_eq_true, if_false, if_true]
      have hA := heq (ops.length - 1) (by omega) S (fun i hi hh => ⟨fun _ => by omega, fun _ => by
        rcases l4 i (by omega) with hp | hb
        · obtain ⟨p1, p2⟩ := pfree i (by omega) hp
          rcases hh with hh | hh
          · omega
          · exact absurd p2 hh
        · exact hpre i hb⟩)
      rw [hA]
      refine ⟨(low _ (by omega)).1, heapsOf H t (ops.length - 1 + 1), ?_, rfl, ?_⟩
      · rw [← hcan _ hj]
        have hlow := (low (ops.length - 1) (by omega)).2.1
        exact stepV_congr (fun t' => hlow.eq t')
      · rw [show ops.length - 1 + 1 = ops.length by omega, List.drop_of_length_le (by rw [AS_len]; exact Nat.le_refl _), List.append_nil]
    · have hjq : j < q := by
        cases hl : last with
        | false => rw [hnlq hl]; exact hj
        | true => rw [(hlq hl).1]; have : j ≠ ops.length - 1 := fun e => hL ⟨hl, e⟩
                  omega
      have hlS : ∀ S' : Nat → Bool, S' (ops.length - 1) = (if ops.length - 1 = j then true else S (ops.length - 1)) ∨ S' (ops.length - 1) = S (ops.length - 1) → (last && S' (ops.length - 1)) = false := by
        intro S' hS'
        cases hl : last with
        | false => rfl
        | true =>
          obtain ⟨l1, l2, l3, l4⟩ := hlq hl
          have hne : j ≠ ops.length - 1 := fun e => hL ⟨hl, e⟩
          have hSn : S (ops.length - 1) = false := by
            cases hSn : S (ops.length - 1) with
            | false => rfl
            | true =>
              rcases l4 j (by omega) with hp | hb
              · rw [hp] at hnP; cases hnP
              · have := hclo (ops.length - 1) (by omega) hSn j hb
                rw [hSj] at this; cases this
          rcases hS' with e | e
          · rw [e, if_neg (Ne.symm hne), hSn]; rfl
          · rw [e, hSn]; rfl
      rw [hlS S (.inr rfl), hlS (fun i => if i = j then true else S i) (.inl rfl)]
      simp only [Bool.false_eq_true, if_false]
      obtain ⟨c1, c2⟩ := canon j (by omega)
      obtain ⟨d1, d2⟩ := canon (j + 1) hjq
      have hold : ∀ b, b < H.length → hat (heapsOf H t j) b = hat H b := fun b hb => by rw [c2 b (by omega), if_pos (.inl hb), Fo_old hb]
      obtain ⟨news, g1, g2, g3⟩ := step j hjq c1 hold
      have hNj := hmono (show j ≤ ops.length by omega) (Nat.le_refl _)
      have hNj1 := hmono (show j + 1 ≤ ops.length by omega) (Nat.le_refl _)
      have hKl : ((AS H t U ops q (heapsOf H t ops.length).length S).take (heapsOf H t j).length).length = H.length + sg U ops j := by
        rw [List.length_take, AS_len, c1] at *; omega
      have hKh : ∀ b, hat ((AS H t U ops q (heapsOf H t ops.length).length S).take (heapsOf H t j).length) b = if b < (heapsOf H t j).length ∧ Al H U ops q S b then Fo H t U ops q b else none := by
        intro b
        rw [hat_take, AS_hat]
        by_cases hb : b < (heapsOf H t j).length
        · rw [if_pos hb]
          have e1 : (b < (heapsOf H t ops.length).length ∧ Al H U ops q S b) ↔ (b < (heapsOf H t j).length ∧ Al H U ops q S b) := ⟨fun e => ⟨hb, e.2⟩, fun e => ⟨by omega, e.2⟩⟩
          simp only [e1]
        · rw [if_neg hb, if_neg (fun e => hb e.1)]
      have hko : ∀ b, b < H.length → hat ((AS H t U ops q (heapsOf H t ops.length).length S).take (heapsOf H t j).length) b = hat H b := fun b hb => by
        rw [hKh, if_pos ⟨by omega, .inl hb⟩, Fo_old hb]
      have hkn : ∀ b ∈ needOf U j, hat ((AS H t U ops q (heapsOf H t ops.length).length S).take (heapsOf H t j).length) (H.length + b) = hat (heapsOf H t j) (H.length + b) := by
        intro b hb
        rcases fact j hjq with ⟨_, _, _, h1⟩ | ⟨_, _, _, _, h1⟩ | ⟨_, u, hu, huj, h1, h2, h3, h4, h5, h6, h7⟩
        · rw [h1] at hb; cases hb
        · rw [h1] at hb; cases hb
        · rw [h5] at hb
          obtain ⟨i, i1, i2, i3, i4, i5⟩ := h6 b hb
          have hsg := sg_mono (U := U) (ops := ops) (show i + 1 ≤ j by omega)
          simp only [sg, i2] at hsg
          have hlt : H.length + b < (heapsOf H t j).length := by rw [c1]; omega
          rw [hKh, if_pos, c2 _ hlt, if_pos]
          · refine .inr ⟨⟨i, by omega, by simpa using i1, i2, by rw [i3]⟩, fun k hk hS e => ?_⟩
            rw [show H.length + b - H.length = b by omega] at e
            have hkj : k < j := by simpa using hS
            rcases i5 k (by omega) e with rfl | hb'
            · omega
            · have := hbef _ _ (show k < ops.length by omega) hb'; omega
          · refine ⟨hlt, .inr ⟨⟨i, by omega, hpre i i4, i2, by rw [i3]⟩, fun k hk hS e => ?_⟩⟩
            rw [show H.length + b - H.length = b by omega] at e
            rcases i5 k (by omega) e with rfl | hb'
            · rw [hSj] at hS; cases hS
            · have := hclo k (by omega) hS j hb'
              rw [hSj] at this; cases this
      have hgo := g3 _ hKl hko hkn
      refine ⟨heapLow_of fun b o e => ?_, killK H (killOf U j) ((AS H t U ops q (heapsOf H t ops.length).length S).take (heapsOf H t j).length) ++ news, ?_, ?_, ?_⟩
      · rw [hKh] at e
        split at e
        · rename_i hb
          obtain ⟨hb, hal⟩ := hb
          rcases hal with h1 | ⟨⟨i, k1, k2, k3, rfl⟩, _⟩
          · rw [Fo_old h1] at e
            exact AObj.low_mono (low j (by omega)).2.2 (heapLow_hat (low 0 (by omega)).1 e)
          · rw [Fo_new k1 k3] at e
            have hij : i < j := by
              rcases Nat.lt_or_ge i j with h1 | h1
              · exact h1
              · have := sg_mono (U := U) (ops := ops) h1; omega
            exact AObj.low_mono (hmono (show i + 1 ≤ j by omega) (by omega)) (heapLow_hat (low (i + 1) (by omega)).1 e)
        · cases e
      · rw [← hgo]
        have hlow := (low j (by omega)).2.1
        exact stepV_congr (fun t' => hlow.eq t')
      · rw [List.length_append, killK_len, hKl, g1, d1]; simp only [sg]; omega
      · have hsl : (killK H (killOf U j) ((AS H t U ops q (heapsOf H t ops.length).length S).take (heapsOf H t j).length) ++ news).length = (heapsOf H t (j + 1)).length := by
          rw [List.length_append, killK_len, hKl, g1, d1]; simp only [sg]; omega
        refine hat_ext (by rw [List.length_append, hsl, List.length_drop, AS_len, AS_len]; omega) fun b => ?_
        rw [hat_app, hsl, hat_drop, AS_hat, AS_hat (b := b)]
        by_cases hb1 : b < (heapsOf H t (j + 1)).length
        · rw [if_pos hb1, hat_app, killK_len, hKl, killK_hat, hKh]
          by_cases hb0 : b < H.length + sg U ops j
          · rw [if_pos hb0]
            by_cases hk : H.length ≤ b ∧ killOf U j = some (b - H.length)
            · rw [if_pos hk, if_neg]
              rintro ⟨_, h1 | ⟨_, h1⟩⟩
              · omega
              · exact h1 j hjq (by simp) hk.2
            · rw [if_neg hk]
              have : (b < (heapsOf H t j).length ∧ Al H U ops q S b) ↔ (b < (heapsOf H t ops.length).length ∧ Al H U ops q (fun i => if i = j then true else S i) b) := by
                constructor
                · rintro ⟨_, h1 | ⟨⟨i, k1, k2, k3, k4⟩, h2⟩⟩
                  · exact ⟨by omega, .inl h1⟩
                  · refine ⟨by omega, .inr ⟨⟨i, k1, ifS k2, k3, k4⟩, fun k hk' hS e => ?_⟩⟩
                    by_cases hkj : k = j
                    · subst hkj; exact hk ⟨by omega, e⟩
                    · exact h2 k hk' (by simpa only [hkj, if_false] using hS) e
                · rintro ⟨_, h1 | ⟨⟨i, k1, k2, k3, k4⟩, h2⟩⟩
                  · exact ⟨by omega, .inl h1⟩
                  · refine ⟨by omega, .inr ⟨⟨i, k1, ?_, k3, k4⟩, fun k hk' hS e => h2 k hk' (ifS hS) e⟩⟩
                    by_cases hij : i = j
                    · subst hij; omega
                    · simpa only [hij, if_false] using k2
              simp only [this]
          · have hm1 : mk1 U ops j = 1 := by have := mk01 j hjq; rw [d1] at hb1; simp only [sg] at hb1; omega
            have hbe : b = H.length + sg U ops j := by rw [d1] at hb1; simp only [sg, hm1] at hb1; omega
            rw [if_neg hb0, if_pos, hbe, Fo_new hjq hm1, g2, hat_app, killK_len, c1, if_neg (by omega)]
            refine ⟨(by omega : b < (heapsOf H t ops.length).length), .inr ⟨⟨j, hjq, by simp, hm1, hbe⟩, fun k hk hS e => ?_⟩⟩
            obtain ⟨i, k1, k2, k3, k4⟩ := killer k hk _ e
            have hij : i = j := sg_inj (by omega) k2 hm1
            subst hij
            by_cases hki : k = i
            · omega
            · have := hclo k (by omega) (by simpa only [hki, if_false] using hS) i k4
              rw [hSj] at this; cases this
        · rw [if_neg hb1, show (heapsOf H t (j + 1)).length + (b - (heapsOf H t (j + 1)).length) = b by omega]
          have : Al H U ops q S b ↔ Al H U ops q (fun i => if i = j then true else S i) b := by
            rw [d1] at hb1
            constructor
            · rintro (h1 | ⟨⟨i, k1, k2, k3, k4⟩, h2⟩)
              · exact .inl h1
              · refine .inr ⟨⟨i, k1, ifS k2, k3, k4⟩, fun k hk' hS e => ?_⟩
                by_cases hkj : k = j
                · subst hkj
                  obtain ⟨i', g1, g2, g3, _⟩ := killer k hk' _ e
                  have := sg_mono (U := U) (ops := ops) (show i' + 1 ≤ k + 1 by omega)
                  have e1 : sg U ops (i' + 1) = sg U ops i' + 1 := by simp only [sg, g2]
                  omega
                · exact h2 k hk' (by simpa only [hkj, if_false] using hS) e
            · rintro (h1 | ⟨⟨i, k1, k2, k3, k4⟩, h2⟩)
              · exact .inl h1
              · refine .inr ⟨⟨i, k1, ?_, k3, k4⟩, fun k hk' hS e => h2 k hk' (ifS hS) e⟩
                by_cases hij : i = j
                · subst hij
                  have e1 : sg U ops (i + 1) = sg U ops i + 1 := by simp only [sg, k3]
                  omega
                · simpa only [hij, if_false] using k2
          simp only [this]

variable {κ : Kn} {T : FuncId → Spec} {env : AEnv} {K : AExit → AEnv → AHeap → Prop}
/-- A REGION THAT DRAWS ITS ORDER over any heap: operations that only add (or take away what is new), each told by what it looks at; the last one may be any, if it is behind all others -/
theorem D.local {id : Nat} {ops : Array Oper} {env' : AEnv} {H' : AHeap} (U : List Lo) (last : Bool) (hs : localOk ops.toList U last = true) (h : asteps κ.c (callT κ T) ops.toList ops.toList env H = some (env', H'))
    (hU : ∀ u ∈ U, ∃ ej Hj v news, asteps κ.c (callT κ T) ops.toList (ops.toList.take u.j) env H = some (ej, Hj) ∧ news.length = u.makes ∧ ∀ K : AHeap, K.length = H.length + u.ahead → (∀ b, b < H.length → hat K b = hat H b) → (∀ b ∈ u.need, hat K (H.length + b) = hat Hj (H.length + b)) →
      stepV κ.c (callT κ T) ops.toList (opsOf ops.toList u.j) ej K = some (v, killK H u.kill K ++ news))
    (k : K .normal env' H') : D κ (.region id ops true) env H K :=
  ⟨.normal, env', H', k, fun ρ w a hr hf he => local_sound κ.mixed _ (callT_ok T) id ops env env' H H' U last hs h hU ρ w a hr hf he⟩
end Go.AM
