/-
  REGIONS THAT DRAW THEIR ORDER, more rules over any heap (own work): regions in which nothing moves; movers in a row beside looks; a call and then new things.
-/
import Derived.Test.YtecfofmndpgnjaaAmLocal
import Derived.Test.YtecfofmndpgnjaaAmGo
namespace Go.AM
open Go.RowKit
set_option linter.unusedSimpArgs false
set_option linter.unusedVariables false

variable {c : Ctx} {base : Nat} {w0 w : World} {ρ : Pl} {H : AHeap}

theorem before_lt {ops : List Oper} (hedge : edgesOk ops = true) : ∀ i j, j < ops.length → ((Region.before ops.toArray).getD j 0).testBit i = true → i < j := by
  intro i j hj hb
  have hedge' : ∀ j, j < ops.length → ∀ e ∈ (opsOf ops j).after.toList, Region.binds .any e = true → e.on < j := by
    intro j hj e hej hb
    have := List.all_eq_true.1 (List.all_eq_true.1 hedge j (List.mem_range.2 hj)) e hej
    rw [hb] at this
    simpa using this
  have key : ∀ m j, j < m → j < ops.length → ((Region.before ops.toArray).getD j 0).testBit i = true → i < j := by
    intro m
    induction m with
    | zero => intro j h; omega
    | succ m ih =>
      intro j hjm hj hb
      obtain ⟨e, hej, hb', hq⟩ := before_bits (opsOf_get hj) (hedge' j hj) hb
      have hlt := hedge' j hj e hej hb'
      rcases hq with rfl | hq
      · exact hlt
      · exact Nat.lt_trans (ih e.on (by omega) (by omega) hq) hlt
  exact key (j + 1) j (by omega) hj hb

/-! ### nothing moves -/
def calmOk (ops : List Oper) (ks : List Nat) : Bool := edgesOk ops && (apartOk ops && (List.range ops.length).all fun i => quiet (opsOf ops i).op || ks.contains i)
variable {κ : Kn} {T : FuncId → Spec} {env : AEnv} {K : AExit → AEnv → AHeap → Prop}
theorem D.calm {id : Nat} {ops : Array Oper} {env' : AEnv} {H' : AHeap} (ks : List Nat) (hs : calmOk ops.toList ks = true) (h : asteps κ.c (callT κ T) ops.toList ops.toList env H = some (env', H'))
    (hk : ∀ k ∈ ks, ∃ e, asteps κ.c (callT κ T) ops.toList (ops.toList.take (k + 1)) env H = some (e, H)) (k : K .normal env' H') : D κ (.region id ops true) env H K := by
  refine ⟨.normal, env', H', k, fun ρ w a hr hf he => ?_⟩
  obtain ⟨t, ht⟩ := trace_of_steps h
  refine order_sound κ.mixed _ (callT_ok T) id ops env env' H H' ?_ h ρ w a hr hf he
  simp only [drawOk, ht]
  generalize ops.toList = os at *
  simp only [calmOk, Bool.and_eq_true, List.all_eq_true, List.mem_range] at hs
  obtain ⟨h1, h2, h3⟩ := hs
  obtain ⟨f1, f2, f3⟩ := trace_facts ht
  have hheap := heap_trace ht
  have hat : ∀ j, j < os.length → os[j]? = some (opsOf os j) := fun j hj => opsOf_get hj
  have hH : ∀ m, m ≤ os.length → heapsOf H t m = H := by
    intro m
    induction m with
    | zero => intro _; rfl
    | succ m ih =>
      intro hm
      have hq := h3 m (by omega)
      simp only [Bool.or_eq_true] at hq
      rcases hq with hq | hq
      · have hst := f1 m _ (hat m (by omega))
        rw [hheap m (by omega)] at hst
        have : mvOf (opsOf os m).op (heapsOf H t m) (t.getD m dft).2 = false := by simp [mvOf, hq]
        have := mvOf_same this hst
        show (t.getD m dft).2 = _
        rw [this]; exact ih (by omega)
      · obtain ⟨e, hpre⟩ := hk m (by simpa using hq)
        obtain ⟨e2, hpre2⟩ := take_trace ht (m + 1) hm
        rw [hpre, Option.some.injEq, Prod.mk.injEq] at hpre2
        exact hpre2.2.symm
  simp only [regOk, Bool.and_eq_true]
  refine ⟨h1, h2, List.all_eq_true.2 fun i hi => ?_⟩
  rw [List.mem_range] at hi
  rw [Bool.or_eq_true]
  refine .inl ?_
  rw [f2 i hi, hheap i (by omega), hH i (by omega)]
  have : (t.getD i dft).2 = H := hH (i + 1) (by omega)
  rw [this, mvOf_self]; rfl

/-! ### movers in a row, and looks beside them -/
def fixJ (ops : List Oper) (j : Nat) : Bool := ((opsOf ops j).looksAt ops.toArray).all fun a => (List.range ops.length).all fun i => Nat.blt i j || !((opsOf ops i).dst == some a)
def rowOk (ops : List Oper) (F ks : List Nat) : Bool :=
  edgesOk ops && (apartOk ops && (F.all (fixJ ops) && (List.range ops.length).all fun i => quiet (opsOf ops i).op || (F.contains i || (ks.contains i && (List.range ops.length).all fun j => Nat.beq i j || (inOrder (Region.before ops.toArray) i j || (isP (opsOf ops j).op || F.contains j))))))
theorem fixJ_env {call : Callee} {ops : List Oper} {vals : Nat → Option AV} {env : AEnv} {j : Nat} (hj : j < ops.length) (h : fixJ ops j = true) (K : AHeap) :
    stepV c call ops (opsOf ops j) (envK (fun i => (ops.getD i default).dst) vals (fun _ => true) env ops.length) K = stepV c call ops (opsOf ops j) (envK (fun i => (ops.getD i default).dst) vals (fun _ => true) env j) K := by
  have hr : ∀ a ∈ (opsOf ops j).looksAt ops.toArray, eget (envK (fun i => (ops.getD i default).dst) vals (fun _ => true) env ops.length) a = eget (envK (fun i => (ops.getD i default).dst) vals (fun _ => true) env j) a := by
    intro a ha
    simp only [fixJ, List.all_eq_true, List.mem_range, Bool.or_eq_true, Bool.not_eq_true', beq_eq_false_iff_ne] at h
    refine envK_after ops.length (by omega) fun i h1 h2 => ?_
    rcases h a ha i h2 with h3 | h3
    · rw [Nat.blt_eq] at h3; omega
    · exact h3
  simp only [stepV, awanted_reads hr, aop_congr (aval_reads hr)]
/-- ks: who may move, with the heaps behind; F: who looks, the same at each heap that may be there -/
theorem D.row {id : Nat} {ops : Array Oper} {env' : AEnv} {H' : AHeap} (F : List Nat) (ks : List (Nat × AHeap)) (hs : rowOk ops.toList F (ks.map (·.1)) = true)
    (h : asteps κ.c (callT κ T) ops.toList ops.toList env H = some (env', H'))
    (hk : ∀ p ∈ ks, ∃ e, asteps κ.c (callT κ T) ops.toList (ops.toList.take (p.1 + 1)) env H = some (e, p.2))
    (hF : ∀ j ∈ F, ∃ v, ∀ X ∈ H :: (ks.filter fun p => !((Region.before ops.toList.toArray).getD p.1 0).testBit j).map (·.2), stepV κ.c (callT κ T) ops.toList (opsOf ops.toList j) env' X = some (v, X))
    (k : K .normal env' H') : D κ (.region id ops true) env H K := by
  refine ⟨.normal, env', H', k, fun ρ w a hr hf he => ?_⟩
  obtain ⟨t, ht⟩ := trace_of_steps h
  refine order_sound κ.mixed _ (callT_ok T) id ops env env' H H' ?_ h ρ w a hr hf he
  simp only [drawOk, ht]
  generalize ops.toList = os at *
  simp only [rowOk, Bool.and_eq_true, List.all_eq_true, List.mem_range] at hs
  obtain ⟨h1, h2, h3, h4⟩ := hs
  obtain ⟨f1, f2, f3⟩ := trace_facts ht
  have hE : envK (fun i => (os.getD i default).dst) (fun i => (t.getD i dft).1) (fun _ => true) env os.length = env' := by
    rw [f3, Option.some.injEq, Prod.mk.injEq] at h; exact h.1
  have hheap := heap_trace ht
  have hat : ∀ j, j < os.length → os[j]? = some (opsOf os j) := fun j hj => opsOf_get hj
  have hkh : ∀ m, m < os.length → quiet (opsOf os m).op = false → m ∉ F → ∃ p ∈ ks, p.1 = m ∧ heapsOf H t (m + 1) = p.2 := by
    intro m hm hqf hnF
    have hq := h4 m hm
    simp only [Bool.or_eq_true, Bool.and_eq_true, hqf, Bool.false_eq_true, false_or] at hq
    rcases hq with hq | hq
    · exact absurd (by simpa using hq) hnF
    · have hq' : m ∈ ks.map (·.1) := by simpa using hq.1
      obtain ⟨p, hp, rfl⟩ := List.mem_map.1 hq'
      obtain ⟨e, hpre⟩ := hk p hp
      obtain ⟨e2, hpre2⟩ := take_trace ht (p.1 + 1) (by omega)
      rw [hpre, Option.some.injEq, Prod.mk.injEq] at hpre2
      exact ⟨p, hp, rfl, hpre2.2.symm⟩
  -- what a look tells
  have hlook : ∀ j, j < os.length → j ∈ F → (heapsOf H t j = H ∨ ∃ p ∈ ks, p.1 < j ∧ heapsOf H t j = p.2) → ∃ v, (t.getD j dft) = (v, heapsOf H t j) ∧ ∀ X ∈ H :: (ks.filter fun p => !((Region.before os.toArray).getD p.1 0).testBit j).map (·.2), stepV κ.c (callT κ T) os (opsOf os j) (envK (fun i => (os.getD i default).dst) (fun i => (t.getD i dft).1) (fun _ => true) env j) X = some (v, X) := by
    intro j hj' hjF hin
    obtain ⟨v, hv⟩ := hF j hjF
    have hv2 : ∀ X ∈ H :: (ks.filter fun p => !((Region.before os.toArray).getD p.1 0).testBit j).map (·.2), stepV κ.c (callT κ T) os (opsOf os j) (envK (fun i => (os.getD i default).dst) (fun i => (t.getD i dft).1) (fun _ => true) env j) X = some (v, X) := by
      intro X hX
      rw [← fixJ_env hj' (h3 j hjF) X, hE]
      exact hv X hX
    have hst := f1 j _ (hat j hj')
    have hjm : heapsOf H t j ∈ H :: (ks.filter fun p => !((Region.before os.toArray).getD p.1 0).testBit j).map (·.2) := by
      rcases hin with e | ⟨p, hp, hlt, e⟩
      · rw [e]; exact List.mem_cons_self
      · refine List.mem_cons_of_mem _ (List.mem_map.2 ⟨p, List.mem_filter.2 ⟨hp, ?_⟩, e.symm⟩)
        cases hb : ((Region.before os.toArray).getD p.1 0).testBit j with
        | false => rfl
        | true => have := before_lt h1 j p.1 (by omega) hb; omega
    rw [hheap j (by omega), hv2 _ hjm, Option.some.injEq] at hst
    exact ⟨v, hst.symm, hv2⟩
  -- the heap ahead of j
  have hin : ∀ m, m ≤ os.length → heapsOf H t m = H ∨ ∃ p ∈ ks, p.1 < m ∧ heapsOf H t m = p.2 := by
    intro m
    induction m with
    | zero => intro _; exact .inl rfl
    | succ m ih =>
      intro hm
      have up : heapsOf H t (m + 1) = heapsOf H t m → heapsOf H t (m + 1) = H ∨ ∃ p ∈ ks, p.1 < m + 1 ∧ heapsOf H t (m + 1) = p.2 := by
        intro e1
        rw [e1]
        rcases ih (by omega) with e | ⟨p, hp, hlt, e⟩
        · exact .inl e
        · exact .inr ⟨p, hp, by omega, e⟩
      cases hq : quiet (opsOf os m).op with
      | true =>
        have hst := f1 m _ (hat m (by omega))
        rw [hheap m (by omega)] at hst
        have : mvOf (opsOf os m).op (heapsOf H t m) (t.getD m dft).2 = false := by simp [mvOf, hq]
        exact up (mvOf_same this hst)
      | false =>
        by_cases hmF : m ∈ F
        · obtain ⟨v, e, _⟩ := hlook m (by omega) hmF (ih (by omega))
          exact up (congrArg Prod.snd e)
        · obtain ⟨p, hp, e1, e2⟩ := hkh m (by omega) hq hmF
          exact .inr ⟨p, hp, by omega, e2⟩
  have hmvF : ∀ j, j < os.length → j ∈ F → (moves os H t).getD j false = false := by
    intro j hj hjF
    obtain ⟨v, e, _⟩ := hlook j hj hjF (hin j (by omega))
    rw [f2 j hj, hheap j (by omega), e]
    exact mvOf_self _ _
  simp only [regOk, Bool.and_eq_true]
  refine ⟨h1, h2, List.all_eq_true.2 fun i hi => ?_⟩
  rw [List.mem_range] at hi
  have hq := h4 i hi
  simp only [Bool.or_eq_true, Bool.and_eq_true] at hq ⊢
  rcases hq with hq | hq | ⟨_, hq⟩
  · exact .inl (by rw [moves_quiet os H t i hq]; rfl)
  · exact .inl (by rw [hmvF i hi (by simpa using hq)]; rfl)
  · refine .inr (List.all_eq_true.2 fun j hj => ?_)
    have hj' := List.mem_range.1 hj
    have hq := List.all_eq_true.1 hq j hj
    simp only [Bool.or_eq_true] at hq ⊢
    rcases hq with e | e | e | e
    · exact .inl e
    · exact .inr (.inl e)
    · refine .inr (.inr ?_)
      simp only [still, moves_quiet os H t j (isP_quiet e), e, Bool.not_false, Bool.true_or, Bool.true_and]
    · refine .inr (.inr ?_)
      have hjF : j ∈ F := by simpa using e
      obtain ⟨v, hst, hv2⟩ := hlook j hj' hjF (hin j (by omega))
      have hmv := hmvF j hj' hjF
      simp only [still, hmv, Bool.not_false, Bool.true_and]
      rw [Bool.or_eq_true]
      refine .inr (List.all_eq_true.2 fun k hk' => ?_)
      rw [List.mem_range] at hk'
      have hsame : sameStep (some (v, heapsOf H t k)) v (heapsOf H t k) = true := by cases v <;> simp [sameStep, AV.beq_refl]
      rw [Bool.or_eq_true, Bool.or_eq_true]
      cases hmk : (k == 0 || (moves os H t).getD (k - 1) false) with
      | false => exact .inl (.inl rfl)
      | true =>
        cases hps : possible os (Region.before os.toArray) (moves os H t) k j with
        | false => exact .inl (.inr rfl)
        | true =>
          refine .inr ?_
          have hkm : heapsOf H t k ∈ H :: (ks.filter fun p => !((Region.before os.toArray).getD p.1 0).testBit j).map (·.2) := by
            cases k with
            | zero => exact List.mem_cons_self
            | succ m =>
              have hmm : (moves os H t).getD m false = true := by simpa using hmk
              have hqm : quiet (opsOf os m).op = false := by
                cases hq : quiet (opsOf os m).op with
                | false => rfl
                | true => rw [moves_quiet os H t m hq] at hmm; cases hmm
              have hmnF : m ∉ F := fun e => by rw [hmvF m (by omega) e] at hmm; cases hmm
              obtain ⟨p, hp, e1, e2⟩ := hkh m (by omega) hqm hmnF
              refine List.mem_cons_of_mem _ (List.mem_map.2 ⟨p, List.mem_filter.2 ⟨hp, ?_⟩, e2.symm⟩)
              have := List.all_eq_true.1 hps m (List.mem_range.2 (by omega))
              simp only [hmm, Bool.not_true, Bool.false_or, Bool.and_eq_true, Bool.or_eq_true, Bool.not_eq_true', decide_eq_true_eq] at this
              rw [e1]
              rcases this.2 with h' | h'
              · rw [h']; rfl
              · omega
          rw [hheap k (by omega), hv2 _ hkm, hst]
          exact hsame
end Go.AM
