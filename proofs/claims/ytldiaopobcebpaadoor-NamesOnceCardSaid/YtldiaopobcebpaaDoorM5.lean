/- Texts of the proof in one file (own work): AmRows, AmFrame0, AmKc, AmKw, AmKx, AmCell. -/
import Derived.Test.YtldiaopobcebpaaDoorM4
/-
  REGIONS THAT DRAW THEIR ORDER, more rules over any heap (own work): regions in which nothing moves; movers in a row beside looks; a call and then new things.
-/
namespace Go.AM
open Go.RowKit
set_option linter.unusedSimpArgs false
set_option linter.unusedVariables false

variable {c : Ctx} {base : Nat} {w0 w : World} {ρ : Pl} {H : AHeap}

theorem before_lt {ops : List Oper} (hedge : edgesOk ops = true) : ∀ i j, j < ops.length → ((Region.before ops.toArray).getD j 0).testBit i = true → i < j := by
  intro i j hj hb
  have hedge' : ∀ j, j < ops.length → ∀ e ∈ (opsOf ops j).after.toList, Region.binds .any e = true → e.on < j := by
    intro j hj e hej hb
    have := List.all_eq_true.1 (List.all_eq_true.1 hedge j (List.mem_range.2 hj)) e hej
    rw [hb] at this
    simpa using this
  have key : ∀ m j, j < m → j < ops.length → ((Region.before ops.toArray).getD j 0).testBit i = true → i < j := by
    intro m
    induction m with
    | zero => intro j h; omega
    | succ m ih =>
      intro j hjm hj hb
      obtain ⟨e, hej, hb', hq⟩ := before_bits (opsOf_get hj) (hedge' j hj) hb
      have hlt := hedge' j hj e hej hb'
      rcases hq with rfl | hq
      · exact hlt
      · exact Nat.lt_trans (ih e.on (by omega) (by omega) hq) hlt
  exact key (j + 1) j (by omega) hj hb

/-! ### nothing moves -/
def calmOk (ops : List Oper) (ks : List Nat) : Bool := edgesOk ops && (apartOk ops && (List.range ops.length).all fun i => quiet (opsOf ops i).op || ks.contains i)
variable {κ : Kn} {T : FuncId → Spec} {env : AEnv} {K : AExit → AEnv → AHeap → Prop}
theorem D.calm {id : Nat} {ops : Array Oper} {env' : AEnv} {H' : AHeap} (ks : List Nat) (hs : calmOk ops.toList ks = true) (h : asteps κ.c (callT κ T) ops.toList ops.toList env H = some (env', H'))
    (hk : ∀ k ∈ ks, ∃ e, asteps κ.c (callT κ T) ops.toList (ops.toList.take (k + 1)) env H = some (e, H)) (k : K .normal env' H') : D κ (.region id ops true) env H K := by
  refine ⟨.normal, env', H', k, fun ρ w a hr hf he => ?_⟩
  obtain ⟨t, ht⟩ := trace_of_steps h
  refine order_sound κ.mixed _ (callT_ok T) id ops env env' H H' ?_ h ρ w a hr hf he
  simp only [drawOk, ht]
  generalize ops.toList = os at *
  simp only [calmOk, Bool.and_eq_true, List.all_eq_true, List.mem_range] at hs
  obtain ⟨h1, h2, h3⟩ := hs
  obtain ⟨f1, f2, f3⟩ := trace_facts ht
  have hheap := heap_trace ht
  have hat : ∀ j, j < os.length → os[j]? = some (opsOf os j) := fun j hj => opsOf_get hj
  have hH : ∀ m, m ≤ os.length → heapsOf H t m = H := by
    intro m
    induction m with
    | zero => intro _; rfl
    | succ m ih =>
      intro hm
      have hq := h3 m (by omega)
      simp only [Bool.or_eq_true] at hq
      rcases hq with hq | hq
      · have hst := f1 m _ (hat m (by omega))
        rw [hheap m (by omega)] at hst
        have : mvOf (opsOf os m).op (heapsOf H t m) (t.getD m dft).2 = false := by simp [mvOf, hq]
        have := mvOf_same this hst
        show (t.getD m dft).2 = _
        rw [this]; exact ih (by omega)
      · obtain ⟨e, hpre⟩ := hk m (by simpa using hq)
        obtain ⟨e2, hpre2⟩ := take_trace ht (m + 1) hm
        rw [hpre, Option.some.injEq, Prod.mk.injEq] at hpre2
        exact hpre2.2.symm
  simp only [regOk, Bool.and_eq_true]
  refine ⟨h1, h2, List.all_eq_true.2 fun i hi => ?_⟩
  rw [List.mem_range] at hi
  rw [Bool.or_eq_true]
  refine .inl ?_
  rw [f2 i hi, hheap i (by omega), hH i (by omega)]
  have : (t.getD i dft).2 = H := hH (i + 1) (by omega)
  rw [this, mvOf_self]; rfl

/-! ### movers in a row, and looks beside them -/
def fixJ (ops : List Oper) (j : Nat) : Bool := ((opsOf ops j).looksAt ops.toArray).all fun a => (List.range ops.length).all fun i => Nat.blt i j || !((opsOf ops i).dst == some a)
def rowOk (ops : List Oper) (F ks : List Nat) : Bool :=
  edgesOk ops && (apartOk ops && (F.all (fixJ ops) && (List.range ops.length).all fun i => quiet (opsOf ops i).op || (F.contains i || (ks.contains i && (List.range ops.length).all fun j => Nat.beq i j || (inOrder (Region.before ops.toArray) i j || (isP (opsOf ops j).op || F.contains j))))))
theorem fixJ_env {call : Callee} {ops : List Oper} {vals : Nat → Option AV} {env : AEnv} {j : Nat} (hj : j < ops.length) (h : fixJ ops j = true) (K : AHeap) :
    stepV c call ops (opsOf ops j) (envK (fun i => (ops.getD i default).dst) vals (fun _ => true) env ops.length) K = stepV c call ops (opsOf ops j) (envK (fun i => (ops.getD i default).dst) vals (fun _ => true) env j) K := by
  have hr : ∀ a ∈ (opsOf ops j).looksAt ops.toArray, eget (envK (fun i => (ops.getD i default).dst) vals (fun _ => true) env ops.length) a = eget (envK (fun i => (ops.getD i default).dst) vals (fun _ => true) env j) a := by
    intro a ha
    simp only [fixJ, List.all_eq_true, List.mem_range, Bool.or_eq_true, Bool.not_eq_true', beq_eq_false_iff_ne] at h
    refine envK_after ops.length (by omega) fun i h1 h2 => ?_
    rcases h a ha i h2 with h3 | h3
    · rw [Nat.blt_eq] at h3; omega
    · exact h3
  simp only [stepV, awanted_reads hr, aop_congr (aval_reads hr)]
/-- ks: who may move, with the heaps behind; F: who looks, the same at each heap that may be there -/
theorem D.row {id : Nat} {ops : Array Oper} {env' : AEnv} {H' : AHeap} (F : List Nat) (ks : List (Nat × AHeap)) (hs : rowOk ops.toList F (ks.map (·.1)) = true)
    (h : asteps κ.c (callT κ T) ops.toList ops.toList env H = some (env', H'))
    (hk : ∀ p ∈ ks, ∃ e, asteps κ.c (callT κ T) ops.toList (ops.toList.take (p.1 + 1)) env H = some (e, p.2))
    (hF : ∀ j ∈ F, ∃ v, ∀ X ∈ H :: (ks.filter fun p => !((Region.before ops.toList.toArray).getD p.1 0).testBit j).map (·.2), stepV κ.c (callT κ T) ops.toList (opsOf ops.toList j) env' X = some (v, X))
    (k : K .normal env' H') : D κ (.region id ops true) env H K := by
  refine ⟨.normal, env', H', k, fun ρ w a hr hf he => ?_⟩
  obtain ⟨t, ht⟩ := trace_of_steps h
  refine order_sound κ.mixed _ (callT_ok T) id ops env env' H H' ?_ h ρ w a hr hf he
  simp only [drawOk, ht]
  generalize ops.toList = os at *
  simp only [rowOk, Bool.and_eq_true, List.all_eq_true, List.mem_range] at hs
  obtain ⟨h1, h2, h3, h4⟩ := hs
  obtain ⟨f1, f2, f3⟩ := trace_facts ht
  have hE : envK (fun i => (os.getD i default).dst) (fun i => (t.getD i dft).1) (fun _ => true) env os.length = env' := by
    rw [f3, Option.some.injEq, Prod.mk.injEq] at h; exact h.1
  have hheap := heap_trace ht
  have hat : ∀ j, j < os.length → os[j]? = some (opsOf os j) := fun j hj => opsOf_get hj
  have hkh : ∀ m, m < os.length → quiet (opsOf os m).op = false → m ∉ F → ∃ p ∈ ks, p.1 = m ∧ heapsOf H t (m + 1) = p.2 := by
    intro m hm hqf hnF
    have hq := h4 m hm
    simp only [Bool.or_eq_true, Bool.and_eq_true, hqf, Bool.false_eq_true, false_or] at hq
    rcases hq with hq | hq
    · exact absurd (by simpa using hq) hnF
    · have hq' : m ∈ ks.map (·.1) := by simpa using hq.1
      obtain ⟨p, hp, rfl⟩ := List.mem_map.1 hq'
      obtain ⟨e, hpre⟩ := hk p hp
      obtain ⟨e2, hpre2⟩ := take_trace ht (p.1 + 1) (by omega)
      rw [hpre, Option.some.injEq, Prod.mk.injEq] at hpre2
      exact ⟨p, hp, rfl, hpre2.2.symm⟩
  -- what a look tells
  have hlook : ∀ j, j < os.length → j ∈ F → (heapsOf H t j = H ∨ ∃ p ∈ ks, p.1 < j ∧ heapsOf H t j = p.2) → ∃ v, (t.getD j dft) = (v, heapsOf H t j) ∧ ∀ X ∈ H :: (ks.filter fun p => !((Region.before os.toArray).getD p.1 0).testBit j).map (·.2), stepV κ.c (callT κ T) os (opsOf os j) (envK (fun i => (os.getD i default).dst) (fun i => (t.getD i dft).1) (fun _ => true) env j) X = some (v, X) := by
    intro j hj' hjF hin
    obtain ⟨v, hv⟩ := hF j hjF
    have hv2 : ∀ X ∈ H :: (ks.filter fun p => !((Region.before os.toArray).getD p.1 0).testBit j).map (·.2), stepV κ.c (callT κ T) os (opsOf os j) (envK (fun i => (os.getD i default).dst) (fun i => (t.getD i dft).1) (fun _ => true) env j) X = some (v, X) := by
      intro X hX
      rw [← fixJ_env hj' (h3 j hjF) X, hE]
      exact hv X hX
    have hst := f1 j _ (hat j hj')
    have hjm : heapsOf H t j ∈ H :: (ks.filter fun p => !((Region.before os.toArray).getD p.1 0).testBit j).map (·.2) := by
      rcases hin with e | ⟨p, hp, hlt, e⟩
      · rw [e]; exact List.mem_cons_self
      · refine List.mem_cons_of_mem _ (List.mem_map.2 ⟨p, List.mem_filter.2 ⟨hp, ?_⟩, e.symm⟩)
        cases hb : ((Region.before os.toArray).getD p.1 0).testBit j with
        | false => rfl
        | true => have := before_lt h1 j p.1 (by omega) hb; omega
    rw [hheap j (by omega), hv2 _ hjm, Option.some.injEq] at hst
    exact ⟨v, hst.symm, hv2⟩
  -- the heap ahead of j
  have hin : ∀ m, m ≤ os.length → heapsOf H t m = H ∨ ∃ p ∈ ks, p.1 < m ∧ heapsOf H t m = p.2 := by
    intro m
    induction m with
    | zero => intro _; exact .inl rfl
    | succ m ih =>
      intro hm
      have up : heapsOf H t (m + 1) = heapsOf H t m → heapsOf H t (m + 1) = H ∨ ∃ p ∈ ks, p.1 < m + 1 ∧ heapsOf H t (m + 1) = p.2 := by
        intro e1
        rw [e1]
        rcases ih (by omega) with e | ⟨p, hp, hlt, e⟩
        · exact .inl e
        · exact .inr ⟨p, hp, by omega, e⟩
      cases hq : quiet (opsOf os m).op with
      | true =>
        have hst := f1 m _ (hat m (by omega))
        rw [hheap m (by omega)] at hst
        have : mvOf (opsOf os m).op (heapsOf H t m) (t.getD m dft).2 = false := by simp [mvOf, hq]
        exact up (mvOf_same this hst)
      | false =>
        by_cases hmF : m ∈ F
        · obtain ⟨v, e, _⟩ := hlook m (by omega) hmF (ih (by omega))
          exact up (congrArg Prod.snd e)
        · obtain ⟨p, hp, e1, e2⟩ := hkh m (by omega) hq hmF
          exact .inr ⟨p, hp, by omega, e2⟩
  have hmvF : ∀ j, j < os.length → j ∈ F → (moves os H t).getD j false = false := by
    intro j hj hjF
    obtain ⟨v, e, _⟩ := hlook j hj hjF (hin j (by omega))
    rw [f2 j hj, hheap j (by omega), e]
    exact mvOf_self _ _
  simp only [regOk, Bool.and_eq_true]
  refine ⟨h1, h2, List.all_eq_true.2 fun i hi => ?_⟩
  rw [List.mem_range] at hi
  have hq := h4 i hi
  simp only [Bool.or_eq_true, Bool.and_eq_true] at hq ⊢
  rcases hq with hq | hq | ⟨_, hq⟩
  · exact .inl (by rw [moves_quiet os H t i hq]; rfl)
  · exact .inl (by rw [hmvF i hi (by simpa using hq)]; rfl)
  · refine .inr (List.all_eq_true.2 fun j hj => ?_)
    have hj' := List.mem_range.1 hj
    have hq := List.all_eq_true.1 hq j hj
    simp only [Bool.or_eq_true] at hq ⊢
    rcases hq with e | e | e | e
    · exact .inl e
    · exact .inr (.inl e)
    · refine .inr (.inr ?_)
      simp only [still, moves_quiet os H t j (isP_quiet e), e, Bool.not_false, Bool.true_or, Bool.true_and]
    · refine .inr (.inr ?_)
      have hjF : j ∈ F := by simpa using e
      obtain ⟨v, hst, hv2⟩ := hlook j hj' hjF (hin j (by omega))
      have hmv := hmvF j hj' hjF
      simp only [still, hmv, Bool.not_false, Bool.true_and]
      rw [Bool.or_eq_true]
      refine .inr (List.all_eq_true.2 fun k hk' => ?_)
      rw [List.mem_range] at hk'
      have hsame : sameStep (some (v, heapsOf H t k)) v (heapsOf H t k) = true := by cases v <;> simp [sameStep, AV.beq_refl]
      rw [Bool.or_eq_true, Bool.or_eq_true]
      cases hmk : (k == 0 || (moves os H t).getD (k - 1) false) with
      | false => exact .inl (.inl rfl)
      | true =>
        cases hps : possible os (Region.before os.toArray) (moves os H t) k j with
        | false => exact .inl (.inr rfl)
        | true =>
          refine .inr ?_
          have hkm : heapsOf H t k ∈ H :: (ks.filter fun p => !((Region.before os.toArray).getD p.1 0).testBit j).map (·.2) := by
            cases k with
            | zero => exact List.mem_cons_self
            | succ m =>
              have hmm : (moves os H t).getD m false = true := by simpa using hmk
              have hqm : quiet (opsOf os m).op = false := by
                cases hq : quiet (opsOf os m).op with
                | false => rfl
                | true => rw [moves_quiet os H t m hq] at hmm; cases hmm
              have hmnF : m ∉ F := fun e => by rw [hmvF m (by omega) e] at hmm; cases hmm
              obtain ⟨p, hp, e1, e2⟩ := hkh m (by omega) hqm hmnF
              refine List.mem_cons_of_mem _ (List.mem_map.2 ⟨p, List.mem_filter.2 ⟨hp, ?_⟩, e2.symm⟩)
              have := List.all_eq_true.1 hps m (List.mem_range.2 (by omega))
              simp only [hmm, Bool.not_true, Bool.false_or, Bool.and_eq_true, Bool.or_eq_true, Bool.not_eq_true', decide_eq_true_eq] at this
              rw [e1]
              rcases this.2 with h' | h'
              · rw [h']; rfl
              · omega
          rw [hheap k (by omega), hv2 _ hkm, hst]
          exact hsame
end Go.AM

/-
  WHAT IS KNOWN OVER PART OF A HEAP holds over all of it (own work): a call that turns nothing and tells nothing new.
-/
namespace Go.AM
open Go.RowKit
set_option linter.unusedVariables false
variable {κ : Kn} {H : AHeap} {f : FuncId} {args : List AV} {v : AV}
/-- what is made and not told is dropped -/
theorem Pt.shrink {H' : AHeap} (h : Pt κ f args H v H') (hv : v.low H.length = true) (hk : H'.take H.length = H) : Pt κ f args H v H := by
  intro ρ w xs hr hf hx
  refine (h ρ w xs hr hf hx).mono ?_
  rintro e w' ⟨ρ', x, rfl, hvr, hp⟩
  refine ⟨ρ, x, rfl, VR.restrict (fun l p hl hlow => ?_) hv hvr, hp.shrink hr hk⟩
  rcases hp.new l p hl with hl | ⟨i, rfl, hi, _⟩
  · exact hl
  · simp [Loc.low] at hlow; omega
theorem Pt.frame {V : AHeap} (h : Pt κ f args V v V) (hV : V.length = H.length) (hsub : ∀ i o, hat V i = some o → hat H i = some o) (hl : heapLow H.length V = true) (ha : AV.lows H.length args = true) (hv : v.low H.length = true) : Pt κ f args H v H := by
  intro ρ w xs hr hf hx
  have hrel := rel_part hr hf (Ext.refl ρ) (Nat.le_refl _) hr hsub hl hV
  have hfr : Fresh (AM.cut H.length ρ) V := fun i hi => by
    unfold AM.cut
    rw [if_neg]
    simp [Loc.low]; omega
  refine (h _ w xs hrel hfr (VRs.restrict (n := H.length) (fun l p e hlow => by simp [AM.cut, hlow, e]) ha hx)).mono ?_
  rintro e w' ⟨ρ', x, rfl, hvr, hp⟩
  obtain ⟨p1, p2, p3⟩ := post_part (A' := H) hr hf (Nat.le_refl _) (Post.refl hr) hsub hl hV hp (by rw [List.take_of_length_le (by omega)]) (fun i h1 h2 => by omega) (fun i o => ⟨.inl, fun e => by
    rcases e with e | ⟨h1, e⟩
    · exact e
    · exact hsub i o e⟩) rfl (by omega)
  exact ⟨_, x, rfl, hvr.mono p3, p1⟩
/-- a run by the kernel over places of which nothing is known -/
def trueOver (n : Nat) : Option (AV × AHeap) → Bool
  | some (.bool b, H) => b && heapEq (H.take n) (List.replicate n none)
  | _ => false
theorem Pt.over {n k : Nat} {pr : Prims} (hp : PrimsOK κ.c κ.base κ.w0 pr) (h : trueOver n (acall κ.c drawRunB gcCall pr k f [] (List.replicate n none)) = true) (hn : H.length = n) : Pt κ f [] H (.bool true) H := by
  unfold trueOver at h
  split at h
  · rename_i b H' he
    simp only [Bool.and_eq_true] at h
    obtain ⟨rfl, h2⟩ := h
    have p1 := Pt.run (κ := κ) hp he
    have p2 := p1.shrink rfl (by rw [List.length_replicate]; exact heapEq_eq h2)
    refine p2.frame (by simp [hn]) (fun i o e => ?_) (heapLow_iff.2 fun o ho => ?_) rfl rfl
    · unfold hat at e
      rw [List.getElem?_replicate] at e
      split at e
      · rename_i hh; split at hh <;> cases hh; cases e
      · cases e
    · simp at ho
  · cases h
end Go.AM

/-
  REGIONS THAT DRAW THEIR ORDER, run by the kernel (own work): looks and calls that leave the heap as it is.
-/
namespace Go.AM
open Go.RowKit
set_option linter.unusedSimpArgs false
set_option linter.unusedVariables false
variable {κ : Kn} {env : AEnv} {H : AHeap} {K : AExit → AEnv → AHeap → Prop}
theorem D.calmG {id : Nat} {ops : Array Oper} {env' : AEnv} {call : Callee} (hc : CallOK κ.c κ.base κ.w0 call) (hs : (edgesOk ops.toList && apartOk ops.toList) = true) (h : asteps κ.c call ops.toList ops.toList env H = some (env', H))
    (hk : ∀ k, k < ops.toList.length → ∃ e, asteps κ.c call ops.toList (ops.toList.take (k + 1)) env H = some (e, H)) (k : K .normal env' H) : D κ (.region id ops true) env H K := by
  refine ⟨.normal, env', H, k, fun ρ w a hr hf he => ?_⟩
  obtain ⟨t, ht⟩ := trace_of_steps h
  refine order_sound κ.mixed _ hc id ops env env' H H ?_ h ρ w a hr hf he
  simp only [drawOk, ht]
  generalize ops.toList = os at *
  rw [Bool.and_eq_true] at hs
  obtain ⟨h1, h2⟩ := hs
  obtain ⟨f1, f2, f3⟩ := trace_facts ht
  have hheap := heap_trace ht
  have hH : ∀ m, m ≤ os.length → heapsOf H t m = H := by
    intro m
    cases m with
    | zero => intro _; rfl
    | succ m =>
      intro hm
      obtain ⟨e, hpre⟩ := hk m (by omega)
      obtain ⟨e2, hpre2⟩ := take_trace ht (m + 1) hm
      rw [hpre, Option.some.injEq, Prod.mk.injEq] at hpre2
      exact hpre2.2.symm
  simp only [regOk, Bool.and_eq_true]
  refine ⟨h1, h2, List.all_eq_true.2 fun i hi => ?_⟩
  rw [List.mem_range] at hi
  rw [Bool.or_eq_true]
  refine .inl ?_
  rw [f2 i hi, hheap i (by omega), hH i (by omega)]
  have : (t.getD i dft).2 = H := hH (i + 1) (by omega)
  rw [this, mvOf_self]; rfl

theorem acallee_heap {c : Ctx} {cl : Call} {f : FuncId} {args : List AV} {H1 : AHeap} (e : acallee c H env cl = some (.call f args, H1)) : H1 = H := by
  unfold acallee at e
  obtain ⟨as', _, e⟩ := Option.bind_eq_some_iff.1 e
  split at e
  · simp only [Option.map_eq_some_iff] at e
    obtain ⟨_, _, e⟩ := e
    cases e
  · obtain ⟨g, _, e⟩ := Option.bind_eq_some_iff.1 e
    split at e
    · split at e
      · cases e; rfl
      · simp only [Option.map_eq_some_iff] at e
        obtain ⟨_, _, e⟩ := e
        cases e
    · split at e
      · obtain ⟨q, _, e⟩ := Option.bind_eq_some_iff.1 e
        dsimp only at e
        split at e
        · cases e; rfl
        · cases e
      · cases e
    · cases e
  · obtain ⟨g, _, e⟩ := Option.bind_eq_some_iff.1 e
    split at e
    · obtain ⟨q, _, e⟩ := Option.bind_eq_some_iff.1 e
      dsimp only at e
      split at e
      · cases e; rfl
      · cases e
    · cases e

def kcallQ (κ : Kn) (env : AEnv) (H : AHeap) (cl : Call) (an : An) (fs : List Nat) (k : AV → List Nat → Prop) : Prop :=
  match cl.callee, an with
  | .builtin b, .v x => match b, cl.argTypes.toList, avals env cl.args.toList with
    | .len, t :: _, some [y] => alen κ.c H t y = some x ∧ k x fs
    | .max, _, some l => aminmax true l = some x ∧ k x fs
    | .min, _, some l => aminmax false l = some x ∧ k x fs
    | _, _, _ => False
  | .builtin .len, .a => match cl.argTypes.toList, avals env cl.args.toList with
    | t :: _, some [y] => match alen κ.c H t y with
      | some x => k x fs
      | none => False
    | _, _ => False
  | .value q, .v x => match aval env q, avals env cl.args.toList with
    | some (.func (.func f) first captured), some args => match hasBody κ.c.P f with
      | false => aext κ.c.P f (first ++ args ++ captured) = some x ∧ k x fs
      | true => False
    | _, _ => False
  | _, .f x => match acallee κ.c H env cl, fs with
    | some (.call f args, _), f0 :: fs' => match Nat.beq f f0 with
      | true => Pt κ f args H x H ∧ k x fs'
      | false => False
    | _, _ => False
  | _, _ => False

def kregC (κ : Kn) (ops : List Oper) (H : AHeap) : List Oper → AEnv → List An → List Nat → (AEnv → Prop) → Prop
  | [], env, _, _, k => k env
  | o :: r, env, as_, fs, k => match awanted ops env o with
    | some false => kregC κ ops H r (eput env o.dst (some .undef)) as_ fs k
    | some true => match o.op with
      | .call cl => match as_ with
        | an :: as' => kcallQ κ env H cl an fs fun v fs' => kregC κ ops H r (eput env o.dst (some v)) as' fs' k
        | [] => False
      | op => match quiet op with
        | true => kop κ env H false op as_ fun v _ as' => kregC κ ops H r (eput env o.dst (some v)) as' fs k
        | false => False
    | none => False

abbrev Ent := FuncId × List AV × AV
/-- what it comes to, for every callee that knows the calls -/
def Out (κ : Kn) (ops : List Oper) (H : AHeap) (r : List Oper) (env env' : AEnv) (L : List Ent) : Prop :=
  ∀ call : Callee, (∀ e ∈ L, call e.1 e.2.1 H = some (e.2.2, H)) → asteps κ.c call ops r env H = some (env', H) ∧ ∀ m, m < r.length → ∃ e, asteps κ.c call ops (r.take (m + 1)) env H = some (e, H)
theorem Out.cons {ops : List Oper} {o : Oper} {r : List Oper} {env1 env' : AEnv} {L L' : List Ent} (h1 : ∀ call : Callee, (∀ e ∈ L', call e.1 e.2.1 H = some (e.2.2, H)) → astep κ.c call ops o env H = some (env1, H)) (h : Out κ ops H r env1 env' L) : Out κ ops H (o :: r) env env' (L' ++ L) := by
  intro call hL
  have e1 := h1 call fun e he => hL e (by simp [he])
  obtain ⟨e2, e3⟩ := h call fun e he => hL e (by simp [he])
  refine ⟨by simp only [asteps, e1, Option.bind_some]; exact e2, fun m hm => ?_⟩
  cases m with
  | zero => exact ⟨env1, by simp [asteps, e1]⟩
  | succ m =>
    obtain ⟨e, he⟩ := e3 m (by simpa using hm)
    exact ⟨e, by simp only [List.take_succ_cons, asteps, e1, Option.bind_some]; exact he⟩

theorem kcallQ_sound {cl : Call} {an : An} {fs : List Nat} {k : AV → List Nat → Prop} (h : kcallQ κ env H cl an fs k) :
    (∃ v, k v fs ∧ aop κ.c env (.call cl) H = some (.val v, H)) ∨ ∃ f args v fs', fs = f :: fs' ∧ k v fs' ∧ Pt κ f args H v H ∧ aop κ.c env (.call cl) H = some (.call f args, H) := by
  unfold kcallQ at h
  split at h
  · split at h
    · exact .inl ⟨_, h.2, by simp only [aop, acallee, abuiltin, *, Option.bind_some, Option.map_some]⟩
    · exact .inl ⟨_, h.2, by simp only [aop, acallee, abuiltin, *, Option.bind_some, Option.map_some]⟩
    · exact .inl ⟨_, h.2, by simp only [aop, acallee, abuiltin, *, Option.bind_some, Option.map_some]⟩
    · exact h.elim
  · split at h
    · split at h
      · exact .inl ⟨_, h, by simp only [aop, acallee, abuiltin, *, Option.bind_some, Option.map_some]⟩
      · exact h.elim
    · exact h.elim
  · split at h
    · split at h
      · exact .inl ⟨_, h.2, by simp only [aop, acallee, *, Option.bind_some, Option.map_some, Bool.false_eq_true, if_false]⟩
      · exact h.elim
    · exact h.elim
  · split at h
    · rename_i f args H1 f0 fs' hc
      split at h
      · rename_i hb
        have hb := Nat.eq_of_beq_eq_true hb
        subst hb
        have := acallee_heap hc
        subst this
        exact .inr ⟨f, args, _, fs', rfl, h.2, h.1, by simp only [aop]; exact hc⟩
      · exact h.elim
    · exact h.elim
  · exact h.elim

theorem kregC_sound {ops : List Oper} {k : AEnv → Prop} : ∀ (r : List Oper) {env : AEnv} {as_ : List An} {fs : List Nat}, kregC κ ops H r env as_ fs k →
    ∃ (env' : AEnv) (L : List Ent) (fs' : List Nat), k env' ∧ Fr r env env' ∧ (∀ e ∈ L, Pt κ e.1 e.2.1 H e.2.2 H) ∧ L.map (·.1) ++ fs' = fs ∧ Out κ ops H r env env' L
  | [], env, as_, fs, h => ⟨env, [], fs, h, Fr.nil, by simp, rfl, fun call _ => ⟨rfl, fun m hm => by simp at hm⟩⟩
  | o :: r, env, as_, fs, h => by
    simp only [kregC] at h
    split at h
    · rename_i hw
      obtain ⟨env', L, fs', h1, h2, h3, h4, h5⟩ := kregC_sound r h
      exact ⟨env', [] ++ L, fs', h1, h2.cons, h3, h4, h5.cons fun call _ => by simp only [astep, hw, Option.bind_some, Bool.false_eq_true, if_false]⟩
    · rename_i hw
      split at h
      · rename_i cl hop
        split at h
        · rcases kcallQ_sound h with ⟨v, h, e⟩ | ⟨f, args, v, fs1, rfl, h, hp, e⟩
          · obtain ⟨env', L, fs', h1, h2, h3, h4, h5⟩ := kregC_sound r h
            exact ⟨env', [] ++ L, fs', h1, h2.cons, h3, h4, h5.cons fun call _ => by simp only [astep, hw, Option.bind_some, if_true, hop, e]⟩
          · obtain ⟨env', L, fs', h1, h2, h3, h4, h5⟩ := kregC_sound r h
            refine ⟨env', [(f, args, v)] ++ L, fs', h1, h2.cons, fun e he => ?_, by simp [h4], h5.cons fun call hL => ?_⟩
            · rcases List.mem_append.1 he with he | he
              · simp at he; subst he; exact hp
              · exact h3 e he
            · have := hL (f, args, v) (by simp)
              simp only at this
              simp only [astep, hw, Option.bind_some, if_true, hop, e, this]
        · exact h.elim
      · split at h
        · rename_i hq
          obtain ⟨v, H1, as', hs, h⟩ := kop_sound h
          obtain ⟨env', L, fs', h1, h2, h3, h4, h5⟩ := kregC_sound r h
          have hv : aop κ.c env o.op H = some (.val v, H) := by
            rcases hs with e | ⟨rfl, e⟩ | ⟨e, _⟩
            · obtain ⟨rfl, _⟩ := quiet_same hq e
              exact e
            · obtain ⟨_, _, e'⟩ := quiet_same hq e
              cases e'
            · cases e
          exact ⟨env', [] ++ L, fs', h1, h2.cons, h3, h4, h5.cons fun call _ => by simp only [astep, hw, Option.bind_some, if_true, hv]⟩
        · exact h.elim
    · exact h.elim

def kgoC (κ : Kn) (ops : List Oper) (n : Nat) (l new : List (Nat × AV)) (H H' : AHeap) (fs : List Nat) (as_ : List An) : Prop :=
  match (edgesOk ops && apartOk ops) && (Nat.ble n 524288 && decide fs.Nodup) with
  | true => kregC κ ops H ops (E n l) as_ fs fun env1 => (keysOk new l ops, new.map (fun p => eget env1 p.1), H) = (true, new.map (fun p => some p.2), H')
  | false => False
variable {new : List (Nat × AV)} {H' : AHeap} {P : Prop}
theorem D.kc {id n : Nat} {l : List (Nat × AV)} {ops : Array Oper} (fs : List Nat) (F : Fx new H' P) (e : kgoC κ ops.toList n l new H H' fs F.ans = P) (k : K .normal (E n (new ++ l)) H') : D κ (.region id ops true) (E n l) H K := by
  have h : kgoC κ ops.toList n l new H H' fs F.ans := by rw [e]; exact F.pf
  unfold kgoC at h
  split at h
  · rename_i hb
    rw [Bool.and_eq_true, Bool.and_eq_true (Nat.ble _ _)] at hb
    obtain ⟨hs, hn, hd⟩ := hb
    have hn := Nat.le_of_ble_eq_true hn
    have hd := of_decide_eq_true hd
    obtain ⟨env1, L, fs', h1, hf, hL, hfs, ho⟩ := kregC_sound ops.toList h
    simp only [Prod.mk.injEq] at h1
    obtain ⟨hk, hv, rfl⟩ := h1
    have hle := kept hn hf hk hv
    have hnd : (L.map (·.1)).Nodup := by rw [← hfs] at hd; exact (List.nodup_append.1 hd).1
    classical
    let call : Callee := fun f args H' => if H' = H then (L.find? fun e => decide (e.1 = f ∧ e.2.1 = args)).map fun e => (e.2.2, H) else none
    have hc : CallOK κ.c κ.base κ.w0 call := by
      intro f args H1 v H2 hcall
      simp only [call] at hcall
      split at hcall
      · rename_i hH
        subst hH
        simp only [Option.map_eq_some_iff] at hcall
        obtain ⟨e, he, hx⟩ := hcall
        cases hx
        have h1 := List.find?_some he
        have h1 := of_decide_eq_true h1
        obtain ⟨rfl, rfl⟩ := h1
        exact hL e (List.mem_of_find?_eq_some he)
      · cases hcall
    have hcall : ∀ e ∈ L, call e.1 e.2.1 H = some (e.2.2, H) := by
      intro e he
      simp only [call, if_true, Option.map_eq_some_iff]
      refine ⟨e, ?_, rfl⟩
      cases hq : L.find? (fun e' => decide (e'.1 = e.1 ∧ e'.2.1 = e.2.1)) with
      | none =>
        rw [List.find?_eq_none] at hq
        exact absurd (decide_eq_true (show e.1 = e.1 ∧ e.2.1 = e.2.1 from ⟨rfl, rfl⟩)) (hq e he)
      | some e' =>
        have h0 := List.find?_some hq
        have h1 := of_decide_eq_true h0
        have h2 := List.mem_of_find?_eq_some hq
        obtain ⟨i, hi, rfl⟩ := List.getElem_of_mem he
        obtain ⟨j, hj, rfl⟩ := List.getElem_of_mem h2
        have : j = i := by
          have hh : (L.map (·.1))[j]'(by simpa using hj) = (L.map (·.1))[i]'(by simpa using hi) := by simpa using h1.1
          exact nodup_inj hnd hh
        subst this; rfl
    obtain ⟨a1, a2⟩ := ho call hcall
    obtain ⟨e, env2, H2, hk2, hw⟩ := D.calmG (κ := κ) (id := id) (K := fun e env2 H2 => e = .normal ∧ env2 = env1 ∧ H2 = H) hc hs a1 a2 ⟨rfl, rfl, rfl⟩
    obtain ⟨rfl, rfl, rfl⟩ := hk2
    refine ⟨.normal, _, _, k, fun ρ w a hr hfr hen => wp_mono (hw ρ w a hr hfr hen) ?_⟩
    rintro x a' w' ⟨hx, hd, ρ', hp, he'⟩
    exact ⟨hx, hd, ρ', hp, he'.less hle⟩
  · exact h.elim
theorem D.kcs {id n : Nat} {l : List (Nat × AV)} {ops : Array Oper} {b : Code} (fs : List Nat) (F : Fx new H' P) (e : kgoC κ ops.toList n l new H H' fs F.ans = P) (k : D κ b (E n (new ++ l)) H' K) : D κ (.region id ops true) (E n l) H (Ks κ b K) := D.kc fs F e k
theorem Keep.take {H H' : AHeap} (h : Keep H H' (fun _ => False)) : H'.take H.length = H := by
  apply List.ext_getElem?
  intro j
  rw [List.getElem?_take]
  by_cases hj : j < H.length
  · rw [if_pos hj]
    have h1 := h.2 j hj id
    have h2 := h.1
    unfold hat at h1
    rw [List.getElem?_eq_getElem hj, List.getElem?_eq_getElem (by omega)] at h1 ⊢
    simp only at h1
    rw [h1]
  · rw [if_neg hj, List.getElem?_eq_none (by omega)]
/-- a function that only makes new things and tells none of them leaves the heap as it is -/
theorem Pt.pure {f : FuncId} {args : List AV} {v : AV} (h : ∃ r H', Pt κ f args H r H' ∧ (r = v ∧ Keep H H' (fun _ => False))) (hv : v.low H.length = true) : Pt κ f args H v H := by
  obtain ⟨r, H', h1, rfl, h2⟩ := h
  exact h1.shrink hv h2.take
end Go.AM

/-
  REGIONS THAT DRAW THEIR ORDER, run by the kernel (own work): looks and calls that leave the heap as it is, then movers in a row.
-/
namespace Go.AM
open Go.RowKit
set_option linter.unusedSimpArgs false
set_option linter.unusedVariables false
variable {κ : Kn} {T : FuncId → Spec} {env : AEnv} {H : AHeap} {K : AExit → AEnv → AHeap → Prop}

/-- who looks: not a plain value, but leaving the heap -/
def lookI (ops : List Oper) (cm : List Nat) (i : Nat) : Bool := !isP (opsOf ops i).op && (quiet (opsOf ops i).op || cm.contains i)
/-- who moves -/
def moveI (ops : List Oper) (cm : List Nat) (i : Nat) : Bool := !(quiet (opsOf ops i).op || cm.contains i)
def wOk (ops : List Oper) (cm : List Nat) : Bool :=
  rowOk ops ((List.range ops.length).filter (lookI ops cm)) ((List.range ops.length).filter (moveI ops cm)) &&
  ((List.range ops.length).filter (lookI ops cm)).all fun j => ((List.range ops.length).filter (moveI ops cm)).all fun i => ((Region.before ops.toArray).getD i 0).testBit j

def kcalm (κ : Kn) (T : FuncId → Spec) (env : AEnv) (H : AHeap) (cl : Call) (an : An) (k : AV → Prop) : Prop :=
  match cl.callee, an with
  | .builtin b, .v x => match b, cl.argTypes.toList, avals env cl.args.toList with
    | .len, t :: _, some [y] => alen κ.c H t y = some x ∧ k x
    | .max, _, some l => aminmax true l = some x ∧ k x
    | .min, _, some l => aminmax false l = some x ∧ k x
    | _, _, _ => False
  | .builtin .len, .a => match cl.argTypes.toList, avals env cl.args.toList with
    | t :: _, some [y] => match alen κ.c H t y with
      | some x => k x
      | none => False
    | _, _ => False
  | .value q, .v x => match aval env q, avals env cl.args.toList with
    | some (.func (.func f) first captured), some args => match hasBody κ.c.P f with
      | false => aext κ.c.P f (first ++ args ++ captured) = some x ∧ k x
      | true => False
    | _, _ => False
  | _, .vh x _ => match acallee κ.c H env cl with
    | some (.call f args, _) => callT κ T f args H = some (x, H) ∧ k x
    | _ => False
  | _, _ => False
theorem kcalm_sound {cl : Call} {an : An} {k : AV → Prop} (h : kcalm κ T env H cl an k) : ∃ v, k v ∧ ∃ r, aop κ.c env (.call cl) H = some (r, H) ∧ match r with
    | .val u => u = v
    | .skip => False
    | .call f args => callT κ T f args H = some (v, H) := by
  unfold kcalm at h
  split at h
  · split at h
    · exact ⟨_, h.2, .val _, by simp only [aop, acallee, abuiltin, *, Option.bind_some, Option.map_some], rfl⟩
    · exact ⟨_, h.2, .val _, by simp only [aop, acallee, abuiltin, *, Option.bind_some, Option.map_some], rfl⟩
    · exact ⟨_, h.2, .val _, by simp only [aop, acallee, abuiltin, *, Option.bind_some, Option.map_some], rfl⟩
    · exact h.elim
  · split at h
    · split at h
      · exact ⟨_, h, .val _, by simp only [aop, acallee, abuiltin, *, Option.bind_some, Option.map_some], rfl⟩
      · exact h.elim
    · exact h.elim
  · split at h
    · split at h
      · exact ⟨_, h.2, .val _, by simp only [aop, acallee, *, Option.bind_some, Option.map_some, Bool.false_eq_true, if_false], rfl⟩
      · exact h.elim
    · exact h.elim
  · split at h
    · rename_i f args H1 hc
      have := acallee_heap hc
      subst this
      exact ⟨_, h.2, _, by simp only [aop]; exact hc, h.1⟩
    · exact h.elim
  · exact h.elim

def kregW (κ : Kn) (T : FuncId → Spec) (ops : List Oper) (cm : List Nat) : List Oper → Nat → AEnv → AHeap → Bool → List An → (AEnv → AHeap → Prop) → Prop
  | [], _, env, H, _, _, k => k env H
  | o :: r, i, env, H, mv, as_, k => match awanted ops env o with
    | some false => kregW κ T ops cm r (i + 1) (eput env o.dst (some .undef)) H mv as_ k
    | some true => match isP o.op with
      | true => kop κ env H false o.op as_ fun v _ as' => kregW κ T ops cm r (i + 1) (eput env o.dst (some v)) H mv as' k
      | false => match quiet o.op with
        | true => match mv with
          | true => False
          | false => kop κ env H false o.op as_ fun v _ as' => kregW κ T ops cm r (i + 1) (eput env o.dst (some v)) H mv as' k
        | false => match cm.contains i with
          | true => match mv, o.op, as_ with
            | false, .call cl, an :: as' => kcalm κ T env H cl an fun v => kregW κ T ops cm r (i + 1) (eput env o.dst (some v)) H mv as' k
            | _, _, _ => False
          | false => kop κ env H false o.op as_ fun v H' as' => kregW κ T ops cm r (i + 1) (eput env o.dst (some v)) H' true as' k
    | none => False

theorem asteps_snoc {c : Ctx} {call : Callee} {ops : List Oper} : ∀ {l : List Oper} {o : Oper} {env e1 e2 : AEnv} {H H1 H2 : AHeap}, asteps c call ops l env H = some (e1, H1) → astep c call ops o e1 H1 = some (e2, H2) → asteps c call ops (l ++ [o]) env H = some (e2, H2)
  | [], o, env, e1, e2, H, H1, H2, h, h2 => by cases h; simp only [List.nil_append, asteps, h2, Option.bind_some]
  | a :: l, o, env, e1, e2, H, H1, H2, h, h2 => by
    simp only [asteps, Option.bind_eq_some_iff] at h
    obtain ⟨⟨e3, H3⟩, h3, h4⟩ := h
    simp only [List.cons_append, asteps, h3, Option.bind_some]
    exact asteps_snoc h4 h2

theorem kregW_sound {ops : List Oper} {cm : List Nat} {env0 : AEnv} {H0 : AHeap} {k : AEnv → AHeap → Prop} : ∀ (r : List Oper) (i : Nat) {env : AEnv} {H : AHeap} {mv : Bool} {as_ : List An}, ops.drop i = r → asteps κ.c (callT κ T) ops (ops.take i) env0 H0 = some (env, H) → (mv = false → H = H0) →
    kregW κ T ops cm r i env H mv as_ k →
    ∃ (env' : AEnv) (H' : AHeap) (ks : List (Nat × AHeap)), k env' H' ∧ Fr r env env' ∧ asteps κ.c (callT κ T) ops ops env0 H0 = some (env', H') ∧
      (∀ p ∈ ks, ∃ e, asteps κ.c (callT κ T) ops (ops.take (p.1 + 1)) env0 H0 = some (e, p.2)) ∧ ks.map (·.1) = (List.range' i r.length).filter (moveI ops cm) ∧
      ∀ j, i ≤ j → j < i + r.length → lookI ops cm j = true → ∃ v env1, stepV κ.c (callT κ T) ops (opsOf ops j) env1 H0 = some (v, H0) ∧ Fr (ops.drop j) env1 env'
  | [], i, env, H, mv, as_, hdr, hpre, hmv, h => by
    have hi : ops.length ≤ i := by simpa using hdr
    rw [List.take_of_length_le hi] at hpre
    exact ⟨env, H, [], h, Fr.nil, hpre, by simp, by simp, fun j h1 h2 => by simp at h2; omega⟩
  | o :: r, i, env, H, mv, as_, hdr, hpre, hmv, h => by
    have ho : ops[i]? = some o := by
      have := congrArg (fun l => l[0]?) hdr
      simpa using this
    have hil : i < ops.length := (List.getElem?_eq_some_iff.1 ho).1
    have hdr' : ops.drop (i + 1) = r := by rw [← List.drop_drop, hdr]; rfl
    have htk : ops.take (i + 1) = ops.take i ++ [o] := by rw [List.take_add_one, ho]; rfl
    have hop : opsOf ops i = o := by simp [opsOf, List.getD_eq_getElem?_getD, ho]
    -- one step, and all that is behind it
    have go : ∀ {env1 : AEnv} {H1 : AHeap} {mv1 : Bool} {as1 : List An} {u : Option AV}, env1 = eput env o.dst u → stepV κ.c (callT κ T) ops o env H = some (u, H1) → (mv1 = false → H1 = H0) → (lookI ops cm i = true → stepV κ.c (callT κ T) ops o env H0 = some (u, H0)) →
        kregW κ T ops cm r (i + 1) env1 H1 mv1 as1 k → ∃ (env' : AEnv) (H' : AHeap) (ks : List (Nat × AHeap)), k env' H' ∧ Fr (o :: r) env env' ∧ asteps κ.c (callT κ T) ops ops env0 H0 = some (env', H') ∧
      (∀ p ∈ ks, ∃ e, asteps κ.c (callT κ T) ops (ops.take (p.1 + 1)) env0 H0 = some (e, p.2)) ∧ ks.map (·.1) = (List.range' i (o :: r).length).filter (moveI ops cm) ∧
      ∀ j, i ≤ j → j < i + (o :: r).length → lookI ops cm j = true → ∃ v env1, stepV κ.c (callT κ T) ops (opsOf ops j) env1 H0 = some (v, H0) ∧ Fr (ops.drop j) env1 env' := by
      intro env1 H1 mv1 as1 u he hst hm1 hlk hk
      subst he
      have hstep : astep κ.c (callT κ T) ops o env H = some (eput env o.dst u, H1) := by rw [astep_stepV, hst]; rfl
      have hpre1 : asteps κ.c (callT κ T) ops (ops.take (i + 1)) env0 H0 = some (eput env o.dst u, H1) := by rw [htk]; exact asteps_snoc hpre hstep
      obtain ⟨env', H', ks, h1, h2, h3, h4, h5, h6⟩ := kregW_sound r (i + 1) hdr' hpre1 hm1 hk
      refine ⟨env', H', if moveI ops cm i then (i, H1) :: ks else ks, h1, h2.cons, h3, fun p hp => ?_, ?_, fun j hj1 hj2 hlj => ?_⟩
      · split at hp
        · rcases List.mem_cons.1 hp with rfl | hp
          · exact ⟨_, hpre1⟩
          · exact h4 p hp
        · exact h4 p hp
      · rw [List.length_cons, List.range'_succ, List.filter_cons]
        split
        · rw [List.map_cons, h5]
        · exact h5
      · by_cases hji : j = i
        · subst hji
          exact ⟨u, env, by rw [hop]; exact hlk hlj, by rw [hdr]; exact h2.cons⟩
        · exact h6 j (by omega) (by simp at hj2; omega) hlj
    simp only [kregW] at h
    split at h
    · rename_i hw
      exact go rfl (by simp only [stepV, hw, Option.bind_some, Bool.false_eq_true, if_false]) hmv (fun _ => by simp only [stepV, hw, Option.bind_some, Bool.false_eq_true, if_false]) h
    · rename_i hw
      have val : ∀ {v : AV} {H1 : AHeap}, Stp κ false env H o.op v H1 → stepV κ.c (callT κ T) ops o env H = some (some v, H1) := by
        intro v H1 hs
        rcases hs with e | ⟨rfl, e⟩ | ⟨e, _⟩
        · simp only [stepV, hw, Option.bind_some, if_true, e]
        · simp only [stepV, hw, Option.bind_some, if_true, e]
        · cases e
      have still : ∀ {v : AV} {H1 : AHeap}, quiet o.op = true → Stp κ false env H o.op v H1 → H1 = H := by
        intro v H1 hq hs
        rcases hs with e | ⟨rfl, e⟩ | ⟨e, _⟩
        · exact (quiet_same hq e).1
        · exact (quiet_same hq e).1
        · cases e
      split at h
      · rename_i hp
        obtain ⟨v, H1, as', hs, h⟩ := kop_sound h
        have hq : quiet o.op = true := by unfold quiet; split <;> first | rfl | exact hp
        have := still hq hs
        subst this
        refine go rfl (val hs) hmv (fun hl => ?_) h
        simp [lookI, hop, hp] at hl
      · split at h
        · rename_i hp hq
          split at h
          · exact h.elim
          · obtain ⟨v, H1, as', hs, h⟩ := kop_sound h
            have := still hq hs
            subst this
            have e0 := hmv rfl
            exact go rfl (val hs) hmv (fun _ => e0 ▸ val hs) h
        · split at h
          · split at h
            · rename_i _ cl an as' hop'
              obtain ⟨v, h, rr, e, hr⟩ := kcalm_sound h
              have e0 := hmv rfl
              have hst : stepV κ.c (callT κ T) ops o env H = some (some v, H) := by
                simp only [stepV, hw, Option.bind_some, if_true, hop', e]
                cases rr with
                | val u => simp only at hr; rw [hr]
                | skip => exact hr.elim
                | call f args => simp only at hr; simp only [hr, Option.bind_some]
              exact go rfl hst hmv (fun _ => e0 ▸ hst) h
            · exact h.elim
          · rename_i _ hq _ hcm
            obtain ⟨v, H1, as', hs, h⟩ := kop_sound h
            refine go (mv1 := true) rfl (val hs) (fun e => by cases e) (fun hl => ?_) h
            rw [lookI, hop] at hl
            rw [hq, hcm] at hl
            simp at hl
    · exact h.elim

def kgoW (κ : Kn) (T : FuncId → Spec) (ops : List Oper) (n : Nat) (l new : List (Nat × AV)) (H H' : AHeap) (cm : List Nat) (as_ : List An) : Prop :=
  match wOk ops cm && Nat.ble n 524288 with
  | true => kregW κ T ops cm ops 0 (E n l) H false as_ fun env1 H1 => (keysOk new l ops, new.map (fun p => eget env1 p.1), H1) = (true, new.map (fun p => some p.2), H')
  | false => False
variable {new : List (Nat × AV)} {H' : AHeap} {P : Prop}
theorem D.kw {id n : Nat} {l : List (Nat × AV)} {ops : Array Oper} (T : FuncId → Spec) (cm : List Nat) (F : Fx new H' P) (e : kgoW κ T ops.toList n l new H H' cm F.ans = P) (k : K .normal (E n (new ++ l)) H') : D κ (.region id ops true) (E n l) H K := by
  have h : kgoW κ T ops.toList n l new H H' cm F.ans := by rw [e]; exact F.pf
  unfold kgoW at h
  split at h
  · rename_i hb
    rw [Bool.and_eq_true] at hb
    obtain ⟨hw, hn⟩ := hb
    have hn := Nat.le_of_ble_eq_true hn
    rw [wOk, Bool.and_eq_true] at hw
    obtain ⟨hrow, hbef⟩ := hw
    obtain ⟨env1, H1, ks, h1, hf, h3, h4, h5, h6⟩ := kregW_sound (env0 := E n l) (H0 := H) ops.toList 0 rfl rfl (fun _ => rfl) h
    simp only [Prod.mk.injEq] at h1
    obtain ⟨hk, hv, rfl⟩ := h1
    have hle := kept hn hf hk hv
    have h5' : ks.map (·.1) = (List.range ops.toList.length).filter (moveI ops.toList cm) := by rw [h5, List.range_eq_range']
    have hF : ∀ j ∈ (List.range ops.toList.length).filter (lookI ops.toList cm), ∃ v, ∀ X ∈ H :: (ks.filter fun p => !((Region.before ops.toList.toArray).getD p.1 0).testBit j).map (·.2), stepV κ.c (callT κ T) ops.toList (opsOf ops.toList j) env1 X = some (v, X) := by
      intro j hj
      have hj' := hj
      rw [List.mem_filter, List.mem_range] at hj
      obtain ⟨v, env2, hs, hfr⟩ := h6 j (by omega) (by simpa using hj.1) hj.2
      refine ⟨v, fun X hX => ?_⟩
      have hnil : (ks.filter fun p => !((Region.before ops.toList.toArray).getD p.1 0).testBit j) = [] := by
        rw [List.filter_eq_nil_iff]
        intro p hp
        have hm : p.1 ∈ (List.range ops.toList.length).filter (moveI ops.toList cm) := by rw [← h5']; exact List.mem_map.2 ⟨p, hp, rfl⟩
        have := List.all_eq_true.1 (List.all_eq_true.1 hbef j hj') p.1 hm
        rw [this]
        decide
      rw [hnil] at hX
      simp at hX
      subst hX
      have hfix : fixJ ops.toList j = true := by
        simp only [rowOk, Bool.and_eq_true, List.all_eq_true] at hrow
        exact hrow.2.2.1 j hj'
      have hr : ∀ a ∈ (opsOf ops.toList j).looksAt ops.toList.toArray, eget env1 a = eget env2 a := by
        intro a ha
        refine hfr.2 a fun o ho hd => ?_
        obtain ⟨m, hm, rfl⟩ := List.getElem_of_mem ho
        rw [List.getElem_drop] at hd
        rw [List.length_drop] at hm
        have := List.all_eq_true.1 (List.all_eq_true.1 hfix a ha) (j + m) (List.mem_range.2 (by omega))
        rw [Bool.or_eq_true] at this
        rcases this with h' | h'
        · rw [Nat.blt_eq] at h'; omega
        · rw [opsOf, List.getD_eq_getElem?_getD, List.getElem?_eq_getElem (by omega)] at h'
          simp only [Option.getD_some] at h'
          rw [hd] at h'
          simp at h'
      simp only [stepV, awanted_reads hr, aop_congr (aval_reads hr)]
      exact hs
    obtain ⟨e', env2, H2, hk2, hw2⟩ := D.row (κ := κ) (T := T) (id := id) (K := fun e env2 H2 => e = .normal ∧ env2 = env1 ∧ H2 = H1) _ ks (by rw [h5']; exact hrow) h3 h4 hF ⟨rfl, rfl, rfl⟩
    obtain ⟨rfl, rfl, rfl⟩ := hk2
    refine ⟨.normal, _, _, k, fun ρ w a hr hfr hen => wp_mono (hw2 ρ w a hr hfr hen) ?_⟩
    rintro x a' w' ⟨hx, hd, ρ', hp, he'⟩
    exact ⟨hx, hd, ρ', hp, he'.less hle⟩
  · exact h.elim
theorem D.kws {id n : Nat} {l : List (Nat × AV)} {ops : Array Oper} {b : Code} (T : FuncId → Spec) (cm : List Nat) (F : Fx new H' P) (e : kgoW κ T ops.toList n l new H H' cm F.ans = P) (k : D κ b (E n (new ++ l)) H' K) : D κ (.region id ops true) (E n l) H (Ks κ b K) := D.kw T cm F e k
/-- functions that leave the heap and are told by a relation that tells one answer alone -/
def pureT (R : FuncId → List AV → AV → Prop) : FuncId → Spec := fun f args H v H' => H = H' ∧ R f args v
theorem pureT_call {R : FuncId → List AV → AV → Prop} {f : FuncId} {args : List AV} {v : AV} (hp : Pt κ f args H v H) (hr : R f args v) (hu : ∀ v', R f args v' → v' = v) : callT κ (pureT R) f args H = some (v, H) := by
  obtain ⟨v', H', h1, h2, h3⟩ := callT_run (T := pureT R) ⟨v, H, hp, rfl, hr⟩
  rw [h1, hu v' h3, h2]
end Go.AM

/-
  REGIONS THAT DRAW THEIR ORDER, run by the kernel (own work): movers in a row, calls among them; looks anywhere beside them, asked at each heap that they may meet.
-/
namespace Go.AM
open Go.RowKit
set_option linter.unusedSimpArgs false
set_option linter.unusedVariables false

/-! ### 'before' is transitive -/
theorem foldl_bits_up {acc : Array Nat} {i : Nat} : ∀ (l : List Edge) (s : Nat), (s.testBit i = true ∨ ∃ e ∈ l, Region.binds .any e = true ∧ (e.on = i ∨ (acc.getD e.on 0).testBit i = true)) →
    (l.foldl (fun s e => if Region.binds .any e then s ||| 2 ^ e.on ||| acc.getD e.on 0 else s) s).testBit i = true
  | [], s, h => by
    rcases h with h | ⟨e, he, _⟩
    · exact h
    · cases he
  | e :: l, s, h => by
    rw [List.foldl_cons]
    refine foldl_bits_up l _ ?_
    rcases h with h | ⟨e', he, hb, hq⟩
    · left
      split
      · simp only [Nat.testBit_or, h, Bool.true_or]
      · exact h
    · rcases List.mem_cons.1 he with rfl | he
      · left
        rw [if_pos hb]
        simp only [Nat.testBit_or, Bool.or_eq_true]
        rcases hq with rfl | hq
        · exact .inl (.inr (by rw [Nat.testBit_two_pow_self]))
        · exact .inr hq
      · exact .inr ⟨e', he, hb, hq⟩
theorem before_up {ops : List Oper} {j i : Nat} (hj : j < ops.length) (hedge : edgesOk ops = true) {e : Edge} (he : e ∈ (opsOf ops j).after.toList) (hb : Region.binds .any e = true) (hq : e.on = i ∨ ((Region.before ops.toArray).getD e.on 0).testBit i = true) :
    ((Region.before ops.toArray).getD j 0).testBit i = true := by
  have hlt : e.on < j := by
    have := List.all_eq_true.1 (List.all_eq_true.1 hedge j (List.mem_range.2 hj)) e he
    rw [hb] at this
    simpa using this
  rw [before_get (opsOf_get hj), beforeF, ← Array.foldl_toList]
  refine foldl_bits_up _ _ (.inr ⟨e, he, hb, ?_⟩)
  rcases hq with hq | hq
  · exact .inl hq
  · exact .inr (by rw [before_take hlt (by omega)]; exact hq)
theorem before_trans {ops : List Oper} (hedge : edgesOk ops = true) {m q : Nat} : ∀ j, j < ops.length → ((Region.before ops.toArray).getD j 0).testBit q = true → ((Region.before ops.toArray).getD q 0).testBit m = true → ((Region.before ops.toArray).getD j 0).testBit m = true := by
  intro j
  induction j using Nat.strongRecOn with
  | ind j ih =>
    intro hj h1 h2
    have hedge' : ∀ e ∈ (opsOf ops j).after.toList, Region.binds .any e = true → e.on < j := by
      intro e hej hb
      have := List.all_eq_true.1 (List.all_eq_true.1 hedge j (List.mem_range.2 hj)) e hej
      rw [hb] at this
      simpa using this
    obtain ⟨e, he, hb, hq⟩ := before_bits (opsOf_get hj) hedge' h1
    have hlt := hedge' e he hb
    refine before_up hj hedge he hb (.inr ?_)
    rcases hq with hq | hq
    · rw [hq]; exact h2
    · exact ih e.on hlt (by omega) hq h2

/-! ### movers in a row, looks anywhere -/
/-- may the look j meet the heap behind the mover i (of the movers ks)? -/
def metK (b : Array Nat) (ks : List Nat) (i j : Nat) : Prop := (b.getD i 0).testBit j = false ∧ ∀ q ∈ ks, i < q → (b.getD j 0).testBit q = false
def met0 (b : Array Nat) (ks : List Nat) (j : Nat) : Prop := ∀ q ∈ ks, (b.getD j 0).testBit q = false
variable {κ : Kn} {env : AEnv} {H : AHeap} {K : AExit → AEnv → AHeap → Prop}
theorem D.rowG {id : Nat} {ops : Array Oper} {env' : AEnv} {H' : AHeap} {call : Callee} (hc : CallOK κ.c κ.base κ.w0 call) (F : List Nat) (ks : List (Nat × AHeap)) (hs : rowOk ops.toList F (ks.map (·.1)) = true)
    (hkF : ∀ p ∈ ks, p.1 < ops.toList.length ∧ isP (opsOf ops.toList p.1).op = false ∧ p.1 ∉ F)
    (h : asteps κ.c call ops.toList ops.toList env H = some (env', H'))
    (hk : ∀ p ∈ ks, ∃ e, asteps κ.c call ops.toList (ops.toList.take (p.1 + 1)) env H = some (e, p.2))
    (hF : ∀ j ∈ F, ∃ v, (met0 (Region.before ops.toList.toArray) (ks.map (·.1)) j → stepV κ.c call ops.toList (opsOf ops.toList j) env' H = some (v, H)) ∧
      ∀ p ∈ ks, metK (Region.before ops.toList.toArray) (ks.map (·.1)) p.1 j → stepV κ.c call ops.toList (opsOf ops.toList j) env' p.2 = some (v, p.2))
    (k : K .normal env' H') : D κ (.region id ops true) env H K := by
  refine ⟨.normal, env', H', k, fun ρ w a hr hf he => ?_⟩
  obtain ⟨t, ht⟩ := trace_of_steps h
  refine order_sound κ.mixed _ hc id ops env env' H H' ?_ h ρ w a hr hf he
  simp only [drawOk, ht]
  generalize ops.toList = os at *
  simp only [rowOk, Bool.and_eq_true, List.all_eq_true, List.mem_range] at hs
  obtain ⟨h1, h2, h3, h4⟩ := hs
  obtain ⟨f1, f2, f3⟩ := trace_facts ht
  have hE : envK (fun i => (os.getD i default).dst) (fun i => (t.getD i dft).1) (fun _ => true) env os.length = env' := by
    rw [f3, Option.some.injEq, Prod.mk.injEq] at h; exact h.1
  have hheap := heap_trace ht
  have hat : ∀ j, j < os.length → os[j]? = some (opsOf os j) := fun j hj => opsOf_get hj
  have hkh : ∀ p ∈ ks, heapsOf H t (p.1 + 1) = p.2 := by
    intro p hp
    obtain ⟨e, hpre⟩ := hk p hp
    obtain ⟨e2, hpre2⟩ := take_trace ht (p.1 + 1) (hkF p hp).1
    rw [hpre, Option.some.injEq, Prod.mk.injEq] at hpre2
    exact hpre2.2.symm
  -- what a look tells at a heap that it may meet
  have hlk : ∀ j, j < os.length → j ∈ F → ∃ v, (met0 (Region.before os.toArray) (ks.map (·.1)) j → stepV κ.c call os (opsOf os j) (envK (fun i => (os.getD i default).dst) (fun i => (t.getD i dft).1) (fun _ => true) env j) H = some (v, H)) ∧
      ∀ p ∈ ks, metK (Region.before os.toArray) (ks.map (·.1)) p.1 j → stepV κ.c call os (opsOf os j) (envK (fun i => (os.getD i default).dst) (fun i => (t.getD i dft).1) (fun _ => true) env j) p.2 = some (v, p.2) := by
    intro j hj hjF
    obtain ⟨v, hv1, hv2⟩ := hF j hjF
    refine ⟨v, fun hm => ?_, fun p hp hm => ?_⟩
    · rw [← fixJ_env hj (h3 j hjF) H, hE]; exact hv1 hm
    · rw [← fixJ_env hj (h3 j hjF) p.2, hE]; exact hv2 p hp hm
  -- the heap ahead of m: that behind the last mover ahead of m
  have hlook : ∀ j, j < os.length → j ∈ F → ((∀ p ∈ ks, ¬ p.1 < j) ∧ heapsOf H t j = H ∨ ∃ p ∈ ks, p.1 < j ∧ (∀ q ∈ ks, q.1 < j → q.1 ≤ p.1) ∧ heapsOf H t j = p.2) →
      ∃ v, t.getD j dft = (v, heapsOf H t j) ∧ (met0 (Region.before os.toArray) (ks.map (·.1)) j → stepV κ.c call os (opsOf os j) (envK (fun i => (os.getD i default).dst) (fun i => (t.getD i dft).1) (fun _ => true) env j) H = some (v, H)) ∧
      ∀ p ∈ ks, metK (Region.before os.toArray) (ks.map (·.1)) p.1 j → stepV κ.c call os (opsOf os j) (envK (fun i => (os.getD i default).dst) (fun i => (t.getD i dft).1) (fun _ => true) env j) p.2 = some (v, p.2) := by
    intro j hj hjF hin
    obtain ⟨v, hv1, hv2⟩ := hlk j hj hjF
    refine ⟨v, ?_, hv1, hv2⟩
    have hst := f1 j _ (hat j hj)
    rw [hheap j (by omega)] at hst
    rcases hin with ⟨hno, e⟩ | ⟨p, hp, hlt, hmx, e⟩
    · have hm : met0 (Region.before os.toArray) (ks.map (·.1)) j := by
        intro q hq
        obtain ⟨p, hp, rfl⟩ := List.mem_map.1 hq
        cases hb : ((Region.before os.toArray).getD j 0).testBit p.1 with
        | false => rfl
        | true => exact absurd (before_lt h1 p.1 j hj hb) (hno p hp)
      rw [e, hv1 hm] at hst
      rw [e]; exact (Option.some.inj hst).symm
    · have hm : metK (Region.before os.toArray) (ks.map (·.1)) p.1 j := by
        refine ⟨?_, fun q hq hpq => ?_⟩
        · cases hb : ((Region.before os.toArray).getD p.1 0).testBit j with
          | false => rfl
          | true => have := before_lt h1 j p.1 (by omega) hb; omega
        · obtain ⟨q', hq', rfl⟩ := List.mem_map.1 hq
          cases hb : ((Region.before os.toArray).getD j 0).testBit q'.1 with
          | false => rfl
          | true => have := hmx q' hq' (before_lt h1 q'.1 j hj hb); omega
      rw [e, hv2 p hp hm] at hst
      rw [e]; exact (Option.some.inj hst).symm
  have hin : ∀ m, m ≤ os.length → (∀ p ∈ ks, ¬ p.1 < m) ∧ heapsOf H t m = H ∨ ∃ p ∈ ks, p.1 < m ∧ (∀ q ∈ ks, q.1 < m → q.1 ≤ p.1) ∧ heapsOf H t m = p.2 := by
    intro m
    induction m with
    | zero => intro _; exact .inl ⟨fun p _ => by omega, rfl⟩
    | succ m ih =>
      intro hm
      by_cases hmk : ∃ p ∈ ks, p.1 = m
      · obtain ⟨p, hp, rfl⟩ := hmk
        exact .inr ⟨p, hp, by omega, fun q _ hq => by omega, hkh p hp⟩
      have up : heapsOf H t (m + 1) = heapsOf H t m → ((∀ p ∈ ks, ¬ p.1 < m + 1) ∧ heapsOf H t (m + 1) = H ∨ ∃ p ∈ ks, p.1 < m + 1 ∧ (∀ q ∈ ks, q.1 < m + 1 → q.1 ≤ p.1) ∧ heapsOf H t (m + 1) = p.2) := fun e1 => by
        rcases ih (by omega) with ⟨hno, e⟩ | ⟨p, hp, hlt, hmx, e⟩
        · exact .inl ⟨fun p hp hlt => by
            by_cases e' : p.1 = m
            · exact hmk ⟨p, hp, e'⟩
            · exact hno p hp (by omega), e1.trans e⟩
        · exact .inr ⟨p, hp, by omega, fun q hq hlt => by
            by_cases e' : q.1 = m
            · exact absurd ⟨q, hq, e'⟩ hmk
            · exact hmx q hq (by omega), e1.trans e⟩
      refine up ?_
      cases hq : quiet (opsOf os m).op with
      | true =>
        have hst := f1 m _ (hat m (by omega))
        rw [hheap m (by omega)] at hst
        have : mvOf (opsOf os m).op (heapsOf H t m) (t.getD m dft).2 = false := by simp [mvOf, hq]
        exact mvOf_same this hst
      | false =>
        have hq4 := h4 m (by omega)
        simp only [Bool.or_eq_true, Bool.and_eq_true, hq, Bool.false_eq_true, false_or] at hq4
        rcases hq4 with hq4 | hq4
        · obtain ⟨v, e, _⟩ := hlook m (by omega) (by simpa using hq4) (ih (by omega))
          exact congrArg Prod.snd e
        · have hq' : m ∈ ks.map (·.1) := by simpa using hq4.1
          obtain ⟨p, hp, e⟩ := List.mem_map.1 hq'
          exact absurd ⟨p, hp, e⟩ hmk
  have hmvF : ∀ j, j < os.length → j ∈ F → (moves os H t).getD j false = false := by
    intro j hj hjF
    obtain ⟨v, e, _⟩ := hlook j hj hjF (hin j (by omega))
    rw [f2 j hj, hheap j (by omega), e]
    exact mvOf_self _ _
  -- who moves is one of ks
  have hmvk : ∀ m, m < os.length → (moves os H t).getD m false = true → ∃ p ∈ ks, p.1 = m := by
    intro m hm hmm
    have hqm : quiet (opsOf os m).op = false := by
      cases hq : quiet (opsOf os m).op with
      | false => rfl
      | true => rw [moves_quiet os H t m hq] at hmm; cases hmm
    have hmnF : m ∉ F := fun e => by rw [hmvF m hm e] at hmm; cases hmm
    have hq4 := h4 m hm
    simp only [Bool.or_eq_true, Bool.and_eq_true, hqm, Bool.false_eq_true, false_or] at hq4
    rcases hq4 with hq4 | hq4
    · exact absurd (by simpa using hq4) hmnF
    · have hq' : m ∈ ks.map (·.1) := by simpa using hq4.1
      obtain ⟨p, hp, e⟩ := List.mem_map.1 hq'
      exact ⟨p, hp, e⟩
  have hsame : ∀ m, m < os.length → (moves os H t).getD m false = false → heapsOf H t (m + 1) = heapsOf H t m := by
    intro m hm hmm
    have hst := f1 m _ (hat m hm)
    rw [hheap m (by omega)] at hst
    rw [f2 m hm, hheap m (by omega)] at hmm
    exact mvOf_same hmm hst
  simp only [regOk, Bool.and_eq_true]
  refine ⟨h1, h2, List.all_eq_true.2 fun i hi => ?_⟩
  rw [List.mem_range] at hi
  have hq := h4 i hi
  simp only [Bool.or_eq_true, Bool.and_eq_true] at hq ⊢
  rcases hq with hq | hq | ⟨_, hq⟩
  · exact .inl (by rw [moves_quiet os H t i hq]; rfl)
  · exact .inl (by rw [hmvF i hi (by simpa using hq)]; rfl)
  · refine .inr (List.all_eq_true.2 fun j hj => ?_)
    have hj' := List.mem_range.1 hj
    have hq := List.all_eq_true.1 hq j hj
    simp only [Bool.or_eq_true] at hq ⊢
    rcases hq with e | e | e | e
    · exact .inl e
    · exact .inr (.inl e)
    · refine .inr (.inr ?_)
      simp only [still, moves_quiet os H t j (isP_quiet e), e, Bool.not_false, Bool.true_or, Bool.true_and]
    · refine .inr (.inr ?_)
      have hjF : j ∈ F := by simpa using e
      obtain ⟨v, hst, hv1, hv2⟩ := hlook j hj' hjF (hin j (by omega))
      have hmv := hmvF j hj' hjF
      simp only [still, hmv, Bool.not_false, Bool.true_and]
      rw [Bool.or_eq_true]
      refine .inr (List.all_eq_true.2 fun k hk' => ?_)
      rw [List.mem_range] at hk'
      have hsm : sameStep (some (v, heapsOf H t k)) v (heapsOf H t k) = true := by cases v <;> simp [sameStep, AV.beq_refl]
      rw [Bool.or_eq_true, Bool.or_eq_true]
      cases hmk : (k == 0 || (moves os H t).getD (k - 1) false) with
      | false => exact .inl (.inl rfl)
      | true =>
        cases hps : possible os (Region.before os.toArray) (moves os H t) k j with
        | false => exact .inl (.inr rfl)
        | true =>
          refine .inr ?_
          rw [hheap k (by omega)]
          have hp1 : ∀ i, i < os.length → (moves os H t).getD i false = true → (((Region.before os.toArray).getD j 0).testBit i = true → i < k) ∧ (((Region.before os.toArray).getD i 0).testBit j = true → k ≤ i) := by
            intro i hi hm
            have := List.all_eq_true.1 hps i (List.mem_range.2 hi)
            simp only [hm, Bool.not_true, Bool.false_or, Bool.and_eq_true, Bool.or_eq_true, Bool.not_eq_true', decide_eq_true_eq] at this
            refine ⟨fun hb => ?_, fun hb => ?_⟩
            · rcases this.1 with h' | h'
              · rw [hb] at h'; cases h'
              · exact h'
            · rcases this.2 with h' | h'
              · rw [hb] at h'; cases h'
              · exact h'
          have key : stepV κ.c call os (opsOf os j) (envK (fun i => (os.getD i default).dst) (fun i => (t.getD i dft).1) (fun _ => true) env j) (heapsOf H t k) = some (v, heapsOf H t k) := by
            -- the last mover that must be ahead of j and is not ahead of k
            by_cases hA : ∃ n, ∃ p ∈ ks, p.1 = n ∧ k ≤ n ∧ ((Region.before os.toArray).getD j 0).testBit n = true
            · have hmx : ∃ p ∈ ks, k ≤ p.1 ∧ ((Region.before os.toArray).getD j 0).testBit p.1 = true ∧ ∀ q ∈ ks, p.1 < q.1 → ((Region.before os.toArray).getD j 0).testBit q.1 = false := by
                have : ∀ d n, os.length - n ≤ d → (∃ p ∈ ks, p.1 = n ∧ k ≤ n ∧ ((Region.before os.toArray).getD j 0).testBit n = true) → ∃ p ∈ ks, k ≤ p.1 ∧ ((Region.before os.toArray).getD j 0).testBit p.1 = true ∧ ∀ q ∈ ks, p.1 < q.1 → ((Region.before os.toArray).getD j 0).testBit q.1 = false := by
                  intro d
                  induction d with
                  | zero =>
                    rintro n hd ⟨p, hp, rfl, _⟩
                    have := (hkF p hp).1; omega
                  | succ d ihd =>
                    rintro n hd ⟨p, hp, rfl, hkn, hb⟩
                    by_cases hq : ∃ q ∈ ks, p.1 < q.1 ∧ ((Region.before os.toArray).getD j 0).testBit q.1 = true
                    · obtain ⟨q, hq, hlt, hbq⟩ := hq
                      exact ihd q.1 (by omega) ⟨q, hq, rfl, by omega, hbq⟩
                    · refine ⟨p, hp, hkn, hb, fun q hq' hlt => ?_⟩
                      cases hbq : ((Region.before os.toArray).getD j 0).testBit q.1 with
                      | false => rfl
                      | true => exact absurd ⟨q, hq', hlt, hbq⟩ hq
                obtain ⟨n, hn⟩ := hA
                exact this _ n (Nat.le_refl _) hn
              obtain ⟨q, hq, hkq, hbq, hlast⟩ := hmx
              have hqj := before_lt h1 q.1 j hj' hbq
              have hstay : ∀ d m, m + d = q.1 + 1 → k ≤ m → heapsOf H t m = heapsOf H t (q.1 + 1) := by
                intro d
                induction d with
                | zero => intro m e _; rw [show m = q.1 + 1 by omega]
                | succ d ihd =>
                  intro m e hkm
                  rw [← ihd (m + 1) (by omega) (by omega)]
                  refine (hsame m (by omega) ?_).symm
                  cases hmm : (moves os H t).getD m false with
                  | false => rfl
                  | true =>
                    exfalso
                    have hnb : ¬ ((Region.before os.toArray).getD j 0).testBit m = true := fun hb => by have := (hp1 m (by omega) hmm).1 hb; omega
                    by_cases hmq : m = q.1
                    · rw [hmq] at hnb; exact hnb hbq
                    · have hqm := h4 m (by omega)
                      have hquiet : quiet (opsOf os m).op = false := by
                        cases hq : quiet (opsOf os m).op with
                        | false => rfl
                        | true => rw [moves_quiet os H t m hq] at hmm; cases hmm
                      have hmnF : m ∉ F := fun e => by rw [hmvF m (by omega) e] at hmm; cases hmm
                      simp only [Bool.or_eq_true, Bool.and_eq_true, hquiet, Bool.false_eq_true, false_or] at hqm
                      rcases hqm with hqm | ⟨_, hqm⟩
                      · exact hmnF (by simpa using hqm)
                      · have := List.all_eq_true.1 hqm q.1 (List.mem_range.2 (by omega))
                        obtain ⟨g1, g2, g3⟩ := hkF q hq
                        simp only [Bool.or_eq_true, g2, Bool.false_eq_true, false_or] at this
                        rcases this with h' | h' | h'
                        · exact hmq (Nat.eq_of_beq_eq_true h')
                        · have hblt : Nat.blt m q.1 = true := by rw [Nat.blt_eq]; omega
                          rw [inOrder, if_pos hblt] at h'
                          exact hnb (before_trans h1 j hj' hbq h')
                        · exact g3 (by simpa using h')
              rw [hstay (q.1 + 1 - k) k (by omega) (Nat.le_refl _), hkh q hq]
              refine hv2 q hq ⟨?_, fun z hz hlt => ?_⟩
              · cases hb : ((Region.before os.toArray).getD q.1 0).testBit j with
                | false => rfl
                | true => have := before_lt h1 j q.1 (by omega) hb; omega
              · obtain ⟨z', hz', rfl⟩ := List.mem_map.1 hz
                exact hlast z' hz' hlt
            · cases k with
              | zero =>
                refine hv1 fun q hq => ?_
                obtain ⟨p, hp, rfl⟩ := List.mem_map.1 hq
                cases hb : ((Region.before os.toArray).getD j 0).testBit p.1 with
                | false => rfl
                | true => exact absurd ⟨p.1, p, hp, rfl, by omega, hb⟩ hA
              | succ m =>
                have hmm : (moves os H t).getD m false = true := by simpa using hmk
                obtain ⟨p, hp, rfl⟩ := hmvk m (by omega) hmm
                rw [hkh p hp]
                refine hv2 p hp ⟨?_, fun z hz hlt => ?_⟩
                · cases hb : ((Region.before os.toArray).getD p.1 0).testBit j with
                  | false => rfl
                  | true => have := (hp1 p.1 (by omega) hmm).2 hb; omega
                · obtain ⟨z', hz', rfl⟩ := List.mem_map.1 hz
                  cases hb : ((Region.before os.toArray).getD j 0).testBit z'.1 with
                  | false => rfl
                  | true => exact absurd ⟨z'.1, z', hz', rfl, by omega, hb⟩ hA
          rw [key, hst]
          exact hsm

/-! ### run by the kernel -/
abbrev EntM := FuncId × List AV × AHeap × AV × AHeap
/-- a look that was made: where, what, what it told -/
structure Lk where
  j : Nat
  o : Oper
  env : AEnv
  v : AV
  an : An
  ent : Option (FuncId × List AV)
abbrev Key := FuncId × List AV
/-- is the function none of these? -/
def noFn (fs : List Key) (f : FuncId) : Bool := fs.all fun e => !(Nat.beq e.1 f)
/-- no key twice -/
def okKeys : List Key → Bool
  | [] => true
  | e :: r => (r.all fun x => !(Nat.beq x.1 e.1) || !(AV.beqs x.2 e.2)) && okKeys r
variable {T : FuncId → Spec} {fs0 : List Key}
def kbuilt (κ : Kn) (env : AEnv) (H : AHeap) (cl : Call) (an : An) (k : AV → Prop) : Prop :=
  match cl.callee, an with
  | .builtin b, .v x => match b, cl.argTypes.toList, avals env cl.args.toList with
    | .len, t :: _, some [y] => alen κ.c H t y = some x ∧ k x
    | .max, _, some l => aminmax true l = some x ∧ k x
    | .min, _, some l => aminmax false l = some x ∧ k x
    | _, _, _ => False
  | .builtin .len, .a => match cl.argTypes.toList, avals env cl.args.toList with
    | t :: _, some [y] => match alen κ.c H t y with
      | some x => k x
      | none => False
    | _, _ => False
  | .value q, .v x => match aval env q, avals env cl.args.toList with
    | some (.func (.func f) first captured), some args => match hasBody κ.c.P f with
      | false => aext κ.c.P f (first ++ args ++ captured) = some x ∧ k x
      | true => False
    | _, _ => False
  | _, _ => False
theorem kbuilt_sound {cl : Call} {an : An} {k : AV → Prop} (h : kbuilt κ env H cl an k) : ∃ v, k v ∧ aop κ.c env (.call cl) H = some (.val v, H) := by
  unfold kbuilt at h
  split at h
  · split at h
    · exact ⟨_, h.2, by simp only [aop, acallee, abuiltin, *, Option.bind_some, Option.map_some]⟩
    · exact ⟨_, h.2, by simp only [aop, acallee, abuiltin, *, Option.bind_some, Option.map_some]⟩
    · exact ⟨_, h.2, by simp only [aop, acallee, abuiltin, *, Option.bind_some, Option.map_some]⟩
    · exact h.elim
  · split at h
    · split at h
      · exact ⟨_, h, by simp only [aop, acallee, abuiltin, *, Option.bind_some, Option.map_some]⟩
      · exact h.elim
    · exact h.elim
  · split at h
    · split at h
      · exact ⟨_, h.2, by simp only [aop, acallee, *, Option.bind_some, Option.map_some, Bool.false_eq_true, if_false]⟩
      · exact h.elim
    · exact h.elim
  · exact h.elim
/-- a call that leaves the heap -/
def kcalmX (κ : Kn) (T : FuncId → Spec) (fs0 : List Key) (env : AEnv) (H : AHeap) (cl : Call) (an : An) (k : AV → An → Option (FuncId × List AV) → Prop) : Prop :=
  match an with
  | .f x => match acallee κ.c H env cl with
    | some (.call f args, _) => (∀ X, Pt κ f args X x X) ∧ k x (.f x) (some (f, args))
    | _ => False
  | .vh x X => match acallee κ.c H env cl with
    | some (.call f args, _) => match noFn fs0 f with
      | false => False
      | true => callT κ T f args H = some (x, H) ∧ k x (.vh x X) none
    | _ => False
  | an => kbuilt κ env H cl an fun v => k v (.v v) none
/-- the same at another heap -/
def ksame (κ : Kn) (T : FuncId → Spec) (fs0 : List Key) (X : AHeap) (l : Lk) (Q : Prop) : Prop :=
  match l.o.op with
  | .call cl => match l.an with
    | .f _ => match acallee κ.c X l.env cl with
      | some (.call f args, _) => l.ent = some (f, args) ∧ Q
      | _ => False
    | .vh _ _ => match acallee κ.c X l.env cl with
      | some (.call f args, _) => match noFn fs0 f with
        | false => False
        | true => callT κ T f args X = some (l.v, X) ∧ Q
      | _ => False
    | _ => kbuilt κ l.env X cl (.v l.v) fun v => v = l.v ∧ Q
  | op => match quiet op with
    | true => kop κ l.env X false op [.v l.v] fun v _ _ => v = l.v ∧ Q
    | false => False
def kback (κ : Kn) (T : FuncId → Spec) (fs0 : List Key) (b : Array Nat) (j : Nat) (l : Lk) : List (Nat × AHeap) → AHeap → Prop → Prop
  | [], _, Q => Q
  | (i, _) :: rest, H0, Q => match (b.getD j 0).testBit i with
    | true => Q
    | false => ksame κ T fs0 (match rest with | [] => H0 | (_, X) :: _ => X) l (kback κ T fs0 b j l rest H0 Q)
def kpend (κ : Kn) (T : FuncId → Spec) (fs0 : List Key) (b : Array Nat) (i : Nat) (X : AHeap) : List Lk → Prop → Prop
  | [], Q => Q
  | l :: ls, Q => match (b.getD i 0).testBit l.j with
    | true => kpend κ T fs0 b i X ls Q
    | false => ksame κ T fs0 X l (kpend κ T fs0 b i X ls Q)
def kmove (κ : Kn) (env : AEnv) (H : AHeap) (op : Op) (as_ : List An) (fs : List Key) (k : AV → AHeap → List An → List Key → Prop) : Prop :=
  match op with
  | .call cl => match cl.callee with
    | .builtin _ => kop κ env H false (.call cl) as_ fun v H' as' => k v H' as' fs
    | _ => match acallee κ.c H env cl, as_, fs with
      | some (.call f args, _), .vh x H' :: as', f0 :: fs' => match Nat.beq f f0.1 with
        | true => args = f0.2 ∧ Pt κ f args H x H' ∧ k x H' as' fs'
        | false => False
      | _, _, _ => False
  | op => kop κ env H false op as_ fun v H' as' => k v H' as' fs
def kregX (κ : Kn) (T : FuncId → Spec) (fs0 : List Key) (b : Array Nat) (ops : List Oper) (cm : List Nat) (H0 : AHeap) : List Oper → Nat → AEnv → AHeap → List (Nat × AHeap) → List Lk → List Key → List An → (AEnv → AHeap → List Key → Prop) → Prop
  | [], _, env, H, _, _, fs, _, k => k env H fs
  | o :: r, i, env, H, ms, ls, fs, as_, k => match awanted ops env o with
    | some false => match moveI ops cm i with
      | false => kregX κ T fs0 b ops cm H0 r (i + 1) (eput env o.dst (some .undef)) H ms ls fs as_ k
      | true => kpend κ T fs0 b i H ls (kregX κ T fs0 b ops cm H0 r (i + 1) (eput env o.dst (some .undef)) H ((i, H) :: ms) ls fs as_ k)
    | some true => match isP o.op with
      | true => kop κ env H false o.op as_ fun v _ as' => kregX κ T fs0 b ops cm H0 r (i + 1) (eput env o.dst (some v)) H ms ls fs as' k
      | false => match quiet o.op with
        | true => kop κ env H false o.op as_ fun v _ as' => kback κ T fs0 b i ⟨i, o, env, v, .v v, none⟩ ms H0 (kregX κ T fs0 b ops cm H0 r (i + 1) (eput env o.dst (some v)) H ms (⟨i, o, env, v, .v v, none⟩ :: ls) fs as' k)
        | false => match cm.contains i with
          | true => match o.op, as_ with
            | .call cl, an :: as' => kcalmX κ T fs0 env H cl an fun v an' ent => match ent, fs with
              | none, fs => kback κ T fs0 b i ⟨i, o, env, v, an', none⟩ ms H0 (kregX κ T fs0 b ops cm H0 r (i + 1) (eput env o.dst (some v)) H ms (⟨i, o, env, v, an', none⟩ :: ls) fs as' k)
              | some e, f0 :: fs' => match Nat.beq e.1 f0.1 with
                | true => e.2 = f0.2 ∧ kback κ T fs0 b i ⟨i, o, env, v, an', some e⟩ ms H0 (kregX κ T fs0 b ops cm H0 r (i + 1) (eput env o.dst (some v)) H ms (⟨i, o, env, v, an', some e⟩ :: ls) fs' as' k)
                | false => False
              | some _, [] => False
            | _, _ => False
          | false => kmove κ env H o.op as_ fs fun v H' as' fs' => kpend κ T fs0 b i H' ls (kregX κ T fs0 b ops cm H0 r (i + 1) (eput env o.dst (some v)) H' ((i, H') :: ms) ls fs' as' k)
    | none => False

def Knows (κ : Kn) (T : FuncId → Spec) (fs0 : List Key) (call : Callee) (L : List EntM) (Lp : List Ent) : Prop :=
  (∀ e ∈ L, call e.1 e.2.1 e.2.2.1 = some (e.2.2.2.1, e.2.2.2.2)) ∧ (∀ e ∈ Lp, ∀ X, call e.1 e.2.1 X = some (e.2.2, X)) ∧ ∀ f args X r, noFn fs0 f = true → callT κ T f args X = some r → call f args X = some r
theorem Knows.right {call : Callee} {L L' : List EntM} {Lp Lp' : List Ent} (h : Knows κ T fs0 call (L' ++ L) (Lp' ++ Lp)) : Knows κ T fs0 call L Lp :=
  ⟨fun e he => h.1 e (List.mem_append_right _ he), fun e he => h.2.1 e (List.mem_append_right _ he), h.2.2⟩
/-- a look that stands -/
def okL (ops : List Oper) (call : Callee) (l : Lk) : Prop := awanted ops l.env l.o = some true ∧ ∀ e, l.ent = some e → ∀ X, call e.1 e.2 X = some (l.v, X)
def St (κ : Kn) (ops : List Oper) (call : Callee) (l : Lk) (X : AHeap) : Prop := stepV κ.c call ops l.o l.env X = some (some l.v, X)
theorem stp_still {o : Op} {v : AV} {H1 : AHeap} (hq : quiet o = true) (hs : Stp κ false env H o v H1) : H1 = H ∧ aop κ.c env o H = some (.val v, H) := by
  rcases hs with e | ⟨rfl, e⟩ | ⟨e, _⟩
  · obtain ⟨rfl, _⟩ := quiet_same hq e
    exact ⟨rfl, e⟩
  · obtain ⟨_, _, e'⟩ := quiet_same hq e
    cases e'
  · cases e
theorem ksame_sound {ops : List Oper} {X : AHeap} {l : Lk} {Q : Prop} (h : ksame κ T fs0 X l Q) : Q ∧ ∀ call, (∀ f args X r, noFn fs0 f = true → callT κ T f args X = some r → call f args X = some r) → okL ops call l → St κ ops call l X := by
  unfold ksame at h
  split at h
  · rename_i cl hop
    split at h
    · split at h
      · rename_i f args H1 hc
        obtain ⟨he, hq⟩ := h
        refine ⟨hq, fun call hT hok => ?_⟩
        have := acallee_heap hc
        subst this
        have h2 := hok.2 _ he H1
        simp only at h2
        simp only [St, stepV, hok.1, Option.bind_some, if_true, hop, aop, hc, h2]
      · exact h.elim
    · split at h
      · rename_i f args H1 hc
        split at h
        · exact h.elim
        · rename_i hf
          obtain ⟨he, hq⟩ := h
          refine ⟨hq, fun call hT hok => ?_⟩
          have := acallee_heap hc
          subst this
          have h2 := hT f args H1 _ hf he
          simp only [St, stepV, hok.1, Option.bind_some, if_true, hop, aop, hc, h2]
      · exact h.elim
    · obtain ⟨v, ⟨rfl, hq⟩, e⟩ := kbuilt_sound h
      exact ⟨hq, fun call hT hok => by simp only [St, stepV, hok.1, Option.bind_some, if_true, hop, e]⟩
  · split at h
    · rename_i hq
      obtain ⟨v, H1, as', hs, rfl, hQ⟩ := kop_sound h
      obtain ⟨_, e⟩ := stp_still hq hs
      exact ⟨hQ, fun call hT hok => by simp only [St, stepV, hok.1, Option.bind_some, if_true, e]⟩
    · exact h.elim
theorem kback_sound {ops : List Oper} {b : Array Nat} {j : Nat} {l : Lk} {H0 : AHeap} {Q : Prop} : ∀ {ms : List (Nat × AHeap)}, kback κ T fs0 b j l ms H0 Q → Q ∧ ∀ call, (∀ f args X r, noFn fs0 f = true → callT κ T f args X = some r → call f args X = some r) → okL ops call l →
    (∀ pre p post, ms = pre ++ p :: post → pre ≠ [] → (∀ q ∈ pre, (b.getD j 0).testBit q.1 = false) → St κ ops call l p.2) ∧ (ms ≠ [] → (∀ q ∈ ms, (b.getD j 0).testBit q.1 = false) → St κ ops call l H0)
  | [], h => ⟨h, fun call hT hok => ⟨fun pre p post e => by simp at e, fun h => absurd rfl h⟩⟩
  | (i, Y) :: rest, h => by
    simp only [kback] at h
    split at h
    · rename_i hb
      refine ⟨h, fun call hT hok => ⟨fun pre p post e hn hq => ?_, fun _ hq => ?_⟩⟩
      · cases pre with
        | nil => exact absurd rfl hn
        | cons x pre =>
          have e := List.cons.inj e
          have := hq x (by simp)
          rw [← e.1] at this
          simp only at this
          rw [hb] at this; cases this
      · have := hq (i, Y) (by simp)
        simp only at this
        rw [hb] at this; cases this
    · rename_i hb
      obtain ⟨h1, h2⟩ := ksame_sound (ops := ops) h
      obtain ⟨h3, h4⟩ := kback_sound (ops := ops) h1
      refine ⟨h3, fun call hT hok => ⟨fun pre p post e hn hq => ?_, fun _ hq => ?_⟩⟩
      · cases pre with
        | nil => exact absurd rfl hn
        | cons x pre =>
          have e := (List.cons.inj e).2
          cases pre with
          | nil =>
            have h5 := h2 call hT hok
            rw [e] at h5
            exact h5
          | cons y pre => exact (h4 call hT hok).1 (y :: pre) p post e (by simp) fun q hq' => hq q (by simp at hq' ⊢; right; exact hq')
      · cases rest with
        | nil => exact h2 call hT hok
        | cons y rest => exact (h4 call hT hok).2 (by simp) fun q hq' => hq q (by simp at hq' ⊢; right; exact hq')
theorem kpend_sound {ops : List Oper} {b : Array Nat} {i : Nat} {X : AHeap} {Q : Prop} : ∀ {ls : List Lk}, kpend κ T fs0 b i X ls Q → Q ∧ ∀ call, (∀ f args X r, noFn fs0 f = true → callT κ T f args X = some r → call f args X = some r) → ∀ l ∈ ls, okL ops call l → (b.getD i 0).testBit l.j = false → St κ ops call l X
  | [], h => ⟨h, fun call hT l hl => by cases hl⟩
  | l :: ls, h => by
    simp only [kpend] at h
    split at h
    · rename_i hb
      obtain ⟨h1, h2⟩ := kpend_sound (ops := ops) h
      refine ⟨h1, fun call hT l' hl' hok hb' => ?_⟩
      rcases List.mem_cons.1 hl' with rfl | hl'
      · rw [hb] at hb'; cases hb'
      · exact h2 call hT l' hl' hok hb'
    · rename_i hb
      obtain ⟨h1, h2⟩ := ksame_sound (ops := ops) h
      obtain ⟨h3, h4⟩ := kpend_sound (ops := ops) h1
      refine ⟨h3, fun call hT l' hl' hok hb' => ?_⟩
      rcases List.mem_cons.1 hl' with rfl | hl'
      · exact h2 call hT hok
      · exact h4 call hT l' hl' hok hb'

def hd0 (H0 : AHeap) : List (Nat × AHeap) → AHeap
  | [] => H0
  | (_, X) :: _ => X
/-- what a run comes to, for every callee that knows the calls -/
def Rx (κ : Kn) (T : FuncId → Spec) (fs0 : List Key) (b : Array Nat) (ops : List Oper) (cm : List Nat) (H0 : AHeap) (r : List Oper) (i : Nat) (env : AEnv) (H : AHeap) (ms : List (Nat × AHeap)) (ls : List Lk) (fs : List Key) (k : AEnv → AHeap → List Key → Prop) : Prop :=
  ∃ (env' : AEnv) (H' : AHeap) (ks : List (Nat × AHeap)) (L : List EntM) (Lp : List Ent) (fs' FL : List Key), k env' H' fs' ∧ Fr r env env' ∧ (∀ e ∈ L, Pt κ e.1 e.2.1 e.2.2.1 e.2.2.2.1 e.2.2.2.2) ∧ (∀ e ∈ Lp, ∀ X, Pt κ e.1 e.2.1 X e.2.2 X) ∧
    FL ++ fs' = fs ∧ FL.Perm (L.map (fun e => (e.1, e.2.1)) ++ Lp.map (fun e => (e.1, e.2.1))) ∧ ks.map (·.1) = (List.range' i r.length).filter (moveI ops cm) ∧
    ∀ call, Knows κ T fs0 call L Lp →
      asteps κ.c call ops r env H = some (env', H') ∧
      (∀ p ∈ ks, ∃ e, asteps κ.c call ops (r.take (p.1 + 1 - i)) env H = some (e, p.2)) ∧
      (∀ l ∈ ls, okL ops call l → ∀ p ∈ ks, (b.getD p.1 0).testBit l.j = false → St κ ops call l p.2) ∧
      ∀ j, i ≤ j → j < i + r.length → lookI ops cm j = true → ∃ v env1, Fr (ops.drop j) env1 env' ∧
        ((∀ q ∈ ms ++ ks, (b.getD j 0).testBit q.1 = false) → stepV κ.c call ops (opsOf ops j) env1 H0 = some (v, H0)) ∧
        ∀ p ∈ ms ++ ks, (b.getD p.1 0).testBit j = false → (∀ q ∈ ms ++ ks, p.1 < q.1 → (b.getD j 0).testBit q.1 = false) → stepV κ.c call ops (opsOf ops j) env1 p.2 = some (v, p.2)
def KT (κ : Kn) (T : FuncId → Spec) (fs0 : List Key) (call : Callee) : Prop := ∀ f args X r, noFn fs0 f = true → callT κ T f args X = some r → call f args X = some r
/-- one step ahead of a run -/
theorem Rx.cons {b : Array Nat} {ops : List Oper} {cm : List Nat} {H0 : AHeap} {r : List Oper} {o : Oper} {i : Nat} {ms ms1 : List (Nat × AHeap)} {ls ls1 : List Lk} {fs fs1 : List Key} {k : AEnv → AHeap → List Key → Prop} {u : AV} {H1 : AHeap} {La : List EntM} {Lpa : List Ent} {FLa : List Key}
    (hdr : ops.drop i = o :: r) (hH : H = hd0 H0 ms) (hms : ∀ p ∈ ms, p.1 < i) (hpw : ms.Pairwise (fun a b => b.1 < a.1))
    (hst : ∀ call, Knows κ T fs0 call La Lpa → stepV κ.c call ops o env H = some (some u, H1))
    (hm : (moveI ops cm i = true ∧ ms1 = (i, H1) :: ms) ∨ (moveI ops cm i = false ∧ ms1 = ms))
    (hpd : moveI ops cm i = true → ∀ call, KT κ T fs0 call → ∀ l ∈ ls, okL ops call l → (b.getD i 0).testBit l.j = false → St κ ops call l H1)
    (hls : ∀ l ∈ ls, l ∈ ls1)
    (hlk : lookI ops cm i = true → (∀ call X, stepV κ.c call ops o env X = some (some u, X)) ∨ ∃ l ∈ ls1, l.j = i ∧ l.o = o ∧ l.env = env ∧ l.v = u ∧ H1 = H ∧ (∀ call, Knows κ T fs0 call La Lpa → okL ops call l) ∧
      ∀ call, KT κ T fs0 call → okL ops call l → (∀ pre p post, ms = pre ++ p :: post → pre ≠ [] → (∀ q ∈ pre, (b.getD i 0).testBit q.1 = false) → St κ ops call l p.2) ∧ (ms ≠ [] → (∀ q ∈ ms, (b.getD i 0).testBit q.1 = false) → St κ ops call l H0))
    (hL : ∀ e ∈ La, Pt κ e.1 e.2.1 e.2.2.1 e.2.2.2.1 e.2.2.2.2) (hLp : ∀ e ∈ Lpa, ∀ X, Pt κ e.1 e.2.1 X e.2.2 X) (hfs : FLa ++ fs1 = fs) (hFL : FLa.Perm (La.map (fun e => (e.1, e.2.1)) ++ Lpa.map (fun e => (e.1, e.2.1))))
    (h : Rx κ T fs0 b ops cm H0 r (i + 1) (eput env o.dst (some u)) H1 ms1 ls1 fs1 k) : Rx κ T fs0 b ops cm H0 (o :: r) i env H ms ls fs k := by
  obtain ⟨env', H', ks, L, Lp, fs', FL, h1, h2, h3, h4, h5, h6, h7, h8⟩ := h
  have ho : ops[i]? = some o := by
    have := congrArg (fun l => l[0]?) hdr
    simpa using this
  have hop : opsOf ops i = o := by simp [opsOf, List.getD_eq_getElem?_getD, ho]
  have hksi : ∀ p ∈ ks, i + 1 ≤ p.1 := by
    intro p hp
    have : p.1 ∈ (List.range' (i + 1) r.length).filter (moveI ops cm) := by rw [← h7]; exact List.mem_map.2 ⟨p, hp, rfl⟩
    have := (List.mem_range'_1.1 (List.mem_filter.1 this).1).1
    omega
  refine ⟨env', H', if moveI ops cm i then (i, H1) :: ks else ks, La ++ L, Lpa ++ Lp, fs', FLa ++ FL, h1, h2.cons, ?_, ?_, ?_, ?_, ?_, fun call hK => ?_⟩
  · intro e he
    rcases List.mem_append.1 he with he | he
    · exact hL e he
    · exact h3 e he
  · intro e he
    rcases List.mem_append.1 he with he | he
    · exact hLp e he
    · exact h4 e he
  · rw [List.append_assoc, h5, hfs]
  · rw [List.map_append, List.map_append]
    refine (hFL.append h6).trans ?_
    rw [List.append_assoc, List.append_assoc]
    refine List.Perm.append_left _ ?_
    rw [← List.append_assoc, ← List.append_assoc]
    exact List.Perm.append_right _ List.perm_append_comm
  · rw [List.length_cons, List.range'_succ, List.filter_cons]
    split
    · rw [List.map_cons, h7]
    · exact h7
  · have hKa : Knows κ T fs0 call La Lpa := ⟨fun e he => hK.1 e (List.mem_append_left _ he), fun e he => hK.2.1 e (List.mem_append_left _ he), hK.2.2⟩
    obtain ⟨g1, g2, g3, g4⟩ := h8 call hK.right
    have hstep : astep κ.c call ops o env H = some (eput env o.dst (some u), H1) := by rw [astep_stepV, hst call hKa]; rfl
    have hmk : ∀ p, p ∈ ms ++ (if moveI ops cm i then (i, H1) :: ks else ks) ↔ p ∈ ms1 ++ ks := by
      intro p
      rcases hm with ⟨hm, rfl⟩ | ⟨hm, rfl⟩
      · rw [hm, if_pos rfl]; simp only [List.mem_append, List.mem_cons]; constructor; (rintro (h' | h' | h') <;> simp [h']); (rintro ((h' | h') | h') <;> simp [h'])
      · rw [hm]; simp
    refine ⟨by simp only [asteps, hstep, Option.bind_some]; exact g1, fun p hp => ?_, fun l hl hok p hp hb => ?_, fun j hj1 hj2 hlj => ?_⟩
    · have key : ∀ p ∈ ks, ∃ e, asteps κ.c call ops ((o :: r).take (p.1 + 1 - i)) env H = some (e, p.2) := by
        intro p hp
        obtain ⟨e, he⟩ := g2 p hp
        have := hksi p hp
        refine ⟨e, ?_⟩
        rw [show p.1 + 1 - i = (p.1 + 1 - (i + 1)) + 1 by omega, List.take_succ_cons]
        simp only [asteps, hstep, Option.bind_some]
        exact he
      split at hp
      · rcases List.mem_cons.1 hp with rfl | hp
        · refine ⟨eput env o.dst (some u), ?_⟩
          rw [show i + 1 - i = 0 + 1 by omega, List.take_succ_cons]
          simp only [asteps, hstep, Option.bind_some, List.take_zero]
        · exact key p hp
      · exact key p hp
    · split at hp
      · rename_i hmi
        rcases List.mem_cons.1 hp with rfl | hp
        · exact hpd hmi call hK.2.2 l hl hok hb
        · exact g3 l (hls l hl) hok p hp hb
      · exact g3 l (hls l hl) hok p hp hb
    · by_cases hji : j = i
      · subst hji
        refine ⟨some u, env, by rw [hdr]; exact h2.cons, ?_⟩
        rw [hop]
        have hnm : moveI ops cm j = false := by
          simp only [lookI, Bool.and_eq_true] at hlj
          simp only [moveI, hlj.2, Bool.not_true]
        rw [hnm]
        simp only [Bool.false_eq_true, if_false]
        rcases hlk hlj with hun | ⟨l, hl1, rfl, rfl, rfl, rfl, rfl, hok, hbk⟩
        · exact ⟨fun _ => hun call H0, fun p _ _ _ => hun call p.2⟩
        · obtain ⟨b1, b2⟩ := hbk call hK.2.2 (hok call hKa)
          refine ⟨fun hq => ?_, fun p hp hb hq => ?_⟩
          · by_cases hn : ms = []
            · subst hn
              have := hst call hKa
              rw [hH] at this
              exact this
            · exact b2 hn fun q hq' => hq q (List.mem_append_left _ hq')
          · rcases List.mem_append.1 hp with hp | hp
            · obtain ⟨pre, post, e⟩ := List.append_of_mem hp
              by_cases hn : pre = []
              · subst hn
                have := hst call hKa
                rw [hH, e] at this
                exact this
              · refine b1 pre p post e hn fun q hq' => hq q (List.mem_append_left _ (by rw [e]; exact List.mem_append_left _ hq')) ?_
                rw [e] at hpw
                exact (List.pairwise_append.1 hpw).2.2 q hq' p (by simp)
            · exact g3 l hl1 (hok call hKa) p hp hb
      · obtain ⟨v, env1, c1, c2, c3⟩ := g4 j (by omega) (by simp at hj2; omega) hlj
        refine ⟨v, env1, c1, fun hq => c2 fun q hq' => hq q ((hmk q).2 hq'), fun p hp hb hq => c3 p ((hmk p).1 hp) hb fun q hq' hlt => hq q ((hmk q).2 hq') hlt⟩

theorem kregX_sound {b : Array Nat} {ops : List Oper} {cm : List Nat} {H0 : AHeap} {k : AEnv → AHeap → List Key → Prop} : ∀ (r : List Oper) (i : Nat) {env : AEnv} {H : AHeap} {ms : List (Nat × AHeap)} {ls : List Lk} {fs : List Key} {as_ : List An}, ops.drop i = r → H = hd0 H0 ms → (∀ p ∈ ms, p.1 < i) → ms.Pairwise (fun a b => b.1 < a.1) →
    kregX κ T fs0 b ops cm H0 r i env H ms ls fs as_ k → Rx κ T fs0 b ops cm H0 r i env H ms ls fs k
  | [], i, env, H, ms, ls, fs, as_, hdr, hH, hms, hpw, h => ⟨env, H, [], [], [], fs, [], h, Fr.nil, by simp, by simp, rfl, .nil, rfl, fun call _ => ⟨rfl, by simp, by simp, fun j h1 h2 => by simp at h2; omega⟩⟩
  | o :: r, i, env, H, ms, ls, fs, as_, hdr, hH, hms, hpw, h => by
    have ho : ops[i]? = some o := by
      have := congrArg (fun l => l[0]?) hdr
      simpa using this
    have hdr' : ops.drop (i + 1) = r := by rw [← List.drop_drop, hdr]; rfl
    have hop : opsOf ops i = o := by simp [opsOf, List.getD_eq_getElem?_getD, ho]
    have hms' : ∀ p ∈ ms, p.1 < i + 1 := fun p hp => by have := hms p hp; omega
    have hmc : ∀ X : AHeap, (∀ p ∈ (i, X) :: ms, p.1 < i + 1) ∧ ((i, X) :: ms).Pairwise (fun a b => b.1 < a.1) := fun X =>
      ⟨fun p hp => by
        rcases List.mem_cons.1 hp with rfl | hp
        · simp
        · exact hms' p hp, List.pairwise_cons.2 ⟨fun p hp => hms p hp, hpw⟩⟩
    simp only [kregX] at h
    split at h
    · rename_i hw
      have hun : ∀ call X, stepV κ.c call ops o env X = some (some .undef, X) := fun call X => by simp only [stepV, hw, Option.bind_some, Bool.false_eq_true, if_false]
      split at h
      · rename_i hm
        exact Rx.cons (La := []) (Lpa := []) (FLa := []) hdr hH hms hpw (fun call _ => hun call H) (.inr ⟨hm, rfl⟩) (fun hm' => by rw [hm] at hm'; cases hm') (fun l hl => hl) (fun _ => .inl hun) (by simp) (by simp) rfl .nil
          (kregX_sound r (i + 1) hdr' hH hms' hpw h)
      · rename_i hm
        obtain ⟨h1, h2⟩ := kpend_sound (ops := ops) h
        exact Rx.cons (La := []) (Lpa := []) (FLa := []) hdr hH hms hpw (fun call _ => hun call H) (.inl ⟨hm, rfl⟩) (fun _ call hT l hl hok hb => h2 call hT l hl hok hb) (fun l hl => hl) (fun _ => .inl hun) (by simp) (by simp) rfl .nil
          (kregX_sound r (i + 1) hdr' rfl (hmc H).1 (hmc H).2 h1)
    · rename_i hw
      have val : ∀ {call : Callee} {v : AV} {H1 : AHeap}, Stp κ false env H o.op v H1 → stepV κ.c call ops o env H = some (some v, H1) := by
        intro call v H1 hs
        rcases hs with e | ⟨rfl, e⟩ | ⟨e, _⟩
        · simp only [stepV, hw, Option.bind_some, if_true, e]
        · simp only [stepV, hw, Option.bind_some, if_true, e]
        · cases e
      split at h
      · -- a plain value
        rename_i hp
        obtain ⟨v, H1, as', hs, h⟩ := kop_sound h
        have hq := isP_quiet hp
        obtain ⟨rfl, e⟩ := stp_still hq hs
        have hmi : moveI ops cm i = false := by simp [moveI, hop, hq]
        have hli : lookI ops cm i = false := by simp [lookI, hop, hp]
        exact Rx.cons (La := []) (Lpa := []) (FLa := []) hdr hH hms hpw (fun call _ => val hs) (.inr ⟨hmi, rfl⟩) (fun hm' => by rw [hmi] at hm'; cases hm') (fun l hl => hl) (fun hl => by rw [hli] at hl; cases hl) (by simp) (by simp) rfl .nil
          (kregX_sound r (i + 1) hdr' hH hms' hpw h)
      · rename_i hp
        split at h
        · -- a look
          rename_i hq
          obtain ⟨v, H1, as', hs, h⟩ := kop_sound h
          obtain ⟨rfl, e⟩ := stp_still hq hs
          obtain ⟨h1, h2⟩ := kback_sound (ops := ops) h
          have hmi : moveI ops cm i = false := by simp [moveI, hop, hq]
          exact Rx.cons (La := []) (Lpa := []) (FLa := []) hdr hH hms hpw (fun call _ => val hs) (.inr ⟨hmi, rfl⟩) (fun hm' => by rw [hmi] at hm'; cases hm') (fun l hl => List.mem_cons_of_mem _ hl)
            (fun _ => .inr ⟨_, List.mem_cons_self .., rfl, rfl, rfl, rfl, rfl, fun call _ => ⟨hw, fun e he => by cases he⟩, fun call hT hok => h2 call hT hok⟩) (by simp) (by simp) rfl .nil
            (kregX_sound r (i + 1) hdr' hH hms' hpw h1)
        · rename_i hq
          split at h
          · -- a call that leaves the heap
            rename_i hcm
            have hmi : moveI ops cm i = false := by simp only [moveI, hcm, Bool.or_true, Bool.not_true]
            split at h
            · rename_i cl an as' hcl
              -- by the kind of answer
              unfold kcalmX at h
              split at h
              · -- a function that tells the same at every heap
                rename_i x
                split at h
                · rename_i f args H1 hc
                  have := acallee_heap hc
                  subst this
                  obtain ⟨hpt, h⟩ := h
                  split at h
                  · rename_i e; cases e
                  · rename_i e f0 fs' he
                    split at h
                    · rename_i hb
                      cases he
                      have hb := Nat.eq_of_beq_eq_true hb
                      simp only at hb
                      obtain ⟨hb2, h⟩ := h
                      simp only at hb2
                      obtain ⟨g0, b0⟩ := f0
                      simp only at hb hb2
                      subst hb hb2
                      obtain ⟨h1, h2⟩ := kback_sound (ops := ops) h
                      have hk1 : ∀ call, Knows κ T fs0 call [] [(f, args, x)] → ∀ X, call f args X = some (x, X) := fun call hK X => hK.2.1 (f, args, x) (by simp) X
                      refine Rx.cons (La := []) (Lpa := [(f, args, x)]) (FLa := [(f, args)]) (H1 := H1) (u := x) hdr hH hms hpw (fun call hK => ?_) (.inr ⟨hmi, rfl⟩) (fun hm' => by rw [hmi] at hm'; cases hm') (fun l hl => List.mem_cons_of_mem _ hl)
                        (fun _ => .inr ⟨_, List.mem_cons_self .., rfl, rfl, rfl, rfl, rfl, fun call hK => ⟨hw, fun e he X => ?_⟩, fun call hT hok => h2 call hT hok⟩) (by simp) (fun e he X => ?_) rfl (.refl _)
                        (kregX_sound r (i + 1) hdr' hH hms' hpw h1)
                      · have := hk1 call hK H1
                        simp only [stepV, hw, Option.bind_some, if_true, hcl, aop, hc, this]
                      · cases he; exact hk1 call hK X
                      · have he := List.mem_singleton.1 he
                        subst he; exact hpt X
                    · exact h.elim
                  · exact h.elim
                · exact h.elim
              · split at h
                · rename_i x X _ f args H1 hc
                  split at h
                  · exact h.elim
                  · rename_i hf
                    have := acallee_heap hc
                    subst this
                    obtain ⟨hT0, h⟩ := h
                    simp only at h
                    obtain ⟨h1, h2⟩ := kback_sound (ops := ops) h
                    refine Rx.cons (La := []) (Lpa := []) (FLa := []) (H1 := H1) (u := x) hdr hH hms hpw (fun call hK => ?_) (.inr ⟨hmi, rfl⟩) (fun hm' => by rw [hmi] at hm'; cases hm') (fun l hl => List.mem_cons_of_mem _ hl)
                      (fun _ => .inr ⟨_, List.mem_cons_self .., rfl, rfl, rfl, rfl, rfl, fun call hK => ⟨hw, fun e he X => by cases he⟩, fun call hT hok => h2 call hT hok⟩) (by simp) (by simp) rfl .nil
                      (kregX_sound r (i + 1) hdr' hH hms' hpw h1)
                    have := hK.2.2 f args H1 _ hf hT0
                    simp only [stepV, hw, Option.bind_some, if_true, hcl, aop, hc, this]
                · exact h.elim
              · obtain ⟨v, h, e⟩ := kbuilt_sound h
                simp only at h
                obtain ⟨h1, h2⟩ := kback_sound (ops := ops) h
                exact Rx.cons (La := []) (Lpa := []) (FLa := []) (H1 := H) (u := v) hdr hH hms hpw (fun call hK => by simp only [stepV, hw, Option.bind_some, if_true, hcl, e]) (.inr ⟨hmi, rfl⟩) (fun hm' => by rw [hmi] at hm'; cases hm') (fun l hl => List.mem_cons_of_mem _ hl)
                  (fun _ => .inr ⟨_, List.mem_cons_self .., rfl, rfl, rfl, rfl, rfl, fun call hK => ⟨hw, fun e he X => by cases he⟩, fun call hT hok => h2 call hT hok⟩) (by simp) (by simp) rfl .nil
                  (kregX_sound r (i + 1) hdr' hH hms' hpw h1)
            · exact h.elim
          · -- one that moves
            rename_i hcm
            have hmi : moveI ops cm i = true := by simp only [moveI, hop, hq, hcm, Bool.or_self, Bool.not_false]
            have hli : lookI ops cm i = false := by simp only [lookI, hop, hq, hcm, Bool.or_self, Bool.and_false]
            have one : ∀ {as_ : List An} {fs1 : List Key}, (kop κ env H false o.op as_ fun v H' as' => kpend κ T fs0 b i H' ls (kregX κ T fs0 b ops cm H0 r (i + 1) (eput env o.dst (some v)) H' ((i, H') :: ms) ls fs as' k)) → Rx κ T fs0 b ops cm H0 (o :: r) i env H ms ls fs k := by
              intro as_ fs1 h
              obtain ⟨v, H1, as', hs, h⟩ := kop_sound h
              obtain ⟨h1, h2⟩ := kpend_sound (ops := ops) h
              exact Rx.cons (La := []) (Lpa := []) (FLa := []) hdr hH hms hpw (fun call _ => val hs) (.inl ⟨hmi, rfl⟩) (fun _ call hT l hl hok hb => h2 call hT l hl hok hb) (fun l hl => hl) (fun hl => by rw [hli] at hl; cases hl) (by simp) (by simp) rfl .nil
                (kregX_sound r (i + 1) hdr' rfl (hmc H1).1 (hmc H1).2 h1)
            unfold kmove at h
            split at h
            · rename_i cl hcl
              split at h
              · rw [hcl] at one
                exact one (fs1 := []) h
              · split at h
                · rename_i f args H1 x H' as' f0 fs' hc
                  split at h
                  · rename_i hb
                    have hb := Nat.eq_of_beq_eq_true hb
                    have := acallee_heap hc
                    subst this
                    obtain ⟨hb2, hpt, h⟩ := h
                    obtain ⟨g0, b0⟩ := f0
                    simp only at hb hb2
                    subst hb hb2
                    obtain ⟨h1, h2⟩ := kpend_sound (ops := ops) h
                    refine Rx.cons (La := [(f, args, H1, x, H')]) (Lpa := []) (FLa := [(f, args)]) (H1 := H') (u := x) hdr hH hms hpw (fun call hK => ?_) (.inl ⟨hmi, rfl⟩) (fun _ call hT l hl hok hb => h2 call hT l hl hok hb) (fun l hl => hl) (fun hl => by rw [hli] at hl; cases hl) (fun e he => ?_) (by simp) rfl (.refl _)
                      (kregX_sound r (i + 1) hdr' rfl (hmc H').1 (hmc H').2 h1)
                    · have := hK.1 (f, args, H1, x, H') (by simp)
                      simp only at this
                      simp only [stepV, hw, Option.bind_some, if_true, hcl, aop, hc, this]
                    · have he := List.mem_singleton.1 he
                      subst he; exact hpt
                  · exact h.elim
                · exact h.elim
            · exact one (fs1 := []) h
    · exact h.elim

def lookL (ops : List Oper) (cm : List Nat) : List Nat := (List.range ops.length).filter (lookI ops cm)
def moveL (ops : List Oper) (cm : List Nat) : List Nat := (List.range ops.length).filter (moveI ops cm)
def kgoX (κ : Kn) (T : FuncId → Spec) (ops : List Oper) (n : Nat) (l new : List (Nat × AV)) (H H' : AHeap) (fs : List Key) (cm : List Nat) (as_ : List An) : Prop :=
  match rowOk ops (lookL ops cm) (moveL ops cm) && (Nat.ble n 524288 && okKeys fs) with
  | true => kregX κ T fs (Region.before ops.toArray) ops cm H ops 0 (E n l) H [] [] fs as_ fun env1 H1 fs1 => (keysOk new l ops && fs1.isEmpty, new.map (fun p => eget env1 p.1), H1) = (true, new.map (fun p => some p.2), H')
  | false => False
variable {new : List (Nat × AV)} {H' : AHeap} {P : Prop}
def Fx.z {p : Prop} (h : p) (r : Fx new H' P) : Fx new H' (p ∧ P) := ⟨r.ans, h, r.pf⟩
/-- a call that leaves each heap as it is -/
def Fx.g {κ : Kn} {f : FuncId} {args : List AV} {x : AV} (h : ∀ X, Pt κ f args X x X) (r : Fx new H' P) : Fx new H' ((∀ X, Pt κ f args X x X) ∧ P) := ⟨.f x :: r.ans, h, r.pf⟩
theorem okKeys_nodup : ∀ {fs : List Key}, okKeys fs = true → fs.Nodup
  | [], _ => List.nodup_nil
  | e :: r, h => by
    simp only [okKeys, Bool.and_eq_true, List.all_eq_true] at h
    refine List.nodup_cons.2 ⟨fun hm => ?_, okKeys_nodup h.2⟩
    have := h.1 e hm
    rw [AV.beqs_refl] at this
    simp at this
theorem D.kx {id n : Nat} {l : List (Nat × AV)} {ops : Array Oper} (T : FuncId → Spec) (fs : List Key) (cm : List Nat) (F : Fx new H' P) (e : kgoX κ T ops.toList n l new H H' fs cm F.ans = P) (k : K .normal (E n (new ++ l)) H') : D κ (.region id ops true) (E n l) H K := by
  have h : kgoX κ T ops.toList n l new H H' fs cm F.ans := by rw [e]; exact F.pf
  unfold kgoX at h
  split at h
  · rename_i hb
    rw [Bool.and_eq_true, Bool.and_eq_true (Nat.ble _ _)] at hb
    obtain ⟨hrow, hn, hd⟩ := hb
    have hn := Nat.le_of_ble_eq_true hn
    have hd := okKeys_nodup hd
    obtain ⟨env1, H1, ks, L, Lp, fs1, FL, h1, hf, hL, hLp, hfl, hpm, hks, ho⟩ := kregX_sound (H0 := H) ops.toList 0 rfl rfl (by simp) .nil h
    simp only [Prod.mk.injEq, Bool.and_eq_true] at h1
    obtain ⟨⟨hk, hemp⟩, hv, rfl⟩ := h1
    have hle := kept hn hf hk hv
    have hemp : fs1 = [] := by cases fs1 with
      | nil => rfl
      | cons a l => simp at hemp
    subst hemp
    rw [List.append_nil] at hfl
    subst hfl
    have hnd : (L.map (fun e => (e.1, e.2.1)) ++ Lp.map (fun e => (e.1, e.2.1))).Nodup := hpm.nodup_iff.1 hd
    have hmem : ∀ f, noFn FL f = true → (∀ e ∈ L, e.1 ≠ f) ∧ ∀ e ∈ Lp, e.1 ≠ f := by
      intro f hf
      have hnf : ∀ k ∈ FL, k.1 ≠ f := fun k hk h => by
        have := List.all_eq_true.1 hf k hk
        rw [h] at this
        simp at this
      exact ⟨fun e he h => hnf (e.1, e.2.1) (hpm.mem_iff.2 (List.mem_append_left _ (List.mem_map.2 ⟨e, he, rfl⟩))) h, fun e he h => hnf (e.1, e.2.1) (hpm.mem_iff.2 (List.mem_append_right _ (List.mem_map.2 ⟨e, he, rfl⟩))) h⟩
    obtain ⟨nd1, nd2, nd3⟩ := List.nodup_append.1 hnd
    classical
    obtain ⟨call, hcall⟩ : ∃ call : Callee, call = fun f args X => match L.find? (fun e => decide (e.1 = f ∧ e.2.1 = args)) with
      | some e => if e.2.2.1 = X then some (e.2.2.2.1, e.2.2.2.2) else none
      | none => match Lp.find? (fun e => decide (e.1 = f ∧ e.2.1 = args)) with
        | some e => some (e.2.2, X)
        | none => callT κ T f args X := ⟨_, rfl⟩
    have hc : CallOK κ.c κ.base κ.w0 call := by
      intro f args X v H2 e
      rw [hcall] at e
      dsimp only at e
      split at e
      · rename_i e1 he
        have hb := List.find?_some he
        have hm := List.mem_of_find?_eq_some he
        have hb := of_decide_eq_true hb
        split at e
        · rename_i hh
          cases e
          obtain ⟨rfl, rfl⟩ := hb
          subst hh
          exact hL e1 hm
        · cases e
      · split at e
        · rename_i e1 he
          have hb := List.find?_some he
          have hm := List.mem_of_find?_eq_some he
          have hb := of_decide_eq_true hb
          cases e
          obtain ⟨rfl, rfl⟩ := hb
          exact hLp e1 hm X
        · exact callT_ok T _ _ _ _ _ e
    have hK : Knows κ T FL call L Lp := by
      refine ⟨fun e he => ?_, fun e he X => ?_, fun f args X r hf hr => ?_⟩
      · have : L.find? (fun x => decide (x.1 = e.1 ∧ x.2.1 = e.2.1)) = some e := by
          cases hq : L.find? (fun x => decide (x.1 = e.1 ∧ x.2.1 = e.2.1)) with
          | none => exact absurd (List.find?_eq_none.1 hq e he) (by simp)
          | some e2 =>
            have hb := List.find?_some hq
            have hb := of_decide_eq_true hb
            obtain ⟨i, hi, rfl⟩ := List.getElem_of_mem he
            obtain ⟨j, hj, rfl⟩ := List.getElem_of_mem (List.mem_of_find?_eq_some hq)
            have := (List.getElem_inj (i := j) (j := i) (h₀ := by simpa using hj) (h₁ := by simpa using hi) nd1).1 (by simpa using hb)
            subst this; rfl
        rw [hcall]
        simp only [this, if_true]
      · have hn1 : L.find? (fun x => decide (x.1 = e.1 ∧ x.2.1 = e.2.1)) = none := by
          rw [List.find?_eq_none]
          intro x hx
          simp only [decide_eq_true_eq]
          exact fun hq => nd3 (x.1, x.2.1) (List.mem_map.2 ⟨x, hx, rfl⟩) (e.1, e.2.1) (List.mem_map.2 ⟨e, he, rfl⟩) (by rw [hq.1, hq.2])
        have : Lp.find? (fun x => decide (x.1 = e.1 ∧ x.2.1 = e.2.1)) = some e := by
          cases hq : Lp.find? (fun x => decide (x.1 = e.1 ∧ x.2.1 = e.2.1)) with
          | none => exact absurd (List.find?_eq_none.1 hq e he) (by simp)
          | some e2 =>
            have hb := List.find?_some hq
            have hb := of_decide_eq_true hb
            obtain ⟨i, hi, rfl⟩ := List.getElem_of_mem he
            obtain ⟨j, hj, rfl⟩ := List.getElem_of_mem (List.mem_of_find?_eq_some hq)
            have := (List.getElem_inj (i := j) (j := i) (h₀ := by simpa using hj) (h₁ := by simpa using hi) nd2).1 (by simpa using hb)
            subst this; rfl
        rw [hcall]
        simp only [hn1, this]
      · obtain ⟨m1, m2⟩ := hmem f hf
        have hn1 : L.find? (fun x => decide (x.1 = f ∧ x.2.1 = args)) = none := by
          rw [List.find?_eq_none]
          intro x hx
          simp only [decide_eq_true_eq]
          exact fun hq => m1 x hx hq.1
        have hn2 : Lp.find? (fun x => decide (x.1 = f ∧ x.2.1 = args)) = none := by
          rw [List.find?_eq_none]
          intro x hx
          simp only [decide_eq_true_eq]
          exact fun hq => m2 x hx hq.1
        rw [hcall]
        simp only [hn1, hn2]
        exact hr
    obtain ⟨g1, g2, _, g4⟩ := ho call hK
    rw [← List.range_eq_range'] at hks
    have hfix : ∀ j ∈ lookL ops.toList cm, fixJ ops.toList j = true := by
      simp only [rowOk, Bool.and_eq_true, List.all_eq_true] at hrow
      exact hrow.2.2.1
    obtain ⟨e', env2, H2, hk2, hw2⟩ := D.rowG (κ := κ) (id := id) (K := fun e env2 H2 => e = .normal ∧ env2 = env1 ∧ H2 = H1) hc (lookL ops.toList cm) ks (by rw [hks]; exact hrow) (fun p hp => by
        have hm : p.1 ∈ (List.range ops.toList.length).filter (moveI ops.toList cm) := by rw [← hks]; exact List.mem_map.2 ⟨p, hp, rfl⟩
        obtain ⟨hm1, hm2⟩ := List.mem_filter.1 hm
        refine ⟨List.mem_range.1 hm1, ?_, fun hl => ?_⟩
        · cases hq : isP (opsOf ops.toList p.1).op with
          | false => rfl
          | true => simp [moveI, isP_quiet hq] at hm2
        · have hl := (List.mem_filter.1 hl).2
          simp only [lookI, Bool.and_eq_true] at hl
          simp only [moveI, hl.2, Bool.not_true, Bool.false_eq_true] at hm2) g1 (fun p hp => by have := g2 p hp; simpa using this) (fun j hj => by
        obtain ⟨hj1, hj2⟩ := List.mem_filter.1 hj
        have hj1 := List.mem_range.1 hj1
        obtain ⟨v, env2, hfr, c1, c2⟩ := g4 j (by omega) (by omega) hj2
        have hr : ∀ a ∈ (opsOf ops.toList j).looksAt ops.toList.toArray, eget env1 a = eget env2 a := by
          intro a ha
          refine hfr.2 a fun o ho hd => ?_
          obtain ⟨m, hm, rfl⟩ := List.getElem_of_mem ho
          rw [List.getElem_drop] at hd
          rw [List.length_drop] at hm
          have := List.all_eq_true.1 (List.all_eq_true.1 (hfix j hj) a ha) (j + m) (List.mem_range.2 (by omega))
          rw [Bool.or_eq_true] at this
          rcases this with h' | h'
          · rw [Nat.blt_eq] at h'; omega
          · rw [opsOf, List.getD_eq_getElem?_getD, List.getElem?_eq_getElem (by omega)] at h'
            simp only [Option.getD_some] at h'
            rw [hd] at h'
            simp at h'
        have hsame : ∀ X, stepV κ.c call ops.toList (opsOf ops.toList j) env1 X = stepV κ.c call ops.toList (opsOf ops.toList j) env2 X := fun X => by
          simp only [stepV, awanted_reads hr, aop_congr (aval_reads hr)]
        refine ⟨v, fun hm => ?_, fun p hp hm => ?_⟩
        · rw [hsame]
          exact c1 fun q hq => hm q.1 (List.mem_map.2 ⟨q, by simpa using hq, rfl⟩)
        · rw [hsame]
          exact c2 p (by simpa using hp) hm.1 fun q hq hlt => hm.2 q.1 (List.mem_map.2 ⟨q, by simpa using hq, rfl⟩) hlt) ⟨rfl, rfl, rfl⟩
    obtain ⟨rfl, rfl, rfl⟩ := hk2
    refine ⟨.normal, _, _, k, fun ρ w a hr hfr hen => wp_mono (hw2 ρ w a hr hfr hen) ?_⟩
    rintro x a' w' ⟨hx, hd, ρ', hp, he'⟩
    exact ⟨hx, hd, ρ', hp, he'.less hle⟩
  · exact h.elim
theorem D.kxs {id n : Nat} {l : List (Nat × AV)} {ops : Array Oper} {b : Code} (T : FuncId → Spec) (fs : List Key) (cm : List Nat) (F : Fx new H' P) (e : kgoX κ T ops.toList n l new H H' fs cm F.ans = P) (k : D κ b (E n (new ++ l)) H' K) : D κ (.region id ops true) (E n l) H (Ks κ b K) := D.kx T fs cm F e k
end Go.AM

/-
  ONE CELL OF A ROW, in the model's own words (own work): what it holds, and what a store into it comes to.
-/
namespace Go.AM
open Go.RowKit
set_option linter.unusedSimpArgs false
set_option linter.unusedVariables false
theorem cell_at {c : Ctx} {base : Nat} {w0 w : World} {ρ : Pl} {H : AHeap} (h : Rel c base w0 ρ H w) {i : Nat} {ty : TypeId} {esz : Nat} {cs : List AV} (e : hat H i = some (.row ty esz cs)) {k : Nat} {v : AV} (hv : cs[k]? = some v) {p : Place} (hp : ρ (.own i) = some p) :
    ∃ x, w.cell? ⟨p.b, p.off + k, none⟩ = some x ∧ VR ρ v x ∧ w.frozen? ⟨p.b, p.off + k, none⟩ = false := by
  obtain ⟨q, hq, ⟨ds, g1, g2, g3, g4⟩, hb⟩ := h.own i _ e
  obtain rfl : p = q := by rw [hp] at hq; exact Option.some.inj hq
  obtain ⟨x, hx, hxv, _⟩ := g4 k v hv
  refine ⟨x, ?_, hxv, ?_⟩
  · simp only [World.cell?, g1, Option.isSome_none, Bool.false_eq_true, if_false]
    exact hx
  · simp only [World.frozen?, g1]
    simp
theorem post_cell {c : Ctx} {base : Nat} {w0 w : World} {ρ : Pl} {H : AHeap} (h : Rel c base w0 ρ H w) {i : Nat} {ty : TypeId} {esz : Nat} {cs : List AV} (e : hat H i = some (.row ty esz cs)) {k : Nat} {v : AV} {x : Value} (hk : k < cs.length) (hv : VR ρ v x) (h1 : v.one = true) {p : Place} (hp : ρ (.own i) = some p) :
    Post c base w0 ρ H w ρ (H.set i (some (.row ty esz (cs.set k v)))) (w.setCell ⟨p.b, p.off + k, none⟩ x) := by
  obtain ⟨q, hq, ⟨ds, g1, g2, g3, g4⟩, hb⟩ := h.own i _ e
  obtain rfl : p = q := by rw [hp] at hq; exact Option.some.inj hq
  have hpb := rel_lt h e hp rfl
  have ho : ∀ j, j ≠ p.b → (w.setCell ⟨p.b, p.off + k, none⟩ x).heap[j]? = w.heap[j]? := fun j hj => by
    unfold World.setCell
    simp only
    rw [Array.getElem?_modify, if_neg (fun e => hj e.symm)]
  have hs : (w.setCell ⟨p.b, p.off + k, none⟩ x).heap[p.b]? = some (.cells (ds.setIfInBounds (p.off + k) x) ty (0, 0)) := by
    unfold World.setCell
    simp only
    rw [Array.getElem?_modify, if_pos rfl, g1]
    rfl
  refine post_set h e rfl hp rfl rfl rfl (by unfold World.setCell; simp) (fun j hj => ho j hj) ?_
  · refine ⟨ds.setIfInBounds (p.off + k) x, hs, by simpa using g2, by simpa using g3, fun j u hu => ?_⟩
    · by_cases hj : j = k
      · subst hj
        rw [List.getElem?_set_self hk] at hu
        cases hu
        refine ⟨x, ?_, hv, h1⟩
        obtain ⟨y, hy, _⟩ := g4 j cs[j] (List.getElem?_eq_getElem hk)
        have := (Array.getElem?_eq_some_iff.1 hy).1
        simp [this]
      · rw [List.getElem?_set_ne (by omega)] at hu
        obtain ⟨y, hy, hv2, h2⟩ := g4 j u hu
        refine ⟨y, ?_, hv2, h2⟩
        rw [Array.getElem?_setIfInBounds_ne (by omega)]
        exact hy
end Go.AM
