/-
  REGIONS THAT DRAW THEIR ORDER, the general check (own work): each set of those operations that may have been run is tried; new things bear the number that the text's order gives them.
-/
import Derived.Test.YtecfofmndpgnjaaAmMix
namespace Go.AM
open Go.RowKit
set_option linter.unusedSimpArgs false

variable {c : Ctx} {base : Nat} {w0 w : World} {ρ : Pl} {H : AHeap}

theorem post_part2 {V V' A A' : AHeap} {m : Nat} {ρ0 ρ' : Pl} {w1 w' : World} (hm : H.length ≤ m) (hp0 : Post c base w0 ρ0 H w ρ A w1) (hV : ∀ i, i < m → hat V i = hat A i) (hlen : V.length = m)
    (hp : Post c base w0 (cut m ρ) V w1 ρ' V' w') (hnone : ∀ i, m ≤ i → i < V'.length → ρ (.own i) = none)
    (hA : ∀ i o, hat A' i = some o ↔ (i < V'.length ∧ hat V' i = some o) ∨ (V'.length ≤ i ∧ hat A i = some o)) (hAl : A.length ≤ A'.length) (hVl : V'.length ≤ A'.length) :
    Post c base w0 ρ0 H w (joinP m V'.length ρ ρ') A' w' ∧ Ext ρ (joinP m V'.length ρ ρ') ∧ Ext ρ' (joinP m V'.length ρ ρ') := by
  have h := hp0.rel
  have hVm : m ≤ V'.length := hlen ▸ hp.len
  have he : Ext ρ (joinP m V'.length ρ ρ') := by
    intro l p e
    cases l with
    | own i =>
      simp only [joinP]
      split
      · rename_i hi; rw [hnone i hi.1 hi.2] at e; cases e
      · exact e
    | ext _ => exact e
  have he' : Ext ρ' (joinP m V'.length ρ ρ') := by
    intro l p e
    rcases hp.new l p e with e1 | ⟨i, rfl, h1, h2⟩
    · obtain ⟨e2, hl⟩ := cut_some e1
      exact he l p e2
    · simp only [joinP]
      rw [if_pos ⟨by omega, h2⟩]; exact e
  have hsub : ∀ {i o}, hat V i = some o → hat A i = some o := fun e => by
    rw [← hV _ (hlen ▸ hat_lt e)]; exact e
  -- what the step has seen
  have hin : ∀ {i o}, hat V' i = some o → ∃ p, ρ' (.own i) = some p ∧ joinP m V'.length ρ ρ' (.own i) = some p ∧ ObjR (joinP m V'.length ρ ρ') p w'.heap o ∧ (o.solid = true → base ≤ p.b) := by
    intro i o e
    obtain ⟨p, h1, h2, h3⟩ := hp.rel.own i o e
    exact ⟨p, h1, he' _ _ h1, h2.mono he' (fun _ => rfl), h3⟩
  -- what it has not
  have hout : ∀ {i o}, V'.length ≤ i → hat A i = some o → ∃ p, ρ (.own i) = some p ∧ ObjR (joinP m V'.length ρ ρ') p w'.heap o ∧ (o.solid = true → base ≤ p.b) := by
    intro i o hi e
    obtain ⟨p, hpi, ho, hs⟩ := h.own i o e
    refine ⟨p, hpi, ho.mono he (fun s => ?_), hs⟩
    refine hp.frame p.b (rel_lt h e hpi s) fun j o2 q e2 s2 r2 hqb => ?_
    have := h.inj j i o2 o q p (hsub e2) e s2 s (cut_some r2).1 hpi hqb
    have := hat_lt e2
    omega
  have hapart : ∀ {i o p j o' q}, hat V' i = some o → o.solid = true → ρ' (.own i) = some p → V'.length ≤ j → hat A j = some o' → o'.solid = true → ρ (.own j) = some q → p.b ≠ q.b := by
    intro i o p j o' q e s r hj e' s' r' hpq
    rcases hp.place i o p e s r with hge | ⟨k, o2, q2, e2, s2, r2, hq⟩
    · have := rel_lt h e' r' s'; omega
    · have := h.inj k j o2 o' q2 q (hsub e2) e' s2 s' (cut_some r2).1 r' (hq.trans hpq)
      have := hat_lt e2
      omega
  refine ⟨⟨⟨hp.rel.below, hp.rel.size, ?_, ?_, ?_, ?_⟩, hp0.ext.trans he, ?_, Nat.le_trans hp0.len hAl, Nat.le_trans hp0.size hp.size, ?_, ?_⟩, he, he'⟩
  · intro i o e
    rcases (hA i o).1 e with ⟨_, e1⟩ | ⟨hi, e1⟩
    · obtain ⟨p, _, h1, h2, h3⟩ := hin e1
      exact ⟨p, h1, h2, h3⟩
    · obtain ⟨p, h1, h2, h3⟩ := hout hi e1
      exact ⟨p, he _ _ h1, h2, h3⟩
  · intro i j o o' p q e e' s s' r r' hpq
    rcases (hA i o).1 e with ⟨_, e1⟩ | ⟨hi, e1⟩ <;> rcases (hA j o').1 e' with ⟨_, e2⟩ | ⟨hj, e2⟩
    · obtain ⟨p1, h1, h2, _⟩ := hin e1
      obtain ⟨q1, h3, h4, _⟩ := hin e2
      rw [h2] at r; cases r
      rw [h4] at r'; cases r'
      exact hp.rel.inj i j o o' _ _ e1 e2 s s' h1 h3 hpq
    · obtain ⟨p1, h1, h2, _⟩ := hin e1
      obtain ⟨q1, h3, _⟩ := hout hj e2
      rw [h2] at r; cases r
      rw [he _ _ h3] at r'; cases r'
      exact absurd hpq (hapart e1 s h1 hj e2 s' h3)
    · obtain ⟨p1, h1, h2, _⟩ := hin e2
      obtain ⟨q1, h3, _⟩ := hout hi e1
      rw [h2] at r'; cases r'
      rw [he _ _ h3] at r; cases r
      exact absurd hpq.symm (hapart e2 s' h1 hi e1 s h3)
    · obtain ⟨p1, h1, _⟩ := hout hi e1
      obtain ⟨q1, h3, _⟩ := hout hj e2
      rw [he _ _ h1] at r; cases r
      rw [he _ _ h3] at r'; cases r'
      exact h.inj i j o o' _ _ e1 e2 s s' h1 h3 hpq
  · intro path cells hG
    obtain ⟨p, hp1, hp2, hp3⟩ := hp.rel.ext path cells hG
    refine ⟨p, he' _ _ hp1, hp2, fun j v hj => ?_⟩
    obtain ⟨x, hx1, hv, ho⟩ := hp3 j v hj
    exact ⟨x, hx1, hv.mono he', ho⟩
  · intro g; obtain ⟨n, hn⟩ := h.glob g; exact ⟨n, he _ _ hn⟩
  · intro l p e
    cases l with
    | own i =>
      simp only [joinP] at e
      split at e
      · rename_i hi; exact .inr ⟨i, rfl, by omega, by omega⟩
      · rcases hp0.new _ _ e with e1 | ⟨k, hk, h1, h2⟩
        · exact .inl e1
        · exact .inr ⟨k, hk, h1, by omega⟩
    | ext path =>
      rcases hp0.new _ _ e with e1 | ⟨k, hk, _⟩
      · exact .inl e1
      · cases hk
  · intro b hb hn
    rw [hp.frame b (Nat.lt_of_lt_of_le hb hp0.size) fun i o p e s r hpb => ?_, hp0.frame b hb hn]
    rcases hp0.place i o p (hsub e) s (cut_some r).1 with hge | ⟨j, o', q, e', s', r', hq⟩
    · omega
    · exact hn j o' q e' s' r' (hq.trans hpb)
  · intro i o p e s r
    rcases (hA i o).1 e with ⟨_, e1⟩ | ⟨hi, e1⟩
    · obtain ⟨q1, h2, h3, _⟩ := hin e1
      rw [h3] at r; cases r
      rcases hp.place i o _ e1 s h2 with hge | ⟨k, o2, q2, e2, s2, r2, hq⟩
      · exact .inl (Nat.le_trans hp0.size hge)
      · rcases hp0.place k o2 q2 (hsub e2) s2 (cut_some r2).1 with hge | ⟨j, o', q', e', s', r', hq'⟩
        · exact .inl (hq ▸ hge)
        · exact .inr ⟨j, o', q', e', s', r', hq'.trans hq⟩
    · obtain ⟨p1, h1, _⟩ := hout hi e1
      rw [he _ _ h1] at r; cases r
      exact hp0.place i o _ e1 s h1

/-! the check -/

def oneA (c : Ctx) (call : Callee) (ops : List Oper) (env : AEnv) (H : AHeap) (t : List (Option AV × AHeap)) (j : Nat) (K : AHeap) : AHeap :=
  match stepV c call ops (opsOf ops j) (lowEnv (heapsOf H t j).length (envK (fun i => (ops.getD i default).dst) (fun i => (t.getD i dft).1) (fun _ => true) env j)) (K.take (heapsOf H t j).length) with
  | some p => p.2 ++ K.drop p.2.length
  | none => K

def isSome2 (r : Option (Option AV × AHeap)) (v : Option AV) (n : Nat) (rest goal : AHeap) : Bool :=
  match r with
  | some (some u, K) => match v with
    | some v => AV.beq u v && (Nat.beq K.length n && heapEq (K ++ rest) goal)
    | none => false
  | _ => false

theorem isSome2_eq {r : Option (Option AV × AHeap)} {v : Option AV} {n : Nat} {rest goal : AHeap} (h : isSome2 r v n rest goal = true) : ∃ K, r = some (v, K) ∧ K.length = n ∧ K ++ rest = goal := by
  unfold isSome2 at h
  split at h
  · split at h
    · simp only [Bool.and_eq_true] at h
      rw [AV.beq_eq h.1]
      exact ⟨_, rfl, Nat.eq_of_beq_eq_true h.2.1, heapEq_eq h.2.2⟩
    · cases h
  · cases h

def anyOk (c : Ctx) (call : Callee) (ops : List Oper) (env : AEnv) (H : AHeap) (t : List (Option AV × AHeap)) : Bool :=
  let n := ops.length
  let s := fun k => (heapsOf H t k).length
  let mv := (List.range n).map fun i => (moves ops H t).getD i false
  let K0 := H ++ List.replicate (s n - H.length) none
  let G := fun l : List Bool => heapS (oneA c call ops env H t) (fun i => l.getD i false) K0 n
  Nat.ble (mv.filter id).length 5 && (edgesOk ops && (apartOk ops && ((List.range n).all (fun j => Nat.ble (s j) (s (j + 1))) && (
    heapEq (heapS (oneA c call ops env H t) (fun i => mv.getD i false) K0 n) (heapsOf H t n) &&
    (subsOf mv).all fun l => (List.range n).all fun j => l.getD j false || (!mayBe ops (Region.before ops.toArray) mv l j ||
      (Nat.beq (G l).length (s n) && (heapLow (s j) ((G l).take (s j)) &&
       isSome2 (stepV c call ops (opsOf ops j) (lowEnv (s j) (envK (fun i => (ops.getD i default).dst) (fun i => (t.getD i dft).1) (fun _ => true) env j)) ((G l).take (s j)))
        (t.getD j dft).1 (s (j + 1)) ((G l).drop (s (j + 1))) (heapS (oneA c call ops env H t) (fun i => if Nat.beq i j then mv.getD j false else l.getD i false) K0 n))))))))

theorem any_sound (hm : c.P.follows .mixedOrders = true) (call : Callee) (hc : CallOK c base w0 call) (id : Nat) (opsA : Array Oper) (env env' : AEnv) (H H' : AHeap) (t : List (Option AV × AHeap)) (ht : trace c call opsA.toList opsA.toList env H = some t)
    (hok : anyOk c call opsA.toList env H t = true) (hend : endOf opsA.toList t env H = (env', H'))
    (ρ : Pl) (w : World) (a : Act) (h : Rel c base w0 ρ H w) (hf : Fresh ρ H) (he : EnvR ρ env a.tmps) : (Code.region id opsA true).wp c.P (Behind c base w0 ρ H w a .normal env' H') a w := by
  obtain ⟨ops⟩ := opsA
  simp only at ht hok hend
  obtain ⟨_, _, f3⟩ := trace_facts ht
  have hst := endOf_steps ht
  rw [f3, Option.some.injEq] at hst
  have hheap := endOf_heap ht
  rw [hend] at hst hheap
  simp only [Prod.mk.injEq] at hst
  have hE := hst.1
  change H' = _ at hheap
  subst hE hheap
  simp only [anyOk, Bool.and_eq_true] at hok
  obtain ⟨_, hedge, hap, hmon, hfin, hall⟩ := hok
  have hfin := heapEq_eq hfin
  clear hst f3 hend
  generalize hmvl : (List.range ops.length).map (fun i => (moves ops H t).getD i false) = mv at *
  have hmvlen : mv.length = ops.length := by rw [← hmvl]; simp
  generalize hdst : (fun i => (ops.getD i default).dst) = dst at *
  generalize hvals : (fun i => (t.getD i dft).1) = vals at *
  have hdst' : ∀ i, dst i = (opsOf ops i).dst := fun i => by rw [← hdst]; rfl
  have hvals' : ∀ i, (t.getD i dft).1 = vals i := fun i => by rw [← hvals]
  generalize hfs : oneA c call ops env H t = fs at *
  generalize hhp : heapsOf H t = hp at *
  have hp0 : hp 0 = H := by rw [← hhp]; rfl
  generalize hs : (fun k => (hp k).length) = s at *
  have hs' : ∀ k, (hp k).length = s k := fun k => by rw [← hs]
  simp only [hs'] at hfin hall hmon
  have hs0 : s 0 = H.length := by rw [← hs', hp0]
  generalize hK0 : H ++ List.replicate (s ops.length - H.length) none = K0 at *
  have hmono1 : ∀ j, j < ops.length → s j ≤ s (j + 1) := fun j hj => by
    have := List.all_eq_true.1 hmon j (List.mem_range.2 hj)
    rwa [Nat.ble_eq] at this
  have hmono : ∀ {j k}, j ≤ k → k ≤ ops.length → s j ≤ s k := fun hjk hk => mono_of hmono1 hjk hk
  have hedge' : ∀ j, j < ops.length → ∀ e ∈ (opsOf ops j).after.toList, Region.binds .any e = true → e.on < j := by
    intro j hj e hej hb
    have := List.all_eq_true.1 (List.all_eq_true.1 hedge j (List.mem_range.2 hj)) e hej
    rw [hb] at this
    simpa using this
  have hap' : ∀ i j, i < j → j < ops.length → ((Region.before ops.toArray).getD j 0).testBit i = true ∨ Oper.apart ops.toArray (opsOf ops i) (opsOf ops j) = true := by
    intro i j hij hj
    have := List.all_eq_true.1 (List.all_eq_true.1 hap j (List.mem_range.2 hj)) i (List.mem_range.2 hij)
    simpa only [Bool.or_eq_true] using this
  have hchk : ∀ (S : Nat → Bool) (j : Nat), j < ops.length → S j = false → (∀ i, i < ops.length → mv.getD i false = true → (((Region.before ops.toArray).getD j 0).testBit i = true → S i = true) ∧ (((Region.before ops.toArray).getD i 0).testBit j = true → S i = false)) →
      (heapS fs (fun i => S i && mv.getD i false) K0 ops.length).length = s ops.length ∧ heapLow (s j) ((heapS fs (fun i => S i && mv.getD i false) K0 ops.length).take (s j)) = true ∧ ∃ V',
      stepV c call ops (opsOf ops j) (lowEnv (s j) (envK dst vals (fun _ => true) env j)) ((heapS fs (fun i => S i && mv.getD i false) K0 ops.length).take (s j)) = some (vals j, V') ∧ V'.length = s (j + 1) ∧
        V' ++ (heapS fs (fun i => S i && mv.getD i false) K0 ops.length).drop (s (j + 1)) = heapS fs (fun i => (if i = j then true else S i) && mv.getD i false) K0 ops.length := by
    intro S j hj hSj hS
    generalize hl : (List.range ops.length).map (fun i => S i && mv.getD i false) = l
    have hlg : ∀ i, i < ops.length → l.getD i false = (S i && mv.getD i false) := fun i hi => by rw [← hl]; simp [hi]
    have hmem : l ∈ subsOf mv := mem_subs (by rw [← hl, hmvlen]; simp) (fun i hi => by
      by_cases hil : i < ops.length
      · rw [hlg i hil] at hi; simp only [Bool.and_eq_true] at hi; exact hi.2
      · rw [← hl] at hi; simp [hil] at hi)
    have := List.all_eq_true.1 (List.all_eq_true.1 hall l hmem) j (List.mem_range.2 hj)
    simp only [Bool.or_eq_true, Bool.not_eq_true'] at this
    rcases this with h1 | h1 | h1
    · rw [hlg j hj, hSj] at h1; simp at h1
    · exfalso
      have h2 : mayBe ops (Region.before ops.toArray) mv l j = true := by
        simp only [mayBe, List.all_eq_true, List.mem_range, Bool.or_eq_true, Bool.and_eq_true, Bool.not_eq_true']
        intro i hi
        cases hmi : mv.getD i false with
        | false => exact .inl rfl
        | true =>
          obtain ⟨h3, h4⟩ := hS i hi hmi
          refine .inr ⟨?_, ?_⟩
          · cases hb : ((Region.before ops.toArray).getD j 0).testBit i with
            | false => exact .inl rfl
            | true => exact .inr (by rw [hlg i hi, h3 hb, hmi]; rfl)
          · cases hb : ((Region.before ops.toArray).getD i 0).testBit j with
            | false => exact .inl rfl
            | true => exact .inr (by rw [hlg i hi, h4 hb]; rfl)
      rw [h2] at h1; cases h1
    · simp only [Bool.and_eq_true] at h1
      obtain ⟨k1, k2, k3⟩ := h1
      obtain ⟨V', k4, k5, k6⟩ := isSome2_eq k3
      have hg : heapS fs (fun i => S i && mv.getD i false) K0 ops.length = heapS fs (fun i => l.getD i false) K0 ops.length := heapS_congr _ (fun i hi => (hlg i hi).symm)
      rw [hvals'] at k4
      rw [hg]
      refine ⟨Nat.eq_of_beq_eq_true k1, k2, V', k4, k5, k6.trans ?_⟩
      refine heapS_congr _ (fun i hi => ?_)
      by_cases hij : i = j
      · subst hij; simp
      · have : Nat.beq i j = false := by
          cases hq : Nat.beq i j with
          | false => rfl
          | true => exact absurd (Nat.eq_of_beq_eq_true hq) hij
        simp only [this, hij, if_false, hlg i hi]
        simp
  generalize hbf : Region.before ops.toArray = bf at *
  clear hall
  generalize hA : (fun S : Nat → Bool => heapS fs (fun i => S i && mv.getD i false) K0 ops.length) = A at *
  have hA' : ∀ S : Nat → Bool, heapS fs (fun i => S i && mv.getD i false) K0 ops.length = A S := fun S => by rw [← hA]
  simp only [hA'] at hchk
  have keep_mono : ∀ {S S' : Nat → Bool}, (∀ i, S i = true → S' i = true) → ∀ i, keepS s ops.length S i = true → keepS s ops.length S' i = true := by
    intro S S' hSS i hk
    rcases keepS_iff.1 hk with h1 | ⟨j, h1, h2, h3⟩
    · exact keepS_iff.2 (.inl h1)
    · exact keepS_iff.2 (.inr ⟨j, h1, hSS j h2, h3⟩)
  -- the heart: what holds when some have been run
  have main : ∀ (fuel : Nat) (listed : Array Bool) (ρ' : Pl) (a' : Act) (w' : World), listed.size = ops.length → toCome (setOf listed) ops.length = fuel →
      (∀ j, j < ops.length → setOf listed j = true → ∀ i, (bf.getD j 0).testBit i = true → setOf listed i = true) → a'.defers = a.defers →
      Post c base w0 ρ H w ρ' (A (setOf listed)) w' → EnvR ρ' (envK dst vals (setOf listed) env ops.length) a'.tmps → (∀ i p, s 0 ≤ i → ρ' (.own i) = some p → keepS s ops.length (setOf listed) i = true) →
      wpAny c.P .any ops.toArray (Behind c base w0 ρ H w a .normal (envK dst vals (fun _ => true) env ops.length) (hp ops.length)) fuel listed a' w' := by
    intro fuel
    induction fuel with
    | zero =>
      intro listed ρ' a' w' hls hcount hclosed hdf hpost henv hinv
      have hall := toCome_zero hcount
      have hE : EnvEq (envK dst vals (setOf listed) env ops.length) (envK dst vals (fun _ => true) env ops.length) :=
        ⟨by rw [envK_size, envK_size], fun t => envK_agree _ (fun i hi _ => hall i hi)⟩
      have hHH : A (setOf listed) = hp ops.length := by
        rw [← hfin, ← hA']
        exact heapS_congr _ (fun i hi => by rw [hall i hi]; rfl)
      refine ⟨?_, rfl, hdf, ρ', hHH ▸ hpost, henv.congr hE⟩
      rw [List.eq_nil_iff_forall_not_mem]
      intro i hi
      obtain ⟨hi1, hi2, _⟩ := (mem_ready hls).1 hi
      rw [hall i hi1] at hi2; cases hi2
    | succ fuel ih =>
      intro listed ρ' a' w' hls hcount hclosed hdf hpost henv hinv
      refine ⟨fun hnil => ?_, fun j hj => ?_⟩
      · -- none is ready, and not all are through: that cannot be
        exfalso
        have hall : ∀ k, k ≤ ops.length → ∀ i, i < k → setOf listed i = true := by
          intro k
          induction k with
          | zero => intro _ i hi; omega
          | succ k ihk =>
            intro hk i hi
            by_cases hik : i = k
            · subst hik
              cases hS : setOf listed i with
              | true => rfl
              | false =>
                have : i ∈ Region.ready .any ops.toArray listed := (mem_ready hls).2 ⟨by omega, hS, fun e hej hb => ihk (by omega) _ (hedge' i (by omega) e hej hb)⟩
                rw [hnil] at this; cases this
            · exact ihk (by omega) i (by omega)
        have hz : toCome (setOf listed) ops.length = 0 := by
          have : ∀ m, m ≤ ops.length → toCome (setOf listed) m = 0 := by
            intro m hm'
            induction m with
            | zero => rfl
            | succ m ihm => simp only [toCome]; rw [ihm (by omega), hall _ (Nat.le_refl _) m (by omega)]; rfl
          exact this _ (Nat.le_refl _)
        omega
      · obtain ⟨hjn, hSj, hready⟩ := (mem_ready hls).1 hj
        have hoj := opsOf_get hjn
        have hpre : ∀ i, (bf.getD j 0).testBit i = true → setOf listed i = true := by
          intro i hi
          rw [← hbf] at hi
          obtain ⟨e, hej, hb, hq⟩ := before_bits hoj (hedge' j hjn) hi
          rcases hq with rfl | hq
          · exact hready e hej hb
          · rw [hbf] at hq
            exact hclosed e.on (by have := hedge' j hjn e hej hb; omega) (hready e hej hb) i hq
        have hpr : ∀ i, i < ops.length → i ≠ j → setOf listed i = decide (i < j) ∨ Oper.apart ops.toArray (opsOf ops (min i j)) (opsOf ops (max i j)) = true := by
          intro i hi hij
          by_cases hlt : i < j
          · rcases hap' i j hlt hjn with hb | hb
            · exact .inl (by rw [hpre i hb]; simp [hlt])
            · exact .inr (by rw [Nat.min_eq_left (by omega), Nat.max_eq_right (by omega)]; exact hb)
          · rcases hap' j i (by omega) hi with hb | hb
            · refine .inl ?_
              cases hS : setOf listed i with
              | false => simp; omega
              | true =>
                have := hclosed i hi hS j hb
                rw [hSj] at this; cases this
            · exact .inr (by rw [Nat.min_eq_right (by omega), Nat.max_eq_left (by omega)]; exact hb)
        have hreads : ∀ t ∈ (opsOf ops j).looksAt ops.toArray, eget (envK dst vals (setOf listed) env ops.length) t = eget (envK dst vals (fun _ => true) env j) t := by
          intro t ht'
          rw [← envK_upto j ops.length (by omega)]
          refine envK_agree _ (fun i hi hd => ?_)
          by_cases hij : i = j
          · subst hij; rw [hSj]; simp
          · rcases hpr i hi hij with hp | hap
            · exact hp
            · exfalso
              rw [hdst'] at hd
              by_cases hlt : i < j
              · rw [Nat.min_eq_left (by omega), Nat.max_eq_right (by omega)] at hap
                exact (Oper.apart_spec hap).1 t hd ht'
              · rw [Nat.min_eq_right (by omega), Nat.max_eq_left (by omega)] at hap
                exact (Oper.apart_spec hap).2.2 t hd ht'
        have hreads2 : ∀ t ∈ (opsOf ops j).looksAt ops.toArray, eget (lowEnv (s j) (envK dst vals (setOf listed) env ops.length)) t = eget (lowEnv (s j) (envK dst vals (fun _ => true) env j)) t := fun t ht' => by
          rw [lowEnv_get, lowEnv_get, hreads t ht']
        have hw : awanted ops (lowEnv (s j) (envK dst vals (setOf listed) env ops.length)) (opsOf ops j) = awanted ops (lowEnv (s j) (envK dst vals (fun _ => true) env j)) (opsOf ops j) := awanted_reads hreads2
        have hop : ∀ K, aop c (lowEnv (s j) (envK dst vals (setOf listed) env ops.length)) (opsOf ops j).op K = aop c (lowEnv (s j) (envK dst vals (fun _ => true) env j)) (opsOf ops j).op K := fun K => aop_congr (aval_reads hreads2) K
        generalize hS' : (fun i => if i = j then true else setOf listed i) = S' at *
        have hS'j : S' j = true := by rw [← hS']; simp
        have hS'n : ∀ i, i ≠ j → S' i = setOf listed i := fun i hi => by rw [← hS']; simp [hi]
        have hset : setOf (listed.setIfInBounds j true) = S' := by
          funext i
          simp only [setOf, Array.getD_eq_getD_getElem?, Array.getElem?_setIfInBounds]
          by_cases hij : j = i
          · subst hij
            rw [if_pos rfl, if_pos (by omega), hS'j]; rfl
          · rw [if_neg hij, hS'n i (Ne.symm hij)]
            simp [setOf, Array.getD_eq_getD_getElem?]
        have hSS' : ∀ i, setOf listed i = true → S' i = true := fun i hi => by
          by_cases hij : i = j
          · rw [hij]; exact hS'j
          · rw [hS'n i hij]; exact hi
        have henv' : EnvEq (eput (envK dst vals (setOf listed) env ops.length) (dst j) (vals j)) (envK dst vals S' env ops.length) := by
          refine ⟨by rw [eput_size, envK_size, envK_size], fun t => ?_⟩
          by_cases hdt : dst j = some t
          · have := envK_last (vals := vals) (env := env) hdt hS'j ops.length hjn (fun i h1 h2 hd => by
              rw [hS'n i (by omega)]
              rcases hpr i h2 (by omega) with hp | hap
              · rw [hp]; simp; omega
              · exfalso
                rw [Nat.min_eq_right (by omega), Nat.max_eq_left (by omega)] at hap
                rw [hdst'] at hd hdt
                exact (Oper.apart_spec hap).2.1 t hdt hd)
            rw [this, hdt]
            exact eput_eq (by rw [envK_size, envK_size])
          · rw [eput_ne hdt]
            refine envK_agree _ (fun i hi hd => ?_)
            exact (hS'n i (fun hij => hdt (by rw [← hij]; exact hd))).symm
        -- whose number it is
        have hdisj : ∀ i, s j ≤ i → i < s (j + 1) → keepS s ops.length (setOf listed) i = false := by
          intro i h1 h2
          cases hk : keepS s ops.length (setOf listed) i with
          | false => rfl
          | true =>
            exfalso
            rcases keepS_iff.1 hk with h3 | ⟨k, h3, h4, h5, h6⟩
            · have := hmono (Nat.zero_le j) (Nat.le_of_lt hjn); omega
            · rcases Nat.lt_trichotomy k j with hlt | rfl | hlt
              · have := hmono (show k + 1 ≤ j by omega) (Nat.le_of_lt hjn); omega
              · rw [hSj] at h4; cases h4
              · have := hmono (show j + 1 ≤ k by omega) (Nat.le_of_lt h3); omega
        obtain ⟨hlen, hlow, V', hsp3, hVl', hAA⟩ := hchk (setOf listed) j hjn hSj (fun i hi hmi => ⟨fun hb => hpre i hb, fun hb => by
          cases hS : setOf listed i with
          | false => rfl
          | true =>
            have := hclosed i hi hS j hb
            rw [hSj] at this; cases this⟩)
        rw [hS'] at hAA
        generalize hAn : A (setOf listed) = An at *
        have hsn : s (j + 1) ≤ s ops.length := hmono (by omega) (Nat.le_refl _)
        have hsj : s j ≤ s (j + 1) := hmono1 j hjn
        have hVl : (An.take (s j)).length = s j := by rw [List.length_take]; omega
        have hVh : ∀ i, i < s j → hat (An.take (s j)) i = hat An i := fun i hi => by
          unfold hat; rw [List.getElem?_take, if_pos hi]
        have hgo : stepV c call ops (opsOf ops j) (lowEnv (s j) (envK dst vals (setOf listed) env ops.length)) (An.take (s j)) = some (vals j, V') := by
          rw [← hsp3]
          simp only [stepV, hw, hop]
        have hm' : H.length ≤ s j := by rw [← hs0]; exact hmono (Nat.zero_le _) (Nat.le_of_lt hjn)
        have hrelV := rel_part h hf hpost.ext hm' hpost.rel (fun i o e => by rw [← hVh i (hVl ▸ hat_lt e)]; exact e) hlow hVl
        have hfV : Fresh (AM.cut (s j) ρ') (An.take (s j)) := fun i hi => by
          unfold AM.cut
          rw [if_neg]
          simp [Loc.low]; omega
        refine stepV_sound hc hrelV hfV henv.cut hoj hgo ?_
        intro x w2 ρ2 hv hp2
        obtain ⟨hp3, he1, he2⟩ := post_part2 (A' := A S') hm' hpost hVh hVl hp2 (fun i h1 h2 => by
            rw [hVl'] at h2
            cases hq : ρ' (.own i) with
            | none => rfl
            | some p =>
              have := hinv i p (by have := hmono (Nat.zero_le j) (Nat.le_of_lt hjn); omega) hq
              rw [hdisj i h1 h2] at this; cases this) (fun i o => by
            rw [← hAA]
            unfold hat
            rcases Nat.lt_or_ge i V'.length with hi | hi
            · rw [List.getElem?_append_left hi]
              constructor
              · exact fun e => .inl ⟨hi, e⟩
              · rintro (⟨_, e⟩ | ⟨h1, _⟩)
                · exact e
                · omega
            · rw [List.getElem?_append_right hi, List.getElem?_drop, ← hVl', show V'.length + (i - V'.length) = i by omega]
              constructor
              · exact fun e => .inr ⟨hi, e⟩
              · rintro (⟨h1, _⟩ | ⟨_, e⟩)
                · omega
                · exact e) (by rw [← hAA, List.length_append, List.length_drop]; omega) (by rw [← hAA, List.length_append]; omega)
        refine ih (listed.setIfInBounds j true) (joinP (s j) V'.length ρ' ρ2) (a'.put (opsOf ops j).dst x) w2 (by simpa using hls) ?_ ?_ ?_ ?_ ?_ ?_
        · rw [hset]
          have := toCome_step hSj hS'j (fun i hi => (hS'n i hi).symm) hjn
          omega
        · rw [hset]
          intro k hk hSk i hi
          by_cases hij : i = j
          · rw [hij]; exact hS'j
          · rw [hS'n i hij]
            by_cases hkj : k = j
            · subst hkj; exact hpre i hi
            · exact hclosed k hk (by rw [← hS'n k hkj]; exact hSk) i hi
        · rw [← hdf]; cases (opsOf ops j).dst <;> rfl
        · rw [hset]; exact hp3
        · rw [hset]; exact EnvR.congr (by rw [hdst']; exact (henv.mono he1).put _ (fun u hu => (hv u hu).mono he2)) henv'
        · rw [hset]
          intro i p h1 hq
          simp only [joinP] at hq
          split at hq
          · rename_i hi
            rw [hVl'] at hi
            exact keepS_iff.2 (.inr ⟨j, hjn, hS'j, hi.1, hi.2⟩)
          · exact keep_mono hSS' i (hinv i p h1 hq)
  refine wp_region_any hm ?_
  have hS0 : ∀ i, setOf (Array.replicate ops.length false) i = false := fun i => by
    simp only [setOf, Array.getD_eq_getD_getElem?, Array.getElem?_replicate]
    split <;> rfl
  have hE0 : ∀ k, envK dst vals (setOf (Array.replicate ops.length false)) env k = env := by
    intro k
    induction k with
    | zero => rfl
    | succ k ihk => simp only [envK, hS0]; simpa using ihk
  have hT0 : ∀ k, toCome (setOf (Array.replicate ops.length false)) k = k := by
    intro k
    induction k with
    | zero => rfl
    | succ k ihk => simp only [toCome, hS0]; simp [ihk]
  refine main ops.length (Array.replicate ops.length false) ρ a _ (by simp) (hT0 _) (fun j _ hj => by rw [hS0] at hj; cases hj) rfl ?_ ?_ ?_
  · have hAe : A (setOf (Array.replicate ops.length false)) = K0 := by
      rw [← hA']
      exact heapS_none _ (fun i hi => by rw [hS0]; rfl)
    rw [hAe]
    refine post_same (post_drew h) (fun i o => ?_) (by rw [← hK0, List.length_append]; omega)
    rw [← hK0]
    unfold hat
    rcases Nat.lt_or_ge i H.length with hi | hi
    · rw [List.getElem?_append_left hi]
    · have h1 : (List.replicate (s ops.length - H.length) (none : Option AObj))[i - H.length]? = none ∨ (List.replicate (s ops.length - H.length) (none : Option AObj))[i - H.length]? = some none := by
        rw [List.getElem?_replicate]
        by_cases hq : i - H.length < s ops.length - H.length
        · rw [if_pos hq]; exact .inr rfl
        · rw [if_neg hq]; exact .inl rfl
      rw [List.getElem?_append_right hi, List.getElem?_eq_none hi]
      rcases h1 with h1 | h1 <;> rw [h1]
  · rw [hE0]; exact he
  · intro i p h1 hq
    rw [hf i (by omega)] at hq; cases hq

/-- what a region that draws its order does -/
def drawRunA : DrawOk := fun c call ops env H => (trace c call ops ops env H).bind fun t => if regOk ops (moves ops H t) (still c call ops env H t) || (mixOk c call ops env H t || (subOk c call ops env H t || anyOk c call ops env H t)) then some (endOf ops t env H) else none

theorem drawA_sound (hm : c.P.follows .mixedOrders = true) (call : Callee) (hc : CallOK c base w0 call) : DrawOKs c base w0 drawRunA call := by
  intro id ops env env' H H' e ρ w a h hf he
  simp only [drawRunA, Option.bind_eq_some_iff] at e
  obtain ⟨t, ht, e⟩ := e
  split at e
  · rename_i hok
    simp only [Bool.or_eq_true] at hok
    rcases hok with hok | hok | hok | hok
    · refine order_sound hm call hc id ops env env' H H' ?_ ?_ ρ w a h hf he
      · simp only [drawOk, ht]; exact hok
      · rw [endOf_steps ht]; exact e
    · simp only [Option.some.injEq] at e
      exact mix_sound hm call hc id ops env env' H H' t ht hok e ρ w a h hf he
    · simp only [Option.some.injEq] at e
      exact sub_sound hm call hc id ops env env' H H' t ht hok e ρ w a h hf he
    · simp only [Option.some.injEq] at e
      exact any_sound hm call hc id ops env env' H H' t ht hok e ρ w a h hf he
  · cases e

end Go.AM
