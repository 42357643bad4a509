/-
  REGIONS THAT DRAW THEIR ORDER, OVER ANY HEAP, WITH MOVERS IN THE TEXT'S ORDER (own work): what looks and is not ordered against a mover tells the same on each heap that comes up.
-/
import Derived.Test.YtecfofmndpgnjaaAmPlain
namespace Go.AM
open Go.RowKit
set_option linter.unusedSimpArgs false
set_option linter.unusedVariables false

variable {c : Ctx} {base : Nat} {w0 w : World} {ρ : Pl} {H : AHeap} {n : Nat}

/-- what an operation reads is never put again behind it -/
def fixO (ops : List Oper) (j : Nat) (x : Operand) : Bool := match x with
  | .tmp a => (List.range ops.length).all fun i => Nat.blt i j || !((opsOf ops i).dst == some a)
  | _ => true
def freeJ (ops : List Oper) (j : Nat) : Bool := (opsOf ops j).guard.isNone && match (opsOf ops j).op with
  | .load _ x => fixO ops j x
  | .call { callee := .value (.func _), args := as, .. } => as.toList.all (fixO ops j)
  | _ => false
/-- F: who looks freely; ks: who may move -/
def chainOk (ops : List Oper) (F ks : List Nat) : Bool :=
  edgesOk ops && (apartOk ops && (F.all (freeJ ops) && (List.range ops.length).all fun i => quiet (opsOf ops i).op || (ks.contains i && (List.range ops.length).all fun j => Nat.beq i j || (inOrder (Region.before ops.toArray) i j || (isP (opsOf ops j).op || F.contains j)))))

theorem envK_after {dst : Nat → Option Tmp} {vals : Nat → Option AV} {env : AEnv} {a : Tmp} {j : Nat} : ∀ m, j ≤ m → (∀ i, j ≤ i → i < m → dst i ≠ some a) → eget (envK dst vals (fun _ => true) env m) a = eget (envK dst vals (fun _ => true) env j) a
  | 0, h, _ => by obtain rfl : j = 0 := by omega
                  rfl
  | m + 1, h, hd => by
    by_cases e : j = m + 1
    · subst e; rfl
    · rw [← envK_after (j := j) m (by omega) (fun i h1 h2 => hd i h1 (by omega))]
      simp only [envK, if_true]
      exact eput_ne (hd m (by omega) (by omega))
theorem avals_same {e1 e2 : AEnv} : ∀ {xs : List Operand}, (∀ x ∈ xs, aval e1 x = aval e2 x) → avals e1 xs = avals e2 xs
  | [], _ => rfl
  | x :: r, h => by
    have := avals_same (xs := r) (fun y hy => h y (by simp [hy]))
    simp only [avals, mapO] at this ⊢
    rw [h x (by simp), this]
theorem fix_eq {ops : List Oper} {vals : Nat → Option AV} {env : AEnv} {j : Nat} (hj : j < ops.length) {x : Operand} (h : fixO ops j x = true) :
    aval (envK (fun i => (ops.getD i default).dst) vals (fun _ => true) env ops.length) x = aval (envK (fun i => (ops.getD i default).dst) vals (fun _ => true) env j) x := by
  cases x with
  | tmp a =>
    simp only [fixO, List.all_eq_true, List.mem_range, Bool.or_eq_true, Bool.not_eq_true', beq_eq_false_iff_ne] at h
    refine envK_after ops.length (by omega) fun i h1 h2 => ?_
    rcases h i h2 with h3 | h3
    · rw [Nat.blt_eq] at h3; omega
    · exact h3
  | const v => rfl
  | global g => rfl
  | func f => rfl
theorem free_env {call : Callee} {ops : List Oper} {vals : Nat → Option AV} {env : AEnv} {j : Nat} (hj : j < ops.length) (h : freeJ ops j = true) (K : AHeap) :
    stepV c call ops (opsOf ops j) (envK (fun i => (ops.getD i default).dst) vals (fun _ => true) env ops.length) K = stepV c call ops (opsOf ops j) (envK (fun i => (ops.getD i default).dst) vals (fun _ => true) env j) K := by
  simp only [freeJ, Bool.and_eq_true, Option.isNone_iff_eq_none] at h
  obtain ⟨hg, h⟩ := h
  simp only [stepV, awanted, hg]
  congr 2
  funext w
  cases w with
  | false => rfl
  | true =>
    simp only [if_true]
    congr 1
    split at h
    · rename_i t x hop
      rw [hop]; simp only [aop, fix_eq hj h]
    · rename_i f as ts hop
      rw [hop]
      simp only [List.all_eq_true] at h
      simp only [aop, acallee, aval, Option.bind_some, List.nil_append, List.append_nil]
      rw [avals_same fun x hx => fix_eq hj (h x hx)]
    · cases h
theorem heap_trace {call : Callee} {ops : List Oper} {env : AEnv} {t : List (Option AV × AHeap)} (ht : trace c call ops ops env H = some t) : ∀ m, m ≤ ops.length → heapK (fun i => (t.getD i dft).2) (fun i => (moves ops H t).getD i false) (fun _ => true) H m = heapsOf H t m := by
  obtain ⟨f1, f2, _⟩ := trace_facts ht
  intro m
  induction m with
  | zero => intro _; rfl
  | succ m ih =>
    intro hm
    have hlt : m < ops.length := by omega
    have hst := f1 m (opsOf ops m) (by simp [opsOf, List.getD_eq_getElem?_getD, List.getElem?_eq_getElem hlt])
    have hmv := f2 m hlt
    simp only [heapK, Bool.true_and]
    split
    · rfl
    · rename_i hq
      have hq' : mvOf (ops.getD m default).op (heapK (fun i => (t.getD i dft).2) (fun i => (moves ops H t).getD i false) (fun _ => true) H m) (t.getD m dft).2 = false := by rw [← hmv]; simpa using hq
      exact (mvOf_same hq' hst).symm
theorem take_trace {call : Callee} {ops : List Oper} : ∀ {r : List Oper} {env : AEnv} {H : AHeap} {t : List (Option AV × AHeap)}, trace c call ops r env H = some t → ∀ m, m ≤ r.length → ∃ e, asteps c call ops (r.take m) env H = some (e, heapsOf H t m)
  | r, env, H, t, ht, 0, _ => ⟨env, rfl⟩
  | [], env, H, t, ht, m + 1, h => by simp at h
  | o :: r, env, H, t, ht, m + 1, h => by
    simp only [trace, Option.bind_eq_some_iff, Option.some.injEq] at ht
    obtain ⟨p, hp, t', ht, rfl⟩ := ht
    obtain ⟨e, he⟩ := take_trace ht m (by simpa using h)
    refine ⟨e, ?_⟩
    simp only [List.take_succ_cons, asteps, astep_stepV, hp, Option.map_some, Option.bind_some]
    rw [he]
    cases m <;> rfl

variable {κ : Kn} {T : FuncId → Spec} {env : AEnv} {K : AExit → AEnv → AHeap → Prop}
/-- a region that draws its order: Hs are the heaps behind those that may move -/
theorem D.chain {id : Nat} {ops : Array Oper} {env' : AEnv} {H' : AHeap} (F : List Nat) (ks : List (Nat × AHeap)) (hs : chainOk ops.toList F (ks.map (·.1)) = true)
    (h : asteps κ.c (callT κ T) ops.toList ops.toList env H = some (env', H'))
    (hk : ∀ p ∈ ks, ∃ e, asteps κ.c (callT κ T) ops.toList (ops.toList.take (p.1 + 1)) env H = some (e, p.2))
    (hF : ∀ j ∈ F, ∃ v, ∀ X ∈ H :: ks.map (·.2), stepV κ.c (callT κ T) ops.toList (opsOf ops.toList j) env' X = some (v, X))
    (k : K .normal env' H') : D κ (.region id ops true) env H K := by
  refine ⟨.normal, env', H', k, fun ρ w a hr hf he => ?_⟩
  obtain ⟨t, ht⟩ := trace_of_steps h
  refine order_sound κ.mixed _ (callT_ok T) id ops env env' H H' ?_ h ρ w a hr hf he
  simp only [drawOk, ht]
  generalize ops.toList = os at *
  simp only [chainOk, Bool.and_eq_true, List.all_eq_true, List.mem_range] at hs
  obtain ⟨h1, h2, h3, h4⟩ := hs
  obtain ⟨f1, f2, f3⟩ := trace_facts ht
  have hE : envK (fun i => (os.getD i default).dst) (fun i => (t.getD i dft).1) (fun _ => true) env os.length = env' := by
    rw [f3, Option.some.injEq, Prod.mk.injEq] at h; exact h.1
  have hheap := heap_trace ht
  have hat : ∀ j, j < os.length → os[j]? = some (opsOf os j) := fun j hj => by simp [opsOf, List.getD_eq_getElem?_getD, List.getElem?_eq_getElem hj]
  -- each heap that comes up is one of those
  have hin : ∀ m, m ≤ os.length → heapsOf H t m ∈ H :: ks.map (·.2) := by
    intro m
    induction m with
    | zero => intro _; exact List.mem_cons_self
    | succ m ih =>
      intro hm
      have hq := h4 m (by omega)
      simp only [Bool.or_eq_true, Bool.and_eq_true] at hq
      rcases hq with hq | ⟨hq, _⟩
      · have hst := f1 m _ (hat m (by omega))
        rw [hheap m (by omega)] at hst
        have : mvOf (opsOf os m).op (heapsOf H t m) (t.getD m dft).2 = false := by simp [mvOf, hq]
        have := mvOf_same this hst
        show (t.getD m dft).2 ∈ _
        rw [this]; exact ih (by omega)
      · have hq' : m ∈ ks.map (·.1) := by simpa using hq
        obtain ⟨p, hp, rfl⟩ := List.mem_map.1 hq'
        obtain ⟨e, hpre⟩ := hk p hp
        obtain ⟨e2, hpre2⟩ := take_trace ht (p.1 + 1) hm
        rw [hpre, Option.some.injEq, Prod.mk.injEq] at hpre2
        rw [← hpre2.2]
        exact List.mem_cons_of_mem _ (List.mem_map_of_mem hp)
  simp only [regOk, Bool.and_eq_true]
  refine ⟨h1, h2, List.all_eq_true.2 fun i hi => ?_⟩
  rw [List.mem_range] at hi
  have hq := h4 i hi
  simp only [Bool.or_eq_true, Bool.and_eq_true] at hq ⊢
  rcases hq with hq | ⟨_, hq⟩
  · exact .inl (by rw [moves_quiet os H t i hq]; rfl)
  · refine .inr (List.all_eq_true.2 fun j hj => ?_)
    have hj' := List.mem_range.1 hj
    have hq := List.all_eq_true.1 hq j hj
    simp only [Bool.or_eq_true] at hq ⊢
    rcases hq with e | e | e | e
    · exact .inl e
    · exact .inr (.inl e)
    · refine .inr (.inr ?_)
      simp only [still, moves_quiet os H t j (isP_quiet e), e, Bool.not_false, Bool.true_or, Bool.true_and]
    · refine .inr (.inr ?_)
      have hjF : j ∈ F := by simpa using e
      obtain ⟨v, hv⟩ := hF j hjF
      have hv2 : ∀ X ∈ H :: ks.map (·.2), stepV κ.c (callT κ T) os (opsOf os j) (envK (fun i => (os.getD i default).dst) (fun i => (t.getD i dft).1) (fun _ => true) env j) X = some (v, X) := by
        intro X hX
        rw [← free_env hj' (h3 j hjF) X, hE]
        exact hv X hX
      have hst := f1 j _ (hat j hj')
      rw [hheap j (by omega), hv2 _ (hin j (by omega)), Option.some.injEq] at hst
      have hmv : (moves os H t).getD j false = false := by
        rw [f2 j hj', hheap j (by omega), ← hst]
        exact mvOf_self _ _
      simp only [still, hmv, Bool.not_false, Bool.true_and]
      rw [Bool.or_eq_true]
      refine .inr (List.all_eq_true.2 fun k hk' => ?_)
      rw [List.mem_range] at hk'
      have hsame : sameStep (some (v, heapsOf H t k)) v (heapsOf H t k) = true := by cases v <;> simp [sameStep, AV.beq_refl]
      rw [Bool.or_eq_true]
      refine .inr ?_
      rw [hheap k (by omega), hv2 _ (hin k (by omega)), ← hst]
      exact hsame
end Go.AM
