/-
  THE ABSTRACT MACHINE WITH ARGUMENTS (own work): what a function tells at one point ('Pt'), what code does from one state ('D'), rules for each form of code, loops by an invariant, calls by what is known of the functions called.
-/
import Derived.Test.YtecfofmndpgnjaaAmFast
namespace Go.AM
open Go.RowKit
set_option linter.unusedSimpArgs false
set_option linter.unusedVariables false

/-- where a proof stands -/
structure Kn where
  c : Ctx
  base : Nat
  w0 : World
  mixed : c.P.follows .mixedOrders = true

variable {κ : Kn}

/-- what a function tells at one point -/
def Pt (κ : Kn) (f : FuncId) (args : List AV) (H : AHeap) (v : AV) (H' : AHeap) : Prop :=
  ∀ ρ w xs, Rel κ.c κ.base κ.w0 ρ H w → Fresh ρ H → VRs ρ args xs →
    Calls κ.c.P f xs.toArray w fun e w' => ∃ ρ' x, e = .returned x ∧ VR ρ' v x ∧ Post κ.c κ.base κ.w0 ρ H w ρ' H' w'

abbrev Spec := List AV → AHeap → AV → AHeap → Prop

open Classical in
noncomputable def callT (κ : Kn) (T : FuncId → Spec) : Callee := fun f args H =>
  if h : ∃ r : AV × AHeap, Pt κ f args H r.1 r.2 ∧ T f args H r.1 r.2 then some (Classical.choose h) else none

theorem callT_spec {T : FuncId → Spec} {f : FuncId} {args : List AV} {H H' : AHeap} {v : AV} (e : callT κ T f args H = some (v, H')) : Pt κ f args H v H' ∧ T f args H v H' := by
  unfold callT at e
  split at e
  · rename_i h
    have hc := Classical.choose_spec h
    rw [Option.some.injEq] at e
    rw [e] at hc
    exact hc
  · cases e

theorem callT_ok (T : FuncId → Spec) : CallOK κ.c κ.base κ.w0 (callT κ T) := fun _ _ _ _ _ e => (callT_spec e).1

theorem callT_run {T : FuncId → Spec} {f : FuncId} {args : List AV} {H : AHeap} (h : ∃ v H', Pt κ f args H v H' ∧ T f args H v H') : ∃ v H', callT κ T f args H = some (v, H') ∧ T f args H v H' := by
  obtain ⟨v, H', h1, h2⟩ := h
  have hx : ∃ r : AV × AHeap, Pt κ f args H r.1 r.2 ∧ T f args H r.1 r.2 := ⟨(v, H'), h1, h2⟩
  refine ⟨(Classical.choose hx).1, (Classical.choose hx).2, ?_, (Classical.choose_spec hx).2⟩
  unfold callT
  rw [dif_pos hx]

/-- the specs of the functions called, by their numbers -/
def tab (l : List (FuncId × Spec)) : FuncId → Spec := fun f args H v H' => ∀ s ∈ l, s.1 = f → s.2 args H v H'

theorem tab_run {l : List (FuncId × Spec)} {f : FuncId} {S : Spec} (hm : (f, S) ∈ l) (hu : ∀ s ∈ l, s.1 = f → s = (f, S)) {args : List AV} {H : AHeap} (h : ∃ v H', Pt κ f args H v H' ∧ S args H v H') :
    ∃ v H', callT κ (tab l) f args H = some (v, H') ∧ S args H v H' := by
  obtain ⟨v, H', h1, h2⟩ := h
  obtain ⟨v, H', h3, h4⟩ := callT_run (T := tab l) ⟨v, H', h1, fun s hs e => by rw [hu s hs e]; exact h2⟩
  exact ⟨v, H', h3, h4 _ hm rfl⟩

/-- what code does from one state -/
def D (κ : Kn) (code : Code) (env : AEnv) (H : AHeap) (K : AExit → AEnv → AHeap → Prop) : Prop :=
  ∃ e env' H', K e env' H' ∧ ∀ ρ w a, Rel κ.c κ.base κ.w0 ρ H w → Fresh ρ H → EnvR ρ env a.tmps → code.wp κ.c.P (Behind κ.c κ.base κ.w0 ρ H w a e env' H') a w

variable {T : FuncId → Spec} {env : AEnv} {H : AHeap} {K : AExit → AEnv → AHeap → Prop}

theorem D.mono {code : Code} {K' : AExit → AEnv → AHeap → Prop} (h : D κ code env H K) (hk : ∀ e env' H', K e env' H' → K' e env' H') : D κ code env H K' := by
  obtain ⟨e, env', H', h1, h2⟩ := h
  exact ⟨e, env', H', hk _ _ _ h1, h2⟩

/-- by a run of the machine -/
theorem D.run {code : Code} {lf : Nat} {e : AExit} {env' : AEnv} {H' : AHeap} (h : acode κ.c drawRunB (callT κ T) lf code env H = some (e, env', H')) (k : K e env' H') : D κ code env H K :=
  ⟨e, env', H', k, fun ρ w a hr hf he => code_sound (callT_ok T) (drawB_sound κ.mixed _ (callT_ok T)) lf code hr hf he h⟩

theorem D.skip (k : K .normal env H) : D κ .skip env H K := D.run (T := fun _ _ _ _ _ => True) (lf := 0) (e := .normal) rfl k
theorem D.ret (k : K .ret env H) : D κ .ret env H K := D.run (T := fun _ _ _ _ _ => True) (lf := 0) (e := .ret) rfl k
theorem D.exit {id : Nat} (k : K (.exit id) env H) : D κ (.exit id) env H K := D.run (T := fun _ _ _ _ _ => True) (lf := 0) (e := .exit id) rfl k
theorem D.label {l : Nat} (k : K .normal env H) : D κ (.label l) env H K := D.run (T := fun _ _ _ _ _ => True) (lf := 0) (e := .normal) rfl k

theorem D.seq {a b : Code} (h : D κ a env H fun e env' H' => match e with | .normal => D κ b env' H' K | e => K e env' H') : D κ (.seq a b) env H K := by
  obtain ⟨e, env1, H1, h1, h2⟩ := h
  cases e with
  | normal =>
    obtain ⟨e, env2, H2, h3, h4⟩ := h1
    refine ⟨e, env2, H2, h3, fun ρ w a hr hf he => wp_seq (wp_mono (h2 ρ w a hr hf he) ?_)⟩
    rintro q a1 w1 ⟨rfl, hdf, ρ1, hp, he1⟩
    refine wp_mono (h4 ρ1 w1 a1 hp.rel (hp.fresh hf) he1) ?_
    rintro q a2 w2 ⟨rfl, h2⟩
    exact ⟨rfl, h2.trans hp hdf⟩
  | exit id =>
    refine ⟨_, env1, H1, h1, fun ρ w a hr hf he => wp_seq (wp_mono (h2 ρ w a hr hf he) ?_)⟩
    rintro q a1 w1 ⟨rfl, h⟩
    exact ⟨rfl, h⟩
  | ret =>
    refine ⟨_, env1, H1, h1, fun ρ w a hr hf he => wp_seq (wp_mono (h2 ρ w a hr hf he) ?_)⟩
    rintro q a1 w1 ⟨rfl, h⟩
    exact ⟨rfl, h⟩

theorem D.cond {q : Operand} {a b : Code} {t : Bool} (hq : aval env q = some (.bool t)) (ha : t = true → D κ a env H K) (hb : t = false → D κ b env H K) : D κ (.cond q a b) env H K := by
  cases t with
  | true =>
    obtain ⟨e, env1, H1, h1, h2⟩ := ha rfl
    refine ⟨e, env1, H1, h1, fun ρ w x hr hf he => ?_⟩
    have hv := aval_sound hr he hq
    simp only [VR] at hv
    exact wp_cond hv (h2 ρ w x hr hf he)
  | false =>
    obtain ⟨e, env1, H1, h1, h2⟩ := hb rfl
    refine ⟨e, env1, H1, h1, fun ρ w x hr hf he => ?_⟩
    have hv := aval_sound hr he hq
    simp only [VR] at hv
    exact wp_cond hv (h2 ρ w x hr hf he)

theorem D.block {id : Nat} {b : Code} (h : D κ b env H fun e env' H' => match e with | .exit j => if j = id then K .normal env' H' else K (.exit j) env' H' | e => K e env' H') : D κ (.block id b) env H K := by
  obtain ⟨e, env1, H1, h1, h2⟩ := h
  cases e with
  | normal =>
    refine ⟨_, env1, H1, h1, fun ρ w a hr hf he => wp_block (wp_mono (h2 ρ w a hr hf he) ?_)⟩
    rintro q a1 w1 ⟨rfl, h⟩
    exact ⟨rfl, h⟩
  | ret =>
    refine ⟨_, env1, H1, h1, fun ρ w a hr hf he => wp_block (wp_mono (h2 ρ w a hr hf he) ?_)⟩
    rintro q a1 w1 ⟨rfl, h⟩
    exact ⟨rfl, h⟩
  | exit j =>
    have h1' : if j = id then K .normal env1 H1 else K (.exit j) env1 H1 := h1
    by_cases hj : j = id
    · rw [if_pos hj] at h1'
      refine ⟨_, env1, H1, h1', fun ρ w a hr hf he => wp_block (wp_mono (h2 ρ w a hr hf he) ?_)⟩
      rintro q a1 w1 ⟨rfl, h⟩
      simp only [AExit.conv, Exit.inBlock]
      rw [if_pos hj]
      exact ⟨rfl, h⟩
    · rw [if_neg hj] at h1'
      refine ⟨_, env1, H1, h1', fun ρ w a hr hf he => wp_block (wp_mono (h2 ρ w a hr hf he) ?_)⟩
      rintro q a1 w1 ⟨rfl, h⟩
      simp only [AExit.conv, Exit.inBlock]
      rw [if_neg hj]
      exact ⟨rfl, h⟩

theorem D.region {id : Nat} {ops : Array Oper} {env' : AEnv} {H' : AHeap} (h : asteps κ.c (callT κ T) ops.toList ops.toList env H = some (env', H')) (k : K .normal env' H') : D κ (.region id ops false) env H K :=
  D.run (T := T) (lf := 0) (e := .normal) (by simp only [acode, h]; rfl) k

theorem D.draw {id : Nat} {ops : Array Oper} {env' : AEnv} {H' : AHeap} (hs : staticOk ops.toList = true) (h : asteps κ.c (callT κ T) ops.toList ops.toList env H = some (env', H')) (k : K .normal env' H') : D κ (.region id ops true) env H K :=
  D.run (T := T) (lf := 0) (e := .normal) (by simp only [acode, drawRunB, hs, h]; rfl) k

theorem D.drawA {id : Nat} {ops : Array Oper} {env' : AEnv} {H' : AHeap} (h : drawRunA κ.c (callT κ T) ops.toList env H = some (env', H')) (k : K .normal env' H') : D κ (.region id ops true) env H K :=
  ⟨.normal, env', H', k, fun ρ w a hr hf he => drawA_sound κ.mixed _ (callT_ok T) id ops env env' H H' h ρ w a hr hf he⟩

/-- A LOOP, by an invariant and what gets less. -/
theorem D.loop {body : Code} (I : Nat → AEnv → AHeap → Prop)
    (hb : ∀ m env H, I m env H → D κ body env H fun e env' H' => match e with | .normal => ∃ m', m' < m ∧ I m' env' H' | e => K e env' H') :
    ∀ m env H, I m env H → D κ (.loop body) env H K := by
  have key : ∀ n m env H, m < n → I m env H → ∃ (k : Nat) (e : AExit) (env' : AEnv) (H' : AHeap), K e env' H' ∧ ∀ ρ w a, Rel κ.c κ.base κ.w0 ρ H w → Fresh ρ H → EnvR ρ env a.tmps → Code.rounds κ.c.P body (Behind κ.c κ.base κ.w0 ρ H w a e env' H') k a w := by
    intro n
    induction n with
    | zero => intro m env H h; omega
    | succ n ih =>
      intro m env H hm hI
      obtain ⟨e, env1, H1, h1, h2⟩ := hb m env H hI
      cases e with
      | normal =>
        obtain ⟨m', hm', hI'⟩ := h1
        obtain ⟨k, e, env2, H2, h3, h4⟩ := ih m' env1 H1 (by omega) hI'
        refine ⟨k + 1, e, env2, H2, h3, fun ρ w a hr hf he => ?_⟩
        rw [rounds_succ]
        refine wp_mono (h2 ρ w a hr hf he) ?_
        rintro q a1 w1 ⟨rfl, hdf, ρ1, hp, he1⟩
        exact rounds_mono (fun x a2 w2 hq => ⟨hq.1, hq.2.trans hp hdf⟩) k a1 w1 (h4 ρ1 w1 a1 hp.rel (hp.fresh hf) he1)
      | exit id =>
        refine ⟨1, _, env1, H1, h1, fun ρ w a hr hf he => ?_⟩
        rw [rounds_succ]
        refine wp_mono (h2 ρ w a hr hf he) ?_
        rintro q a1 w1 ⟨rfl, h⟩
        exact ⟨rfl, h⟩
      | ret =>
        refine ⟨1, _, env1, H1, h1, fun ρ w a hr hf he => ?_⟩
        rw [rounds_succ]
        refine wp_mono (h2 ρ w a hr hf he) ?_
        rintro q a1 w1 ⟨rfl, h⟩
        exact ⟨rfl, h⟩
  intro m env H hI
  obtain ⟨k, e, env', H', h1, h2⟩ := key (m + 1) m env H (by omega) hI
  exact ⟨e, env', H', h1, fun ρ w a hr hf he => wp_loop_rounds k (h2 ρ w a hr hf he)⟩

/-- an environment that knows less -/
def ELe (a b : AEnv) : Prop := a.size = b.size ∧ ∀ t v, eget a t = some v → eget b t = some v

theorem EnvR.less {ρ : Pl} {a b : AEnv} {tmps : Array Value} (h : EnvR ρ b tmps) (e : ELe a b) : EnvR ρ a tmps := ⟨e.1.trans h.1, fun t v hv => h.2 t v (e.2 t v hv)⟩

theorem D.forget {code : Code} {env0 : AEnv} (hl : ELe env0 env) (h : D κ code env0 H K) : D κ code env H K := by
  obtain ⟨e, env1, H1, h1, h2⟩ := h
  exact ⟨e, env1, H1, h1, fun ρ w a hr hf he => h2 ρ w a hr hf (he.less hl)⟩

/-- an environment by its latest settings -/
def E (n : Nat) : List (Nat × AV) → AEnv
  | [] => ⟨n, .leaf⟩
  | (t, v) :: r => eput (E n r) (some t) (some v)

theorem E_size (n : Nat) : ∀ l, (E n l).size = n
  | [] => rfl
  | (t, v) :: r => by rw [E, eput_size, E_size n r]

theorem fits_lt : ∀ (d t : Nat), t < 2 ^ d → Tr.fits (d + 1) t = true
  | 0, 0, _ => rfl
  | 0, t + 1, h => by simp at h
  | d + 1, 0, _ => rfl
  | d + 1, t + 1, h => by
    simp only [Tr.fits]
    exact fits_lt d (t / 2) (by rw [Nat.pow_succ] at h; omega)

theorem E_get {n : Nat} (hn : n ≤ 524288) (t u : Nat) (v : AV) (l : List (Nat × AV)) : eget (E n ((u, v) :: l)) t = if t = u then (if t < n then some v else none) else eget (E n l) t := by
  by_cases h : t = u
  · subst h
    rw [if_pos rfl, E, eput, E_size]
    by_cases hb : t < n
    · rw [if_pos hb]
      have hb' : Nat.blt t n = true := by rw [Nat.blt_eq]; exact hb
      simp only [hb', eget, Tr.get_same]
      rw [fits_lt 19 t (by omega)]
      rfl
    · rw [if_neg hb]
      have hb' : Nat.blt t n = false := by rw [← Bool.not_eq_true, Nat.blt_eq]; exact hb
      simp only [hb', eget, E_size]
  · rw [if_neg h, E, eput_ne (fun e => h (by cases e; rfl))]

theorem E_nil (n t : Nat) : eget (E n []) t = none := by
  unfold eget E
  cases Nat.blt t n <;> simp [Tr.get_leaf]

theorem E_put (n u : Nat) (v : AV) (l : List (Nat × AV)) : eput (E n l) (some u) (some v) = E n ((u, v) :: l) := by cases v <;> rfl
theorem E_put0 (n : Nat) (v : Option AV) (l : List (Nat × AV)) : eput (E n l) none v = E n l := by cases v <;> rfl

theorem E_le {n : Nat} (hn : n ≤ 524288) {l : List (Nat × AV)} {env : AEnv} (hs : env.size = n) (h : ∀ p ∈ l, eget env p.1 = some p.2) : ELe (E n l) env := by
  refine ⟨by rw [E_size, hs], ?_⟩
  induction l with
  | nil => intro t v e; rw [E_nil] at e; cases e
  | cons p r ih =>
    obtain ⟨u, x⟩ := p
    intro t v e
    rw [E_get hn] at e
    split at e
    · rename_i htu; subst htu
      split at e
      · cases e; exact h (t, x) (by simp)
      · cases e
    · exact ih (fun p hp => h p (by simp [hp])) t v e

theorem env0_size (n : Nat) (args : List AV) : (env0 n args).size = args.length + (n - args.length) := rfl

theorem argsTr_set : ∀ (l : List AV) (i : Nat) (x : Tr) (t : Nat), t < 524288 → Tr.get 20 t (argsTr l i x) = if i ≤ t ∧ t < i + l.length then l[t - i]? else Tr.get 20 t x
  | [], i, x, t, ht => by rw [if_neg (by simp)]; rfl
  | v :: r, i, x, t, ht => by
    rw [argsTr, argsTr_set r (i + 1) _ t ht]
    by_cases h1 : i + 1 ≤ t ∧ t < i + 1 + r.length
    · rw [if_pos h1, if_pos (by simp; omega), show t - i = (t - (i + 1)) + 1 by omega, List.getElem?_cons_succ]
    · rw [if_neg h1]
      by_cases h2 : t = i
      · subst h2
        rw [Tr.get_same, if_pos (fits_lt 19 t (by omega)), if_pos (by simp)]
        simp
      · rw [Tr.get_other h2, if_neg (by simp; omega)]

theorem env0_get {n : Nat} {args : List AV} {t : Nat} (hn : args.length + (n - args.length) ≤ 524288) (h : t < args.length) : eget (env0 n args) t = args[t]? := by
  unfold eget
  have hb : Nat.blt t (env0 n args).size = true := by rw [Nat.blt_eq, env0_size]; omega
  rw [hb]
  show Tr.get 20 t (argsTr args 0 .leaf) = _
  rw [argsTr_set _ _ _ _ (by omega), if_pos (by simpa using h)]
  rfl

def numbered : List AV → Nat → List (Nat × AV)
  | [], _ => []
  | v :: r, i => (i, v) :: numbered r (i + 1)

theorem numbered_mem : ∀ {l : List AV} {i : Nat} {p : Nat × AV}, p ∈ numbered l i → i ≤ p.1 ∧ l[p.1 - i]? = some p.2
  | [], _, _, h => by simp [numbered] at h
  | v :: r, i, p, h => by
    simp only [numbered, List.mem_cons] at h
    rcases h with rfl | h
    · simp
    · obtain ⟨h1, h2⟩ := numbered_mem h
      refine ⟨by omega, ?_⟩
      rw [show p.1 - i = (p.1 - (i + 1)) + 1 by omega, List.getElem?_cons_succ]
      exact h2

theorem env0_le {n : Nat} {args : List AV} (hn : args.length + (n - args.length) ≤ 524288) : ELe (E (args.length + (n - args.length)) (numbered args 0)) (env0 n args) := by
  refine E_le hn rfl fun p hp => ?_
  obtain ⟨_, h⟩ := numbered_mem hp
  have h' : args[p.1]? = some p.2 := by simpa using h
  rw [env0_get hn (List.getElem?_eq_some_iff.1 h').1, h']

/-- A FUNCTION, by its body. -/
theorem Pt.body {f : FuncId} {args : List AV} {fn : Func} {b : Code} {Q : AV → AHeap → Prop} (hf : κ.c.P.funcs[f]? = some fn) (hb : fn.body = some b) (hn : args.length + (fn.ntmps - args.length) ≤ 524288)
    (h : D κ b (E (args.length + (fn.ntmps - args.length)) (numbered args 0)) H fun e env' H' => match e with | .exit _ => False | _ => ∃ v, aresults κ.c fn env' H' = some v ∧ Q v H') : ∃ v H', Pt κ f args H v H' ∧ Q v H' := by
  obtain ⟨e, env1, H1, h1, h2⟩ := D.forget (env0_le hn) h
  have key : ∃ v, aresults κ.c fn env1 H1 = some v ∧ Q v H1 ∧ (∀ id, e ≠ .exit id) := by
    cases e with
    | normal => obtain ⟨v, hv, hq⟩ := h1; exact ⟨v, hv, hq, by simp⟩
    | ret => obtain ⟨v, hv, hq⟩ := h1; exact ⟨v, hv, hq, by simp⟩
    | exit id => exact h1.elim
  obtain ⟨v, hv, hq, hne⟩ := key
  refine ⟨v, H1, fun ρ w xs hr hfr hx => ?_, hq⟩
  have henv : EnvR ρ (env0 fn.ntmps args) (xs.toArray ++ Array.replicate (fn.ntmps - xs.toArray.size) undef) := by
    have hl := hx.length
    refine ⟨by simp [env0, hl], fun t u ht => ?_⟩
    rcases argsTr_get (eget_tr ht).2 with ⟨_, h1⟩ | h1
    · obtain ⟨x, hx', hv⟩ := hx.get (by simpa using h1)
      refine ⟨x, ?_, hv⟩
      have := (List.getElem?_eq_some_iff.1 hx').1
      rw [Array.getElem?_append_left (by simpa using this)]
      simpa using hx'
    · rw [Tr.get_leaf] at h1; cases h1
  refine calls_of_wp hf hb (wp_mono (h2 ρ w _ hr hfr henv) ?_)
  rintro q a' w' ⟨rfl, hdf, ρ', hpost, he'⟩
  have fin : a'.defers = [] ∧ ∃ u, (results fn a'.tmps).run κ.c.P w' = .ok u w' ∧ ∃ ρ' x, Ending.returned u = .returned x ∧ VR ρ' v x ∧ Post κ.c κ.base κ.w0 ρ H w ρ' H1 w' := by
    obtain ⟨x, hx1, hx2⟩ := results_sound hpost.rel he' hv
    exact ⟨hdf, x, hx1, ρ', x, rfl, hx2, hpost⟩
  cases e with
  | normal => exact fin
  | ret => exact fin
  | exit id => exact absurd rfl (hne id)

/-- a point that the machine itself runs -/
theorem Pt.run {k : Nat} {f : FuncId} {args : List AV} {v : AV} {H' : AHeap} {pr : Prims} (hp : PrimsOK κ.c κ.base κ.w0 pr) (h : acall κ.c drawRunB gcCall pr k f args H = some (v, H')) : Pt κ f args H v H' :=
  fun ρ w xs hr hf hx => calls_sound hp (fun call hc => drawB_sound κ.mixed call hc) (fun _ hc => gc_sound hc) k f args H v H' h ρ w xs hr hf hx
end Go.AM
