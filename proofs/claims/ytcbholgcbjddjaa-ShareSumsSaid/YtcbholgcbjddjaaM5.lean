/- Texts of the proof in one file (own work): AmKc, AmKw, Ra, Rb, Rc, Rd, AmOne, AmFlat. -/
import Derived.Test.YtcbholgcbjddjaaM4
/-
  REGIONS THAT DRAW THEIR ORDER, run by the kernel (own work): looks and calls that leave the heap as it is.
-/
namespace Go.AM
open Go.RowKit
set_option linter.unusedSimpArgs false
set_option linter.unusedVariables false
variable {κ : Kn} {env : AEnv} {H : AHeap} {K : AExit → AEnv → AHeap → Prop}
theorem D.calmG {id : Nat} {ops : Array Oper} {env' : AEnv} {call : Callee} (hc : CallOK κ.c κ.base κ.w0 call) (hs : (edgesOk ops.toList && apartOk ops.toList) = true) (h : asteps κ.c call ops.toList ops.toList env H = some (env', H))
    (hk : ∀ k, k < ops.toList.length → ∃ e, asteps κ.c call ops.toList (ops.toList.take (k + 1)) env H = some (e, H)) (k : K .normal env' H) : D κ (.region id ops true) env H K := by
  refine ⟨.normal, env', H, k, fun ρ w a hr hf he => ?_⟩
  obtain ⟨t, ht⟩ := trace_of_steps h
  refine order_sound κ.mixed _ hc id ops env env' H H ?_ h ρ w a hr hf he
  simp only [drawOk, ht]
  generalize ops.toList = os at *
  rw [Bool.and_eq_true] at hs
  obtain ⟨h1, h2⟩ := hs
  obtain ⟨f1, f2, f3⟩ := trace_facts ht
  have hheap := heap_trace ht
  have hH : ∀ m, m ≤ os.length → heapsOf H t m = H := by
    intro m
    cases m with
    | zero => intro _; rfl
    | succ m =>
      intro hm
      obtain ⟨e, hpre⟩ := hk m (by omega)
      obtain ⟨e2, hpre2⟩ := take_trace ht (m + 1) hm
      rw [hpre, Option.some.injEq, Prod.mk.injEq] at hpre2
      exact hpre2.2.symm
  simp only [regOk, Bool.and_eq_true]
  refine ⟨h1, h2, List.all_eq_true.2 fun i hi => ?_⟩
  rw [List.mem_range] at hi
  rw [Bool.or_eq_true]
  refine .inl ?_
  rw [f2 i hi, hheap i (by omega), hH i (by omega)]
  have : (t.getD i dft).2 = H := hH (i + 1) (by omega)
  rw [this, mvOf_self]; rfl

theorem acallee_heap {c : Ctx} {cl : Call} {f : FuncId} {args : List AV} {H1 : AHeap} (e : acallee c H env cl = some (.call f args, H1)) : H1 = H := by
  unfold acallee at e
  obtain ⟨as', _, e⟩ := Option.bind_eq_some_iff.1 e
  split at e
  · simp only [Option.map_eq_some_iff] at e
    obtain ⟨_, _, e⟩ := e
    cases e
  · obtain ⟨g, _, e⟩ := Option.bind_eq_some_iff.1 e
    split at e
    · split at e
      · cases e; rfl
      · simp only [Option.map_eq_some_iff] at e
        obtain ⟨_, _, e⟩ := e
        cases e
    · split at e
      · obtain ⟨q, _, e⟩ := Option.bind_eq_some_iff.1 e
        dsimp only at e
        split at e
        · cases e; rfl
        · cases e
      · cases e
    · cases e
  · obtain ⟨g, _, e⟩ := Option.bind_eq_some_iff.1 e
    split at e
    · obtain ⟨q, _, e⟩ := Option.bind_eq_some_iff.1 e
      dsimp only at e
      split at e
      · cases e; rfl
      · cases e
    · cases e

def kcallQ (κ : Kn) (env : AEnv) (H : AHeap) (cl : Call) (an : An) (fs : List Nat) (k : AV → List Nat → Prop) : Prop :=
  match cl.callee, an with
  | .builtin b, .v x => match b, cl.argTypes.toList, avals env cl.args.toList with
    | .len, t :: _, some [y] => alen κ.c H t y = some x ∧ k x fs
    | .max, _, some l => aminmax true l = some x ∧ k x fs
    | .min, _, some l => aminmax false l = some x ∧ k x fs
    | _, _, _ => False
  | .builtin .len, .a => match cl.argTypes.toList, avals env cl.args.toList with
    | t :: _, some [y] => match alen κ.c H t y with
      | some x => k x fs
      | none => False
    | _, _ => False
  | .value q, .v x => match aval env q, avals env cl.args.toList with
    | some (.func (.func f) first captured), some args => match hasBody κ.c.P f with
      | false => aext κ.c.P f (first ++ args ++ captured) = some x ∧ k x fs
      | true => False
    | _, _ => False
  | _, .f x => match acallee κ.c H env cl, fs with
    | some (.call f args, _), f0 :: fs' => match Nat.beq f f0 with
      | true => Pt κ f args H x H ∧ k x fs'
      | false => False
    | _, _ => False
  | _, _ => False

def kregC (κ : Kn) (ops : List Oper) (H : AHeap) : List Oper → AEnv → List An → List Nat → (AEnv → Prop) → Prop
  | [], env, _, _, k => k env
  | o :: r, env, as_, fs, k => match awanted ops env o with
    | some false => kregC κ ops H r (eput env o.dst (some .undef)) as_ fs k
    | some true => match o.op with
      | .call cl => match as_ with
        | an :: as' => kcallQ κ env H cl an fs fun v fs' => kregC κ ops H r (eput env o.dst (some v)) as' fs' k
        | [] => False
      | op => match quiet op with
        | true => kop κ env H false op as_ fun v _ as' => kregC κ ops H r (eput env o.dst (some v)) as' fs k
        | false => False
    | none => False

abbrev Ent := FuncId × List AV × AV
/-- what it comes to, for every callee that knows the calls -/
def Out (κ : Kn) (ops : List Oper) (H : AHeap) (r : List Oper) (env env' : AEnv) (L : List Ent) : Prop :=
  ∀ call : Callee, (∀ e ∈ L, call e.1 e.2.1 H = some (e.2.2, H)) → asteps κ.c call ops r env H = some (env', H) ∧ ∀ m, m < r.length → ∃ e, asteps κ.c call ops (r.take (m + 1)) env H = some (e, H)
theorem Out.cons {ops : List Oper} {o : Oper} {r : List Oper} {env1 env' : AEnv} {L L' : List Ent} (h1 : ∀ call : Callee, (∀ e ∈ L', call e.1 e.2.1 H = some (e.2.2, H)) → astep κ.c call ops o env H = some (env1, H)) (h : Out κ ops H r env1 env' L) : Out κ ops H (o :: r) env env' (L' ++ L) := by
  intro call hL
  have e1 := h1 call fun e he => hL e (by simp [he])
  obtain ⟨e2, e3⟩ := h call fun e he => hL e (by simp [he])
  refine ⟨by simp only [asteps, e1, Option.bind_some]; exact e2, fun m hm => ?_⟩
  cases m with
  | zero => exact ⟨env1, by simp [asteps, e1]⟩
  | succ m =>
    obtain ⟨e, he⟩ := e3 m (by simpa using hm)
    exact ⟨e, by simp only [List.take_succ_cons, asteps, e1, Option.bind_some]; exact he⟩

theorem kcallQ_sound {cl : Call} {an : An} {fs : List Nat} {k : AV → List Nat → Prop} (h : kcallQ κ env H cl an fs k) :
    (∃ v, k v fs ∧ aop κ.c env (.call cl) H = some (.val v, H)) ∨ ∃ f args v fs', fs = f :: fs' ∧ k v fs' ∧ Pt κ f args H v H ∧ aop κ.c env (.call cl) H = some (.call f args, H) := by
  unfold kcallQ at h
  split at h
  · split at h
    · exact .inl ⟨_, h.2, by simp only [aop, acallee, abuiltin, *, Option.bind_some, Option.map_some]⟩
    · exact .inl ⟨_, h.2, by simp only [aop, acallee, abuiltin, *, Option.bind_some, Option.map_some]⟩
    · exact .inl ⟨_, h.2, by simp only [aop, acallee, abuiltin, *, Option.bind_some, Option.map_some]⟩
    · exact h.elim
  · split at h
    · split at h
      · exact .inl ⟨_, h, by simp only [aop, acallee, abuiltin, *, Option.bind_some, Option.map_some]⟩
      · exact h.elim
    · exact h.elim
  · split at h
    · split at h
      · exact .inl ⟨_, h.2, by simp only [aop, acallee, *, Option.bind_some, Option.map_some, Bool.false_eq_true, if_false]⟩
      · exact h.elim
    · exact h.elim
  · split at h
    · rename_i f args H1 f0 fs' hc
      split at h
      · rename_i hb
        have hb := Nat.eq_of_beq_eq_true hb
        subst hb
        have := acallee_heap hc
        subst this
        exact .inr ⟨f, args, _, fs', rfl, h.2, h.1, by simp only [aop]; exact hc⟩
      · exact h.elim
    · exact h.elim
  · exact h.elim

theorem kregC_sound {ops : List Oper} {k : AEnv → Prop} : ∀ (r : List Oper) {env : AEnv} {as_ : List An} {fs : List Nat}, kregC κ ops H r env as_ fs k →
    ∃ (env' : AEnv) (L : List Ent) (fs' : List Nat), k env' ∧ Fr r env env' ∧ (∀ e ∈ L, Pt κ e.1 e.2.1 H e.2.2 H) ∧ L.map (·.1) ++ fs' = fs ∧ Out κ ops H r env env' L
  | [], env, as_, fs, h => ⟨env, [], fs, h, Fr.nil, by simp, rfl, fun call _ => ⟨rfl, fun m hm => by simp at hm⟩⟩
  | o :: r, env, as_, fs, h => by
    simp only [kregC] at h
    split at h
    · rename_i hw
      obtain ⟨env', L, fs', h1, h2, h3, h4, h5⟩ := kregC_sound r h
      exact ⟨env', [] ++ L, fs', h1, h2.cons, h3, h4, h5.cons fun call _ => by simp only [astep, hw, Option.bind_some, Bool.false_eq_true, if_false]⟩
    · rename_i hw
      split at h
      · rename_i cl hop
        split at h
        · rcases kcallQ_sound h with ⟨v, h, e⟩ | ⟨f, args, v, fs1, rfl, h, hp, e⟩
          · obtain ⟨env', L, fs', h1, h2, h3, h4, h5⟩ := kregC_sound r h
            exact ⟨env', [] ++ L, fs', h1, h2.cons, h3, h4, h5.cons fun call _ => by simp only [astep, hw, Option.bind_some, if_true, hop, e]⟩
          · obtain ⟨env', L, fs', h1, h2, h3, h4, h5⟩ := kregC_sound r h
            refine ⟨env', [(f, args, v)] ++ L, fs', h1, h2.cons, fun e he => ?_, by simp [h4], h5.cons fun call hL => ?_⟩
            · rcases List.mem_append.1 he with he | he
              · simp at he; subst he; exact hp
              · exact h3 e he
            · have := hL (f, args, v) (by simp)
              simp only at this
              simp only [astep, hw, Option.bind_some, if_true, hop, e, this]
        · exact h.elim
      · split at h
        · rename_i hq
          obtain ⟨v, H1, as', hs, h⟩ := kop_sound h
          obtain ⟨env', L, fs', h1, h2, h3, h4, h5⟩ := kregC_sound r h
          have hv : aop κ.c env o.op H = some (.val v, H) := by
            rcases hs with e | ⟨rfl, e⟩ | ⟨e, _⟩
            · obtain ⟨rfl, _⟩ := quiet_same hq e
              exact e
            · obtain ⟨_, _, e'⟩ := quiet_same hq e
              cases e'
            · cases e
          exact ⟨env', [] ++ L, fs', h1, h2.cons, h3, h4, h5.cons fun call _ => by simp only [astep, hw, Option.bind_some, if_true, hv]⟩
        · exact h.elim
    · exact h.elim

def kgoC (κ : Kn) (ops : List Oper) (n : Nat) (l new : List (Nat × AV)) (H H' : AHeap) (fs : List Nat) (as_ : List An) : Prop :=
  match (edgesOk ops && apartOk ops) && (Nat.ble n 524288 && decide fs.Nodup) with
  | true => kregC κ ops H ops (E n l) as_ fs fun env1 => (keysOk new l ops, new.map (fun p => eget env1 p.1), H) = (true, new.map (fun p => some p.2), H')
  | false => False
variable {new : List (Nat × AV)} {H' : AHeap} {P : Prop}
theorem D.kc {id n : Nat} {l : List (Nat × AV)} {ops : Array Oper} (fs : List Nat) (F : Fx new H' P) (e : kgoC κ ops.toList n l new H H' fs F.ans = P) (k : K .normal (E n (new ++ l)) H') : D κ (.region id ops true) (E n l) H K := by
  have h : kgoC κ ops.toList n l new H H' fs F.ans := by rw [e]; exact F.pf
  unfold kgoC at h
  split at h
  · rename_i hb
    rw [Bool.and_eq_true, Bool.and_eq_true (Nat.ble _ _)] at hb
    obtain ⟨hs, hn, hd⟩ := hb
    have hn := Nat.le_of_ble_eq_true hn
    have hd := of_decide_eq_true hd
    obtain ⟨env1, L, fs', h1, hf, hL, hfs, ho⟩ := kregC_sound ops.toList h
    simp only [Prod.mk.injEq] at h1
    obtain ⟨hk, hv, rfl⟩ := h1
    have hle := kept hn hf hk hv
    have hnd : (L.map (·.1)).Nodup := by rw [← hfs] at hd; exact (List.nodup_append.1 hd).1
    classical
    let call : Callee := fun f args H' => if H' = H then (L.find? fun e => decide (e.1 = f ∧ e.2.1 = args)).map fun e => (e.2.2, H) else none
    have hc : CallOK κ.c κ.base κ.w0 call := by
      intro f args H1 v H2 hcall
      simp only [call] at hcall
      split at hcall
      · rename_i hH
        subst hH
        simp only [Option.map_eq_some_iff] at hcall
        obtain ⟨e, he, hx⟩ := hcall
        cases hx
        have h1 := List.find?_some he
        have h1 := of_decide_eq_true h1
        obtain ⟨rfl, rfl⟩ := h1
        exact hL e (List.mem_of_find?_eq_some he)
      · cases hcall
    have hcall : ∀ e ∈ L, call e.1 e.2.1 H = some (e.2.2, H) := by
      intro e he
      simp only [call, if_true, Option.map_eq_some_iff]
      refine ⟨e, ?_, rfl⟩
      cases hq : L.find? (fun e' => decide (e'.1 = e.1 ∧ e'.2.1 = e.2.1)) with
      | none =>
        rw [List.find?_eq_none] at hq
        exact absurd (decide_eq_true (show e.1 = e.1 ∧ e.2.1 = e.2.1 from ⟨rfl, rfl⟩)) (hq e he)
      | some e' =>
        have h0 := List.find?_some hq
        have h1 := of_decide_eq_true h0
        have h2 := List.mem_of_find?_eq_some hq
        obtain ⟨i, hi, rfl⟩ := List.getElem_of_mem he
        obtain ⟨j, hj, rfl⟩ := List.getElem_of_mem h2
        have : j = i := by
          have hh : (L.map (·.1))[j]'(by simpa using hj) = (L.map (·.1))[i]'(by simpa using hi) := by simpa using h1.1
          exact nodup_inj hnd hh
        subst this; rfl
    obtain ⟨a1, a2⟩ := ho call hcall
    obtain ⟨e, env2, H2, hk2, hw⟩ := D.calmG (κ := κ) (id := id) (K := fun e env2 H2 => e = .normal ∧ env2 = env1 ∧ H2 = H) hc hs a1 a2 ⟨rfl, rfl, rfl⟩
    obtain ⟨rfl, rfl, rfl⟩ := hk2
    refine ⟨.normal, _, _, k, fun ρ w a hr hfr hen => wp_mono (hw ρ w a hr hfr hen) ?_⟩
    rintro x a' w' ⟨hx, hd, ρ', hp, he'⟩
    exact ⟨hx, hd, ρ', hp, he'.less hle⟩
  · exact h.elim
theorem D.kcs {id n : Nat} {l : List (Nat × AV)} {ops : Array Oper} {b : Code} (fs : List Nat) (F : Fx new H' P) (e : kgoC κ ops.toList n l new H H' fs F.ans = P) (k : D κ b (E n (new ++ l)) H' K) : D κ (.region id ops true) (E n l) H (Ks κ b K) := D.kc fs F e k
theorem Keep.take {H H' : AHeap} (h : Keep H H' (fun _ => False)) : H'.take H.length = H := by
  apply List.ext_getElem?
  intro j
  rw [List.getElem?_take]
  by_cases hj : j < H.length
  · rw [if_pos hj]
    have h1 := h.2 j hj id
    have h2 := h.1
    unfold hat at h1
    rw [List.getElem?_eq_getElem hj, List.getElem?_eq_getElem (by omega)] at h1 ⊢
    simp only at h1
    rw [h1]
  · rw [if_neg hj, List.getElem?_eq_none (by omega)]
/-- a function that only makes new things and tells none of them leaves the heap as it is -/
theorem Pt.pure {f : FuncId} {args : List AV} {v : AV} (h : ∃ r H', Pt κ f args H r H' ∧ (r = v ∧ Keep H H' (fun _ => False))) (hv : v.low H.length = true) : Pt κ f args H v H := by
  obtain ⟨r, H', h1, rfl, h2⟩ := h
  exact h1.shrink hv h2.take
end Go.AM

/-
  REGIONS THAT DRAW THEIR ORDER, run by the kernel (own work): looks and calls that leave the heap as it is, then movers in a row.
-/
namespace Go.AM
open Go.RowKit
set_option linter.unusedSimpArgs false
set_option linter.unusedVariables false
variable {κ : Kn} {T : FuncId → Spec} {env : AEnv} {H : AHeap} {K : AExit → AEnv → AHeap → Prop}

/-- who looks: not a plain value, but leaving the heap -/
def lookI (ops : List Oper) (cm : List Nat) (i : Nat) : Bool := !isP (opsOf ops i).op && (quiet (opsOf ops i).op || cm.contains i)
/-- who moves -/
def moveI (ops : List Oper) (cm : List Nat) (i : Nat) : Bool := !(quiet (opsOf ops i).op || cm.contains i)
def wOk (ops : List Oper) (cm : List Nat) : Bool :=
  rowOk ops ((List.range ops.length).filter (lookI ops cm)) ((List.range ops.length).filter (moveI ops cm)) &&
  ((List.range ops.length).filter (lookI ops cm)).all fun j => ((List.range ops.length).filter (moveI ops cm)).all fun i => ((Region.before ops.toArray).getD i 0).testBit j

def kcalm (κ : Kn) (T : FuncId → Spec) (env : AEnv) (H : AHeap) (cl : Call) (an : An) (k : AV → Prop) : Prop :=
  match cl.callee, an with
  | .builtin b, .v x => match b, cl.argTypes.toList, avals env cl.args.toList with
    | .len, t :: _, some [y] => alen κ.c H t y = some x ∧ k x
    | .max, _, some l => aminmax true l = some x ∧ k x
    | .min, _, some l => aminmax false l = some x ∧ k x
    | _, _, _ => False
  | .builtin .len, .a => match cl.argTypes.toList, avals env cl.args.toList with
    | t :: _, some [y] => match alen κ.c H t y with
      | some x => k x
      | none => False
    | _, _ => False
  | .value q, .v x => match aval env q, avals env cl.args.toList with
    | some (.func (.func f) first captured), some args => match hasBody κ.c.P f with
      | false => aext κ.c.P f (first ++ args ++ captured) = some x ∧ k x
      | true => False
    | _, _ => False
  | _, .vh x _ => match acallee κ.c H env cl with
    | some (.call f args, _) => callT κ T f args H = some (x, H) ∧ k x
    | _ => False
  | _, _ => False
theorem kcalm_sound {cl : Call} {an : An} {k : AV → Prop} (h : kcalm κ T env H cl an k) : ∃ v, k v ∧ ∃ r, aop κ.c env (.call cl) H = some (r, H) ∧ match r with
    | .val u => u = v
    | .skip => False
    | .call f args => callT κ T f args H = some (v, H) := by
  unfold kcalm at h
  split at h
  · split at h
    · exact ⟨_, h.2, .val _, by simp only [aop, acallee, abuiltin, *, Option.bind_some, Option.map_some], rfl⟩
    · exact ⟨_, h.2, .val _, by simp only [aop, acallee, abuiltin, *, Option.bind_some, Option.map_some], rfl⟩
    · exact ⟨_, h.2, .val _, by simp only [aop, acallee, abuiltin, *, Option.bind_some, Option.map_some], rfl⟩
    · exact h.elim
  · split at h
    · split at h
      · exact ⟨_, h, .val _, by simp only [aop, acallee, abuiltin, *, Option.bind_some, Option.map_some], rfl⟩
      · exact h.elim
    · exact h.elim
  · split at h
    · split at h
      · exact ⟨_, h.2, .val _, by simp only [aop, acallee, *, Option.bind_some, Option.map_some, Bool.false_eq_true, if_false], rfl⟩
      · exact h.elim
    · exact h.elim
  · split at h
    · rename_i f args H1 hc
      have := acallee_heap hc
      subst this
      exact ⟨_, h.2, _, by simp only [aop]; exact hc, h.1⟩
    · exact h.elim
  · exact h.elim

def kregW (κ : Kn) (T : FuncId → Spec) (ops : List Oper) (cm : List Nat) : List Oper → Nat → AEnv → AHeap → Bool → List An → (AEnv → AHeap → Prop) → Prop
  | [], _, env, H, _, _, k => k env H
  | o :: r, i, env, H, mv, as_, k => match awanted ops env o with
    | some false => kregW κ T ops cm r (i + 1) (eput env o.dst (some .undef)) H mv as_ k
    | some true => match isP o.op with
      | true => kop κ env H false o.op as_ fun v _ as' => kregW κ T ops cm r (i + 1) (eput env o.dst (some v)) H mv as' k
      | false => match quiet o.op with
        | true => match mv with
          | true => False
          | false => kop κ env H false o.op as_ fun v _ as' => kregW κ T ops cm r (i + 1) (eput env o.dst (some v)) H mv as' k
        | false => match cm.contains i with
          | true => match mv, o.op, as_ with
            | false, .call cl, an :: as' => kcalm κ T env H cl an fun v => kregW κ T ops cm r (i + 1) (eput env o.dst (some v)) H mv as' k
            | _, _, _ => False
          | false => kop κ env H false o.op as_ fun v H' as' => kregW κ T ops cm r (i + 1) (eput env o.dst (some v)) H' true as' k
    | none => False

theorem asteps_snoc {c : Ctx} {call : Callee} {ops : List Oper} : ∀ {l : List Oper} {o : Oper} {env e1 e2 : AEnv} {H H1 H2 : AHeap}, asteps c call ops l env H = some (e1, H1) → astep c call ops o e1 H1 = some (e2, H2) → asteps c call ops (l ++ [o]) env H = some (e2, H2)
  | [], o, env, e1, e2, H, H1, H2, h, h2 => by cases h; simp only [List.nil_append, asteps, h2, Option.bind_some]
  | a :: l, o, env, e1, e2, H, H1, H2, h, h2 => by
    simp only [asteps, Option.bind_eq_some_iff] at h
    obtain ⟨⟨e3, H3⟩, h3, h4⟩ := h
    simp only [List.cons_append, asteps, h3, Option.bind_some]
    exact asteps_snoc h4 h2

theorem kregW_sound {ops : List Oper} {cm : List Nat} {env0 : AEnv} {H0 : AHeap} {k : AEnv → AHeap → Prop} : ∀ (r : List Oper) (i : Nat) {env : AEnv} {H : AHeap} {mv : Bool} {as_ : List An}, ops.drop i = r → asteps κ.c (callT κ T) ops (ops.take i) env0 H0 = some (env, H) → (mv = false → H = H0) →
    kregW κ T ops cm r i env H mv as_ k →
    ∃ (env' : AEnv) (H' : AHeap) (ks : List (Nat × AHeap)), k env' H' ∧ Fr r env env' ∧ asteps κ.c (callT κ T) ops ops env0 H0 = some (env', H') ∧
      (∀ p ∈ ks, ∃ e, asteps κ.c (callT κ T) ops (ops.take (p.1 + 1)) env0 H0 = some (e, p.2)) ∧ ks.map (·.1) = (List.range' i r.length).filter (moveI ops cm) ∧
      ∀ j, i ≤ j → j < i + r.length → lookI ops cm j = true → ∃ v env1, stepV κ.c (callT κ T) ops (opsOf ops j) env1 H0 = some (v, H0) ∧ Fr (ops.drop j) env1 env'
  | [], i, env, H, mv, as_, hdr, hpre, hmv, h => by
    have hi : ops.length ≤ i := by simpa using hdr
    rw [List.take_of_length_le hi] at hpre
    exact ⟨env, H, [], h, Fr.nil, hpre, by simp, by simp, fun j h1 h2 => by simp at h2; omega⟩
  | o :: r, i, env, H, mv, as_, hdr, hpre, hmv, h => by
    have ho : ops[i]? = some o := by
      have := congrArg (fun l => l[0]?) hdr
      simpa using this
    have hil : i < ops.length := (List.getElem?_eq_some_iff.1 ho).1
    have hdr' : ops.drop (i + 1) = r := by rw [← List.drop_drop, hdr]; rfl
    have htk : ops.take (i + 1) = ops.take i ++ [o] := by rw [List.take_add_one, ho]; rfl
    have hop : opsOf ops i = o := by simp [opsOf, List.getD_eq_getElem?_getD, ho]
    -- one step, and all that is behind it
    have go : ∀ {env1 : AEnv} {H1 : AHeap} {mv1 : Bool} {as1 : List An} {u : Option AV}, env1 = eput env o.dst u → stepV κ.c (callT κ T) ops o env H = some (u, H1) → (mv1 = false → H1 = H0) → (lookI ops cm i = true → stepV κ.c (callT κ T) ops o env H0 = some (u, H0)) →
        kregW κ T ops cm r (i + 1) env1 H1 mv1 as1 k → ∃ (env' : AEnv) (H' : AHeap) (ks : List (Nat × AHeap)), k env' H' ∧ Fr (o :: r) env env' ∧ asteps κ.c (callT κ T) ops ops env0 H0 = some (env', H') ∧
      (∀ p ∈ ks, ∃ e, asteps κ.c (callT κ T) ops (ops.take (p.1 + 1)) env0 H0 = some (e, p.2)) ∧ ks.map (·.1) = (List.range' i (o :: r).length).filter (moveI ops cm) ∧
      ∀ j, i ≤ j → j < i + (o :: r).length → lookI ops cm j = true → ∃ v env1, stepV κ.c (callT κ T) ops (opsOf ops j) env1 H0 = some (v, H0) ∧ Fr (ops.drop j) env1 env' := by
      intro env1 H1 mv1 as1 u he hst hm1 hlk hk
      subst he
      have hstep : astep κ.c (callT κ T) ops o env H = some (eput env o.dst u, H1) := by rw [astep_stepV, hst]; rfl
      have hpre1 : asteps κ.c (callT κ T) ops (ops.take (i + 1)) env0 H0 = some (eput env o.dst u, H1) := by rw [htk]; exact asteps_snoc hpre hstep
      obtain ⟨env', H', ks, h1, h2, h3, h4, h5, h6⟩ := kregW_sound r (i + 1) hdr' hpre1 hm1 hk
      refine ⟨env', H', if moveI ops cm i then (i, H1) :: ks else ks, h1, h2.cons, h3, fun p hp => ?_, ?_, fun j hj1 hj2 hlj => ?_⟩
      · split at hp
        · rcases List.mem_cons.1 hp with rfl | hp
          · exact ⟨_, hpre1⟩
          · exact h4 p hp
        · exact h4 p hp
      · rw [List.length_cons, List.range'_succ, List.filter_cons]
        split
        · rw [List.map_cons, h5]
        · exact h5
      · by_cases hji : j = i
        · subst hji
          exact ⟨u, env, by rw [hop]; exact hlk hlj, by rw [hdr]; exact h2.cons⟩
        · exact h6 j (by omega) (by simp at hj2; omega) hlj
    simp only [kregW] at h
    split at h
    · rename_i hw
      exact go rfl (by simp only [stepV, hw, Option.bind_some, Bool.false_eq_true, if_false]) hmv (fun _ => by simp only [stepV, hw, Option.bind_some, Bool.false_eq_true, if_false]) h
    · rename_i hw
      have val : ∀ {v : AV} {H1 : AHeap}, Stp κ false env H o.op v H1 → stepV κ.c (callT κ T) ops o env H = some (some v, H1) := by
        intro v H1 hs
        rcases hs with e | ⟨rfl, e⟩ | ⟨e, _⟩
        · simp only [stepV, hw, Option.bind_some, if_true, e]
        · simp only [stepV, hw, Option.bind_some, if_true, e]
        · cases e
      have still : ∀ {v : AV} {H1 : AHeap}, quiet o.op = true → Stp κ false env H o.op v H1 → H1 = H := by
        intro v H1 hq hs
        rcases hs with e | ⟨rfl, e⟩ | ⟨e, _⟩
        · exact (quiet_same hq e).1
        · exact (quiet_same hq e).1
        · cases e
      split at h
      · rename_i hp
        obtain ⟨v, H1, as', hs, h⟩ := kop_sound h
        have hq : quiet o.op = true := by unfold quiet; split <;> first | rfl | exact hp
        have := still hq hs
        subst this
        refine go rfl (val hs) hmv (fun hl => ?_) h
        simp [lookI, hop, hp] at hl
      · split at h
        · rename_i hp hq
          split at h
          · exact h.elim
          · obtain ⟨v, H1, as', hs, h⟩ := kop_sound h
            have := still hq hs
            subst this
            have e0 := hmv rfl
            exact go rfl (val hs) hmv (fun _ => e0 ▸ val hs) h
        · split at h
          · split at h
            · rename_i _ cl an as' hop'
              obtain ⟨v, h, rr, e, hr⟩ := kcalm_sound h
              have e0 := hmv rfl
              have hst : stepV κ.c (callT κ T) ops o env H = some (some v, H) := by
                simp only [stepV, hw, Option.bind_some, if_true, hop', e]
                cases rr with
                | val u => simp only at hr; rw [hr]
                | skip => exact hr.elim
                | call f args => simp only at hr; simp only [hr, Option.bind_some]
              exact go rfl hst hmv (fun _ => e0 ▸ hst) h
            · exact h.elim
          · rename_i _ hq _ hcm
            obtain ⟨v, H1, as', hs, h⟩ := kop_sound h
            refine go (mv1 := true) rfl (val hs) (fun e => by cases e) (fun hl => ?_) h
            rw [lookI, hop] at hl
            rw [hq, hcm] at hl
            simp at hl
    · exact h.elim

def kgoW (κ : Kn) (T : FuncId → Spec) (ops : List Oper) (n : Nat) (l new : List (Nat × AV)) (H H' : AHeap) (cm : List Nat) (as_ : List An) : Prop :=
  match wOk ops cm && Nat.ble n 524288 with
  | true => kregW κ T ops cm ops 0 (E n l) H false as_ fun env1 H1 => (keysOk new l ops, new.map (fun p => eget env1 p.1), H1) = (true, new.map (fun p => some p.2), H')
  | false => False
variable {new : List (Nat × AV)} {H' : AHeap} {P : Prop}
theorem D.kw {id n : Nat} {l : List (Nat × AV)} {ops : Array Oper} (T : FuncId → Spec) (cm : List Nat) (F : Fx new H' P) (e : kgoW κ T ops.toList n l new H H' cm F.ans = P) (k : K .normal (E n (new ++ l)) H') : D κ (.region id ops true) (E n l) H K := by
  have h : kgoW κ T ops.toList n l new H H' cm F.ans := by rw [e]; exact F.pf
  unfold kgoW at h
  split at h
  · rename_i hb
    rw [Bool.and_eq_true] at hb
    obtain ⟨hw, hn⟩ := hb
    have hn := Nat.le_of_ble_eq_true hn
    rw [wOk, Bool.and_eq_true] at hw
    obtain ⟨hrow, hbef⟩ := hw
    obtain ⟨env1, H1, ks, h1, hf, h3, h4, h5, h6⟩ := kregW_sound (env0 := E n l) (H0 := H) ops.toList 0 rfl rfl (fun _ => rfl) h
    simp only [Prod.mk.injEq] at h1
    obtain ⟨hk, hv, rfl⟩ := h1
    have hle := kept hn hf hk hv
    have h5' : ks.map (·.1) = (List.range ops.toList.length).filter (moveI ops.toList cm) := by rw [h5, List.range_eq_range']
    have hF : ∀ j ∈ (List.range ops.toList.length).filter (lookI ops.toList cm), ∃ v, ∀ X ∈ H :: (ks.filter fun p => !((Region.before ops.toList.toArray).getD p.1 0).testBit j).map (·.2), stepV κ.c (callT κ T) ops.toList (opsOf ops.toList j) env1 X = some (v, X) := by
      intro j hj
      have hj' := hj
      rw [List.mem_filter, List.mem_range] at hj
      obtain ⟨v, env2, hs, hfr⟩ := h6 j (by omega) (by simpa using hj.1) hj.2
      refine ⟨v, fun X hX => ?_⟩
      have hnil : (ks.filter fun p => !((Region.before ops.toList.toArray).getD p.1 0).testBit j) = [] := by
        rw [List.filter_eq_nil_iff]
        intro p hp
        have hm : p.1 ∈ (List.range ops.toList.length).filter (moveI ops.toList cm) := by rw [← h5']; exact List.mem_map.2 ⟨p, hp, rfl⟩
        have := List.all_eq_true.1 (List.all_eq_true.1 hbef j hj') p.1 hm
        rw [this]
        decide
      rw [hnil] at hX
      simp at hX
      subst hX
      have hfix : fixJ ops.toList j = true := by
        simp only [rowOk, Bool.and_eq_true, List.all_eq_true] at hrow
        exact hrow.2.2.1 j hj'
      have hr : ∀ a ∈ (opsOf ops.toList j).looksAt ops.toList.toArray, eget env1 a = eget env2 a := by
        intro a ha
        refine hfr.2 a fun o ho hd => ?_
        obtain ⟨m, hm, rfl⟩ := List.getElem_of_mem ho
        rw [List.getElem_drop] at hd
        rw [List.length_drop] at hm
        have := List.all_eq_true.1 (List.all_eq_true.1 hfix a ha) (j + m) (List.mem_range.2 (by omega))
        rw [Bool.or_eq_true] at this
        rcases this with h' | h'
        · rw [Nat.blt_eq] at h'; omega
        · rw [opsOf, List.getD_eq_getElem?_getD, List.getElem?_eq_getElem (by omega)] at h'
          simp only [Option.getD_some] at h'
          rw [hd] at h'
          simp at h'
      simp only [stepV, awanted_reads hr, aop_congr (aval_reads hr)]
      exact hs
    obtain ⟨e', env2, H2, hk2, hw2⟩ := D.row (κ := κ) (T := T) (id := id) (K := fun e env2 H2 => e = .normal ∧ env2 = env1 ∧ H2 = H1) _ ks (by rw [h5']; exact hrow) h3 h4 hF ⟨rfl, rfl, rfl⟩
    obtain ⟨rfl, rfl, rfl⟩ := hk2
    refine ⟨.normal, _, _, k, fun ρ w a hr hfr hen => wp_mono (hw2 ρ w a hr hfr hen) ?_⟩
    rintro x a' w' ⟨hx, hd, ρ', hp, he'⟩
    exact ⟨hx, hd, ρ', hp, he'.less hle⟩
  · exact h.elim
theorem D.kws {id n : Nat} {l : List (Nat × AV)} {ops : Array Oper} {b : Code} (T : FuncId → Spec) (cm : List Nat) (F : Fx new H' P) (e : kgoW κ T ops.toList n l new H H' cm F.ans = P) (k : D κ b (E n (new ++ l)) H' K) : D κ (.region id ops true) (E n l) H (Ks κ b K) := D.kw T cm F e k
/-- functions that leave the heap and are told by a relation that tells one answer alone -/
def pureT (R : FuncId → List AV → AV → Prop) : FuncId → Spec := fun f args H v H' => H = H' ∧ R f args v
theorem pureT_call {R : FuncId → List AV → AV → Prop} {f : FuncId} {args : List AV} {v : AV} (hp : Pt κ f args H v H) (hr : R f args v) (hu : ∀ v', R f args v' → v' = v) : callT κ (pureT R) f args H = some (v, H) := by
  obtain ⟨v', H', h1, h2, h3⟩ := callT_run (T := pureT R) ⟨v, H, hp, rfl, hr⟩
  rw [h1, hu v' h3, h2]
end Go.AM

/- ratio over small numbers that are not below nought (own work): products. -/
namespace Go.Proofs.Ytcbholgcbjddjaa.sy
open Go.AM
set_option linter.unusedSimpArgs false
set_option linter.unusedVariables false
variable {G : List Nat → Option (List AV)} {base : Nat} {w0 : World}
set_option maxRecDepth 100000
variable {H : AHeap}
/-- a wide number that is small -/
abbrev wd (n : Nat) (b : Bool) : AV := .agg [.int .u64 0, .int .u64 n, .bool b]
theorem size_ok (a : Nat) (ha : a < 4611686018427387904) : ∃ r H', Pt (kn G base w0) 53 [.int .i64 a] H r H' ∧ (r = .int .u64 a ∧ H = H') := by
  refine Pt.fn (n := 10) (rs := [.tmp 2]) Try.func53 (b := _) rfl rfl rfl (by decide) ?_
  simp only [numbered]
  refine D.sq (D.ks (.e [(2, AV.int IntKind.u64 0)] H) (by kernel_rfl) (D.sq (D.sq (D.ks (.o (show ¬ ((↑a : Int) < 0) by omega) <| .e [(4, AV.bool false)] H) (by kernel_rfl) (D.cf (by kernel_rfl) (D.skip (Ks_n' (D.sq (D.ks (.n (@wrap_tou ((↑a : Int)) ((↑a : Int)) (by omega) (by omega) (by omega)) <| .e [(2, AV.int IntKind.u64 (↑a : Int))] H) (by kernel_rfl) (D.ret (Kf_by (AV.int IntKind.u64 (↑a : Int)) (.r (AV.int IntKind.u64 (↑a : Int))) (by kernel_rfl) ?_)))))))))))
  exact ⟨rfl, rfl⟩
theorem wsize_ok (a : Nat) (ha : a < 4611686018427387904) : ∃ r H', Pt (kn G base w0) 63 [.int .i64 a] H r H' ∧ (r = .int .u64 a ∧ H = H') := by
  refine Pt.fn (n := 10) (rs := [.tmp 2]) Try.func63 (b := _) rfl rfl rfl (by decide) ?_
  simp only [numbered]
  refine D.sq (D.ks (.e [(2, AV.int IntKind.u64 0)] H) (by kernel_rfl) (D.sq (D.sq (D.ks (.o (show ¬ ((↑a : Int) < 0) by omega) <| .e [(4, AV.bool false)] H) (by kernel_rfl) (D.cf (by kernel_rfl) (D.skip (Ks_n' (D.sq (D.ks (.n (@wrap_tou ((↑a : Int)) ((↑a : Int)) (by omega) (by omega) (by omega)) <| .e [(2, AV.int IntKind.u64 (↑a : Int))] H) (by kernel_rfl) (D.ret (Kf_by (AV.int IntKind.u64 (↑a : Int)) (.r (AV.int IntKind.u64 (↑a : Int))) (by kernel_rfl) ?_)))))))))))
  exact ⟨rfl, rfl⟩
theorem zero_ok (n : Nat) (b : Bool) : ∃ r H', Pt (kn G base w0) 49 [wd n b] H r H' ∧ (r = .bool (decide (n = 0)) ∧ Keep H H' (fun _ => False)) := by
  refine Pt.fn (n := 11) (rs := [.tmp 2]) Try.func49 (b := _) rfl rfl rfl (by decide) ?_
  simp only [numbered]
  by_cases h : n = 0
  · refine D.sq (D.ks (.a <| .e [(2, AV.bool false), (1, AV.ptr (Loc.own (List.length H)) 0)] (hnew H (AObj.row 71 3 [AV.int IntKind.u64 0, AV.int IntKind.u64 (↑n : Int), AV.bool b]))) (by kernel_rfl) (D.sq (D.ks (.a <| .q (@hat_nn H (AObj.row 71 3 [AV.int IntKind.u64 0, AV.int IntKind.u64 (↑n : Int), AV.bool b])) <| .a <| .a <| .q (@hat_nn H (AObj.row 71 3 [AV.int IntKind.u64 0, AV.int IntKind.u64 (↑n : Int), AV.bool b])) <| .y (show (↑n : Int) = 0 by omega) <| .e [(2, AV.bool true)] (hnew H (AObj.row 71 3 [AV.int IntKind.u64 0, AV.int IntKind.u64 (↑n : Int), AV.bool b]))) (by kernel_rfl) (D.ret (Kf_by (AV.bool true) (.r (AV.bool true)) (by kernel_rfl) ?_)))))
    exact ⟨by rw [decide_eq_true h], Keep.new _ _⟩
  · refine D.sq (D.ks (.a <| .e [(2, AV.bool false), (1, AV.ptr (Loc.own (List.length H)) 0)] (hnew H (AObj.row 71 3 [AV.int IntKind.u64 0, AV.int IntKind.u64 (↑n : Int), AV.bool b]))) (by kernel_rfl) (D.sq (D.ks (.a <| .q (@hat_nn H (AObj.row 71 3 [AV.int IntKind.u64 0, AV.int IntKind.u64 (↑n : Int), AV.bool b])) <| .a <| .a <| .q (@hat_nn H (AObj.row 71 3 [AV.int IntKind.u64 0, AV.int IntKind.u64 (↑n : Int), AV.bool b])) <| .o (show ¬ ((↑n : Int) = 0) by omega) <| .e [(2, AV.bool false)] (hnew H (AObj.row 71 3 [AV.int IntKind.u64 0, AV.int IntKind.u64 (↑n : Int), AV.bool b]))) (by kernel_rfl) (D.ret (Kf_by (AV.bool false) (.r (AV.bool false)) (by kernel_rfl) ?_)))))
    exact ⟨by rw [decide_eq_false h], Keep.new _ _⟩
theorem less_ok (a b : Nat) (x y : Bool) : ∃ r H', Pt (kn G base w0) 55 [wd a x, wd b y] H r H' ∧ (r = .bool (decide (a < b)) ∧ Keep H H' (fun _ => False)) := by
  refine Pt.fn (n := 24) (rs := [.tmp 4]) Try.func55 (b := _) rfl rfl rfl (by decide) ?_
  simp only [numbered]
  by_cases h : a < b
  · refine D.sq (D.ks (.a <| .a <| .e [(4, AV.bool false), (3, AV.ptr (Loc.own (List.length (hnew H (AObj.row 71 3 [AV.int IntKind.u64 0, AV.int IntKind.u64 (↑a : Int), AV.bool x])))) 0), (2, AV.ptr (Loc.own (List.length H)) 0)] (hnew (hnew H (AObj.row 71 3 [AV.int IntKind.u64 0, AV.int IntKind.u64 (↑a : Int), AV.bool x])) (AObj.row 71 3 [AV.int IntKind.u64 0, AV.int IntKind.u64 (↑b : Int), AV.bool y]))) (by kernel_rfl) (D.sq (D.ks (.a <| .q (hat_up (@hat_nn H (AObj.row 71 3 [AV.int IntKind.u64 0, AV.int IntKind.u64 (↑a : Int), AV.bool x])) (AObj.row 71 3 [AV.int IntKind.u64 0, AV.int IntKind.u64 (↑b : Int), AV.bool y])) <| .a <| .q (@hat_nn (hnew H (AObj.row 71 3 [AV.int IntKind.u64 0, AV.int IntKind.u64 (↑a : Int), AV.bool x])) (AObj.row 71 3 [AV.int IntKind.u64 0, AV.int IntKind.u64 (↑b : Int), AV.bool y])) <| .a <| .a <| .q (hat_up (@hat_nn H (AObj.row 71 3 [AV.int IntKind.u64 0, AV.int IntKind.u64 (↑a : Int), AV.bool x])) (AObj.row 71 3 [AV.int IntKind.u64 0, AV.int IntKind.u64 (↑b : Int), AV.bool y])) <| .a <| .q (@hat_nn (hnew H (AObj.row 71 3 [AV.int IntKind.u64 0, AV.int IntKind.u64 (↑a : Int), AV.bool x])) (AObj.row 71 3 [AV.int IntKind.u64 0, AV.int IntKind.u64 (↑b : Int), AV.bool y])) <| .a <| .a <| .q (hat_up (@hat_nn H (AObj.row 71 3 [AV.int IntKind.u64 0, AV.int IntKind.u64 (↑a : Int), AV.bool x])) (AObj.row 71 3 [AV.int IntKind.u64 0, AV.int IntKind.u64 (↑b : Int), AV.bool y])) <| .a <| .q (@hat_nn (hnew H (AObj.row 71 3 [AV.int IntKind.u64 0, AV.int IntKind.u64 (↑a : Int), AV.bool x])) (AObj.row 71 3 [AV.int IntKind.u64 0, AV.int IntKind.u64 (↑b : Int), AV.bool y])) <| .y (show (↑a : Int) < (↑b : Int) by omega) <| .e [(4, AV.bool true)] (hnew (hnew H (AObj.row 71 3 [AV.int IntKind.u64 0, AV.int IntKind.u64 (↑a : Int), AV.bool x])) (AObj.row 71 3 [AV.int IntKind.u64 0, AV.int IntKind.u64 (↑b : Int), AV.bool y]))) (by kernel_rfl) (D.ret (Kf_by (AV.bool true) (.r (AV.bool true)) (by kernel_rfl) ?_)))))
    exact ⟨by rw [decide_eq_true h], (Keep.new _ _).trans (Keep.new _ _)⟩
  · refine D.sq (D.ks (.a <| .a <| .e [(4, AV.bool false), (3, AV.ptr (Loc.own (List.length (hnew H (AObj.row 71 3 [AV.int IntKind.u64 0, AV.int IntKind.u64 (↑a : Int), AV.bool x])))) 0), (2, AV.ptr (Loc.own (List.length H)) 0)] (hnew (hnew H (AObj.row 71 3 [AV.int IntKind.u64 0, AV.int IntKind.u64 (↑a : Int), AV.bool x])) (AObj.row 71 3 [AV.int IntKind.u64 0, AV.int IntKind.u64 (↑b : Int), AV.bool y]))) (by kernel_rfl) (D.sq (D.ks (.a <| .q (hat_up (@hat_nn H (AObj.row 71 3 [AV.int IntKind.u64 0, AV.int IntKind.u64 (↑a : Int), AV.bool x])) (AObj.row 71 3 [AV.int IntKind.u64 0, AV.int IntKind.u64 (↑b : Int), AV.bool y])) <| .a <| .q (@hat_nn (hnew H (AObj.row 71 3 [AV.int IntKind.u64 0, AV.int IntKind.u64 (↑a : Int), AV.bool x])) (AObj.row 71 3 [AV.int IntKind.u64 0, AV.int IntKind.u64 (↑b : Int), AV.bool y])) <| .a <| .a <| .q (hat_up (@hat_nn H (AObj.row 71 3 [AV.int IntKind.u64 0, AV.int IntKind.u64 (↑a : Int), AV.bool x])) (AObj.row 71 3 [AV.int IntKind.u64 0, AV.int IntKind.u64 (↑b : Int), AV.bool y])) <| .a <| .q (@hat_nn (hnew H (AObj.row 71 3 [AV.int IntKind.u64 0, AV.int IntKind.u64 (↑a : Int), AV.bool x])) (AObj.row 71 3 [AV.int IntKind.u64 0, AV.int IntKind.u64 (↑b : Int), AV.bool y])) <| .a <| .a <| .q (hat_up (@hat_nn H (AObj.row 71 3 [AV.int IntKind.u64 0, AV.int IntKind.u64 (↑a : Int), AV.bool x])) (AObj.row 71 3 [AV.int IntKind.u64 0, AV.int IntKind.u64 (↑b : Int), AV.bool y])) <| .a <| .q (@hat_nn (hnew H (AObj.row 71 3 [AV.int IntKind.u64 0, AV.int IntKind.u64 (↑a : Int), AV.bool x])) (AObj.row 71 3 [AV.int IntKind.u64 0, AV.int IntKind.u64 (↑b : Int), AV.bool y])) <| .o (show ¬ ((↑a : Int) < (↑b : Int)) by omega) <| .e [(4, AV.bool false)] (hnew (hnew H (AObj.row 71 3 [AV.int IntKind.u64 0, AV.int IntKind.u64 (↑a : Int), AV.bool x])) (AObj.row 71 3 [AV.int IntKind.u64 0, AV.int IntKind.u64 (↑b : Int), AV.bool y]))) (by kernel_rfl) (D.ret (Kf_by (AV.bool false) (.r (AV.bool false)) (by kernel_rfl) ?_)))))
    exact ⟨by rw [decide_eq_false h], (Keep.new _ _).trans (Keep.new _ _)⟩
theorem and32 (q : Nat) (h : q < 4294967296) (t : TypeId) : abin (kn G base w0).c .and t (.int .u64 q) (.int .u64 4294967295) = some (.int .u64 q) := by
  simp only [abin, if_true, aint]
  congr 2
  rw [show (BitVec.ofInt IntKind.u64.bits (q : Int) &&& BitVec.ofInt IntKind.u64.bits 4294967295).toNat = q from ?_]
  · exact wrap_tou rfl (by omega) (by omega)
  · change (BitVec.ofInt 64 (q : Int) &&& BitVec.ofInt 64 4294967295).toNat = q
    rw [BitVec.toNat_and, show (BitVec.ofInt 64 (q : Int)).toNat = q from by simp [BitVec.toNat_ofInt]; omega, show (BitVec.ofInt 64 4294967295).toNat = 2 ^ 32 - 1 from by decide, Nat.and_two_pow_sub_one_eq_mod]
    omega
theorem shr32 (q : Nat) (h : q < 18446744073709551616) (t : TypeId) : abin (kn G base w0).c .shr t (.int .u64 q) (.int .u64 32) = some (.int .u64 ((q / 4294967296 : Nat) : Int)) := by
  simp only [abin, ashift]
  rw [if_neg (by omega)]
  congr 2
  show (q : Int).fdiv 4294967296 = _
  rw [Int.fdiv_eq_ediv_of_nonneg _ (by omega)]
  omega
theorem mul64_ok (x y : Nat) (hx : x < 4294967296) (hy : y < 4294967296) : ∃ r H', Pt (kn G base w0) 52 [.int .u64 x, .int .u64 y] H r H' ∧ (r = .tuple [.int .u64 0, .int .u64 ((x * y : Nat) : Int)] ∧ H = H') := by
  refine Pt.fn (n := 51) (rs := [.tmp 4, .tmp 5]) Try.func52 (b := _) rfl rfl rfl (by decide) ?_
  have hxy : x * y < 18446744073709551616 := by
    have := Nat.mul_lt_mul'' hx hy
    omega
  have a1 := and32 (G := G) (base := base) (w0 := w0) x hx
  have a2 := shr32 (G := G) (base := base) (w0 := w0) x (by omega)
  have a3 := and32 (G := G) (base := base) (w0 := w0) y hy
  have a4 := shr32 (G := G) (base := base) (w0 := w0) y (by omega)
  have a5 := shr32 (G := G) (base := base) (w0 := w0) (x * y) hxy
  have hd : x * y / 4294967296 < 4294967296 := by omega
  have a6 := and32 (G := G) (base := base) (w0 := w0) (x * y / 4294967296) hd
  have a7 := shr32 (G := G) (base := base) (w0 := w0) (x * y / 4294967296) (by omega)
  have z1 : x / 4294967296 = 0 := by omega
  have z2 : y / 4294967296 = 0 := by omega
  have z3 : x * y / 4294967296 / 4294967296 = 0 := by omega
  rw [z1] at a2
  rw [z2] at a4
  rw [z3] at a7
  have w1 : IntKind.u64.wrap (((0 : Nat) : Int) * (y : Int)) = 0 := by simp; rfl
  have w2 : IntKind.u64.wrap (0 + ((x * y / 4294967296 : Nat) : Int)) = ((x * y / 4294967296 : Nat) : Int) := wrap_tou (by omega) (by omega) (by omega)
  have w3 : IntKind.u64.wrap ((x : Int) * ((0 : Nat) : Int)) = 0 := by simp; rfl
  have w4 : IntKind.u64.wrap (((x * y / 4294967296 : Nat) : Int) + 0) = ((x * y / 4294967296 : Nat) : Int) := wrap_tou (by omega) (by omega) (by omega)
  have w5 : IntKind.u64.wrap (((0 : Nat) : Int) * ((0 : Nat) : Int)) = 0 := rfl
  have w6 : IntKind.u64.wrap ((x : Int) * (y : Int)) = ((x * y : Nat) : Int) := wrap_tou (by simp) (by omega) (by omega)
  simp only [numbered]
  refine D.sq (D.ks (.e [(5, AV.int IntKind.u64 0), (4, AV.int IntKind.u64 0)] H) (by kernel_rfl) (D.sq (D.ks (.v (@a1 69) <| .e [(6, AV.int IntKind.u64 (↑x : Int))] H) (by kernel_rfl) (D.sq (D.ks (.v (@a2 69) <| .e [(7, AV.int IntKind.u64 0)] H) (by kernel_rfl) (D.sq (D.ks (.v (@a3 69) <| .e [(8, AV.int IntKind.u64 (↑y : Int))] H) (by kernel_rfl) (D.sq (D.ks (.v (@a4 69) <| .e [(9, AV.int IntKind.u64 0)] H) (by kernel_rfl) (D.sq (D.ks (.n w6 <| .e [(10, AV.int IntKind.u64 (↑(x * y) : Int))] H) (by kernel_rfl) (D.sq (D.ks (.n w1 <| .v (@a5 69) <| .n w2 <| .e [(11, AV.int IntKind.u64 (↑(x * y / 4294967296) : Int))] H) (by kernel_rfl) (D.sq (D.ks (.v (@a6 69) <| .e [(12, AV.int IntKind.u64 (↑(x * y / 4294967296) : Int))] H) (by kernel_rfl) (D.sq (D.ks (.v (@a7 69) <| .e [(13, AV.int IntKind.u64 0)] H) (by kernel_rfl) (D.sq (D.ks (.n w3 <| .n w4 <| .e [(12, AV.int IntKind.u64 (↑(x * y / 4294967296) : Int))] H) (by kernel_rfl) (D.sq (D.ks (.a <| .a <| .v (@a7 69) <| .a <| .e [(4, AV.int IntKind.u64 0)] H) (by kernel_rfl) (D.sq (D.ks (.n w6 <| .e [(5, AV.int IntKind.u64 (↑(x * y) : Int))] H) (by kernel_rfl) (D.ret (Kf_by (AV.tuple [AV.int IntKind.u64 0, AV.int IntKind.u64 (↑(x * y) : Int)]) (.r (AV.tuple [AV.int IntKind.u64 0, AV.int IntKind.u64 (↑(x * y) : Int)])) (by kernel_rfl) ?_)))))))))))))))))))))))))
  exact ⟨rfl, rfl⟩
theorem size_p (a : Nat) (ha : a < 4611686018427387904) : Pt (kn G base w0) 53 [.int .i64 a] H (.int .u64 a) H := by obtain ⟨r, H', h, rfl, e⟩ := size_ok (G := G) (base := base) (w0 := w0) (H := H) a ha; rw [← e] at h; exact h
theorem wsize_p (a : Nat) (ha : a < 4611686018427387904) : Pt (kn G base w0) 63 [.int .i64 a] H (.int .u64 a) H := by obtain ⟨r, H', h, rfl, e⟩ := wsize_ok (G := G) (base := base) (w0 := w0) (H := H) a ha; rw [← e] at h; exact h
theorem zero_p (n : Nat) (b : Bool) : Pt (kn G base w0) 49 [wd n b] H (.bool (decide (n = 0))) H := Pt.pure (zero_ok n b) rfl
theorem less_p (a b : Nat) (x y : Bool) : Pt (kn G base w0) 55 [wd a x, wd b y] H (.bool (decide (a < b))) H := Pt.pure (less_ok a b x y) rfl
theorem mul64_p (x y : Nat) (hx : x < 4294967296) (hy : y < 4294967296) : Pt (kn G base w0) 52 [.int .u64 x, .int .u64 y] H (.tuple [.int .u64 0, .int .u64 ((x * y : Nat) : Int)]) H := by obtain ⟨r, H', h, rfl, e⟩ := mul64_ok (G := G) (base := base) (w0 := w0) (H := H) x y hx hy; rw [← e] at h; exact h
end Go.Proofs.Ytcbholgcbjddjaa.sy

/- ratio over small numbers that are not below nought (own work): times, quotients, the greatest common measure. -/
namespace Go.Proofs.Ytcbholgcbjddjaa.sy
open Go.AM
set_option linter.unusedSimpArgs false
set_option linter.unusedVariables false
variable {G : List Nat → Option (List AV)} {base : Nat} {w0 : World}
set_option maxRecDepth 100000
set_option maxHeartbeats 8000000
variable {H : AHeap}
theorem times_p (a b : Nat) (ha : a < 4294967296) (hb : b < 4294967296) : Pt (kn G base w0) 35 [.int .i64 a, .int .i64 b] H (wd (a * b) false) H := by
  refine Pt.pure ?_ rfl
  refine Pt.fn (n := 23) (rs := [.cell 4 71]) Try.func35 (b := _) rfl rfl rfl (by decide) ?_
  simp only [numbered]
  have p1 := fun H => size_p (G := G) (base := base) (w0 := w0) (H := H) a (by omega)
  have p2 := fun H => size_p (G := G) (base := base) (w0 := w0) (H := H) b (by omega)
  have p3 := fun H => mul64_p (G := G) (base := base) (w0 := w0) (H := H) a b ha hb
  refine D.sq (D.ks (.e [(4, AV.ptr (Loc.own (List.length H)) 0)] (hnew H (AObj.row 71 3 [AV.int IntKind.u64 0, AV.int IntKind.u64 0, AV.bool false]))) (by kernel_rfl) (D.sq (D.ks (.c (@p1 (hnew H (AObj.row 71 3 [AV.int IntKind.u64 0, AV.int IntKind.u64 0, AV.bool false]))) <| .c (@p2 (hnew H (AObj.row 71 3 [AV.int IntKind.u64 0, AV.int IntKind.u64 0, AV.bool false]))) <| .c (@p3 (hnew H (AObj.row 71 3 [AV.int IntKind.u64 0, AV.int IntKind.u64 0, AV.bool false]))) <| .e [(6, AV.int IntKind.u64 (↑(a * b) : Int)), (5, AV.int IntKind.u64 0)] (hnew H (AObj.row 71 3 [AV.int IntKind.u64 0, AV.int IntKind.u64 0, AV.bool false]))) (by kernel_rfl) (D.sq (D.ks (.o (show ¬ ((↑a : Int) < 0) by omega) <| .o (show ¬ ((↑b : Int) < 0) by omega) <| .a <| .h (st_top (H := H) (t := 71) (e := 3) (cs := [AV.int IntKind.u64 0, AV.int IntKind.u64 0, AV.bool false]) (off := 0) (vs := [AV.int IntKind.u64 0, AV.int IntKind.u64 (↑(a * b) : Int), AV.bool false]) (cs' := [AV.int IntKind.u64 0, AV.int IntKind.u64 (↑(a * b) : Int), AV.bool false]) rfl rfl rfl) <| .e [] (hnew H (AObj.row 71 3 [AV.int IntKind.u64 0, AV.int IntKind.u64 (↑(a * b) : Int), AV.bool false]))) (by kernel_rfl) (D.ret (Kf_by (AV.agg [AV.int IntKind.u64 0, AV.int IntKind.u64 (↑(a * b) : Int), AV.bool false]) (.v (ld_ownA (c := (Kn.c (kn G base w0))) (t := 71) (@hat_nn H (AObj.row 71 3 [AV.int IntKind.u64 0, AV.int IntKind.u64 (↑(a * b) : Int), AV.bool false])) (by kernel_rfl) (by kernel_rfl)) <| .r (AV.agg [AV.int IntKind.u64 0, AV.int IntKind.u64 (↑(a * b) : Int), AV.bool false])) (by kernel_rfl) ?_)))))))
  exact ⟨rfl, Keep.new _ _⟩
theorem quoU (x y : Nat) (hx : x < 18446744073709551616) (hy : 0 < y) (t : TypeId) : abin (kn G base w0).c .quo t (.int .u64 x) (.int .u64 y) = some (.int .u64 ((x / y : Nat) : Int)) := by
  simp only [abin, if_true, aint]
  rw [if_neg (by omega)]
  congr 2
  have h1 : x / y ≤ x := Nat.div_le_self _ _
  show IntKind.u64.wrap ((x / y : Nat) : Int) = _
  generalize x / y = q at *
  exact wrap_tou rfl (by omega) (by omega)
theorem remU (x y : Nat) (hy : 0 < y) (t : TypeId) : abin (kn G base w0).c .rem t (.int .u64 x) (.int .u64 y) = some (.int .u64 ((x % y : Nat) : Int)) := by
  simp only [abin, if_true, aint]
  rw [if_neg (by omega)]
  rfl
theorem div64_p (x y : Nat) (hx : x < 18446744073709551616) (hy : 0 < y) : Pt (kn G base w0) 65 [.int .u64 0, .int .u64 x, .int .u64 y] H (.tuple [.int .u64 ((x / y : Nat) : Int), .int .u64 ((x % y : Nat) : Int)]) H := by
  refine Pt.pure ?_ rfl
  refine Pt.fn (n := 135) (rs := [.tmp 6, .tmp 7]) Try.func65 (b := _) rfl rfl rfl (by decide) ?_
  simp only [numbered]
  have q1 := quoU (G := G) (base := base) (w0 := w0) x y hx hy
  have q2 := remU (G := G) (base := base) (w0 := w0) x y hy
  refine D.sq (D.ks (.e [(7, AV.int IntKind.u64 0), (6, AV.int IntKind.u64 0)] H) (by kernel_rfl) (D.sq (D.sq (D.ks (.o (show ¬ ((↑y : Int) = 0) by omega) <| .e [(20, AV.bool false)] H) (by kernel_rfl) (D.cf (by kernel_rfl) (D.skip (Ks_n' (D.sq (D.sq (D.ks (.o (show ¬ ((↑y : Int) ≤ 0) by omega) <| .e [(24, AV.bool false)] H) (by kernel_rfl) (D.cf (by kernel_rfl) (D.skip (Ks_n' (D.sq (D.sq (D.ks (.a <| .e [(27, AV.bool true)] H) (by kernel_rfl) (D.ct (by kernel_rfl) (D.sq (D.ks (.v (@q1 69) <| .v (@q2 69) <| .e [(7, AV.int IntKind.u64 (↑(x % y) : Int)), (6, AV.int IntKind.u64 (↑(x / y) : Int))] H) (by kernel_rfl) (D.ret (Ks_r' (Kf_by (AV.tuple [AV.int IntKind.u64 (↑(x / y) : Int), AV.int IntKind.u64 (↑(x % y) : Int)]) (.r (AV.tuple [AV.int IntKind.u64 (↑(x / y) : Int), AV.int IntKind.u64 (↑(x % y) : Int)])) (by kernel_rfl) ?_))))))))))))))))))))))
  exact ⟨rfl, Keep.refl _⟩
theorem mod_p (a b : Nat) (x y : Bool) (ha : a < 18446744073709551616) (hb : 0 < b) : Pt (kn G base w0) 64 [wd a x, wd b y] H (wd (a % b) false) H := by
  refine Pt.pure ?_ rfl
  refine Pt.fn (n := 43) (rs := [.cell 4 71]) Try.func64 (b := _) rfl rfl rfl (by decide) ?_
  simp only [numbered]
  have q2 := remU (G := G) (base := base) (w0 := w0) 0 b hb
  rw [Nat.zero_mod] at q2
  have p1 := fun H => div64_p (G := G) (base := base) (w0 := w0) (H := H) a b ha hb
  refine D.sq (D.ks (.a <| .a <| .e [(4, AV.ptr (Loc.own (List.length (hnew (hnew H (AObj.row 71 3 [AV.int IntKind.u64 0, AV.int IntKind.u64 (↑a : Int), AV.bool x])) (AObj.row 71 3 [AV.int IntKind.u64 0, AV.int IntKind.u64 (↑b : Int), AV.bool y])))) 0), (3, AV.ptr (Loc.own (List.length (hnew H (AObj.row 71 3 [AV.int IntKind.u64 0, AV.int IntKind.u64 (↑a : Int), AV.bool x])))) 0), (2, AV.ptr (Loc.own (List.length H)) 0)] (hnew (hnew (hnew H (AObj.row 71 3 [AV.int IntKind.u64 0, AV.int IntKind.u64 (↑a : Int), AV.bool x])) (AObj.row 71 3 [AV.int IntKind.u64 0, AV.int IntKind.u64 (↑b : Int), AV.bool y])) (AObj.row 71 3 [AV.int IntKind.u64 0, AV.int IntKind.u64 0, AV.bool false]))) (by kernel_rfl) (D.sq (D.sq (D.ks (.a <| .q (hat_up (@hat_nn (hnew H (AObj.row 71 3 [AV.int IntKind.u64 0, AV.int IntKind.u64 (↑a : Int), AV.bool x])) (AObj.row 71 3 [AV.int IntKind.u64 0, AV.int IntKind.u64 (↑b : Int), AV.bool y])) (AObj.row 71 3 [AV.int IntKind.u64 0, AV.int IntKind.u64 0, AV.bool false])) <| .a <| .e [(9, AV.bool true)] (hnew (hnew (hnew H (AObj.row 71 3 [AV.int IntKind.u64 0, AV.int IntKind.u64 (↑a : Int), AV.bool x])) (AObj.row 71 3 [AV.int IntKind.u64 0, AV.int IntKind.u64 (↑b : Int), AV.bool y])) (AObj.row 71 3 [AV.int IntKind.u64 0, AV.int IntKind.u64 0, AV.bool false]))) (by kernel_rfl) (D.ct (by kernel_rfl) (D.sq (D.kcs [65] (.a <| .q (hat_up (hat_up (@hat_nn H (AObj.row 71 3 [AV.int IntKind.u64 0, AV.int IntKind.u64 (↑a : Int), AV.bool x])) (AObj.row 71 3 [AV.int IntKind.u64 0, AV.int IntKind.u64 (↑b : Int), AV.bool y])) (AObj.row 71 3 [AV.int IntKind.u64 0, AV.int IntKind.u64 0, AV.bool false])) <| .a <| .q (hat_up (@hat_nn (hnew H (AObj.row 71 3 [AV.int IntKind.u64 0, AV.int IntKind.u64 (↑a : Int), AV.bool x])) (AObj.row 71 3 [AV.int IntKind.u64 0, AV.int IntKind.u64 (↑b : Int), AV.bool y])) (AObj.row 71 3 [AV.int IntKind.u64 0, AV.int IntKind.u64 0, AV.bool false])) <| .v (@q2 69) <| .a <| .q (hat_up (hat_up (@hat_nn H (AObj.row 71 3 [AV.int IntKind.u64 0, AV.int IntKind.u64 (↑a : Int), AV.bool x])) (AObj.row 71 3 [AV.int IntKind.u64 0, AV.int IntKind.u64 (↑b : Int), AV.bool y])) (AObj.row 71 3 [AV.int IntKind.u64 0, AV.int IntKind.u64 0, AV.bool false])) <| .a <| .q (hat_up (@hat_nn (hnew H (AObj.row 71 3 [AV.int IntKind.u64 0, AV.int IntKind.u64 (↑a : Int), AV.bool x])) (AObj.row 71 3 [AV.int IntKind.u64 0, AV.int IntKind.u64 (↑b : Int), AV.bool y])) (AObj.row 71 3 [AV.int IntKind.u64 0, AV.int IntKind.u64 0, AV.bool false])) <| .f (@p1 (hnew (hnew (hnew H (AObj.row 71 3 [AV.int IntKind.u64 0, AV.int IntKind.u64 (↑a : Int), AV.bool x])) (AObj.row 71 3 [AV.int IntKind.u64 0, AV.int IntKind.u64 (↑b : Int), AV.bool y])) (AObj.row 71 3 [AV.int IntKind.u64 0, AV.int IntKind.u64 0, AV.bool false]))) <| .e [(6, AV.int IntKind.u64 (↑(a % b) : Int))] (hnew (hnew (hnew H (AObj.row 71 3 [AV.int IntKind.u64 0, AV.int IntKind.u64 (↑a : Int), AV.bool x])) (AObj.row 71 3 [AV.int IntKind.u64 0, AV.int IntKind.u64 (↑b : Int), AV.bool y])) (AObj.row 71 3 [AV.int IntKind.u64 0, AV.int IntKind.u64 0, AV.bool false]))) (by kernel_rfl) (D.sq (D.ks (.h (st_top (H := hnew (hnew H (AObj.row 71 3 [AV.int IntKind.u64 0, AV.int IntKind.u64 (↑a : Int), AV.bool x])) (AObj.row 71 3 [AV.int IntKind.u64 0, AV.int IntKind.u64 (↑b : Int), AV.bool y])) (t := 71) (e := 3) (cs := [AV.int IntKind.u64 0, AV.int IntKind.u64 0, AV.bool false]) (off := 0) (vs := [AV.int IntKind.u64 0, AV.int IntKind.u64 (↑(a % b) : Int), AV.bool false]) (cs' := [AV.int IntKind.u64 0, AV.int IntKind.u64 (↑(a % b) : Int), AV.bool false]) rfl rfl rfl) <| .e [] (hnew (hnew (hnew H (AObj.row 71 3 [AV.int IntKind.u64 0, AV.int IntKind.u64 (↑a : Int), AV.bool x])) (AObj.row 71 3 [AV.int IntKind.u64 0, AV.int IntKind.u64 (↑b : Int), AV.bool y])) (AObj.row 71 3 [AV.int IntKind.u64 0, AV.int IntKind.u64 (↑(a % b) : Int), AV.bool false]))) (by kernel_rfl) (D.ret (Ks_r' (Kf_by (AV.agg [AV.int IntKind.u64 0, AV.int IntKind.u64 (↑(a % b) : Int), AV.bool false]) (.v (ld_ownA (c := (Kn.c (kn G base w0))) (t := 71) (@hat_nn (hnew (hnew H (AObj.row 71 3 [AV.int IntKind.u64 0, AV.int IntKind.u64 (↑a : Int), AV.bool x])) (AObj.row 71 3 [AV.int IntKind.u64 0, AV.int IntKind.u64 (↑b : Int), AV.bool y])) (AObj.row 71 3 [AV.int IntKind.u64 0, AV.int IntKind.u64 (↑(a % b) : Int), AV.bool false])) (by kernel_rfl) (by kernel_rfl)) <| .r (AV.agg [AV.int IntKind.u64 0, AV.int IntKind.u64 (↑(a % b) : Int), AV.bool false])) (by kernel_rfl) ?_))))))))))))
  exact ⟨rfl, ((Keep.new _ _).trans (Keep.new _ _)).trans (Keep.new _ _)⟩
/-- by a measure that goes into it -/
theorem by_p (a g : Nat) (x y : Bool) (ha : a < 18446744073709551616) (hg : 0 < g) : Pt (kn G base w0) 51 [wd a x, wd g y] H (.tuple [.int .u64 ((a / g : Nat) : Int), .bool true]) H := by
  refine Pt.pure ?_ rfl
  refine Pt.fn (n := 82) (rs := [.tmp 4, .tmp 5]) Try.func51 (b := _) rfl rfl rfl (by decide) ?_
  simp only [numbered]
  have p1 := fun H => div64_p (G := G) (base := base) (w0 := w0) (H := H) a g ha hg
  refine D.sq (D.ks (.a <| .a <| .e [(5, AV.bool false), (4, AV.int IntKind.u64 0), (3, AV.ptr (Loc.own (List.length (hnew H (AObj.row 71 3 [AV.int IntKind.u64 0, AV.int IntKind.u64 (↑a : Int), AV.bool x])))) 0), (2, AV.ptr (Loc.own (List.length H)) 0)] (hnew (hnew H (AObj.row 71 3 [AV.int IntKind.u64 0, AV.int IntKind.u64 (↑a : Int), AV.bool x])) (AObj.row 71 3 [AV.int IntKind.u64 0, AV.int IntKind.u64 (↑g : Int), AV.bool y]))) (by kernel_rfl) (D.sq (D.sq (D.ks (.a <| .q (@hat_nn (hnew H (AObj.row 71 3 [AV.int IntKind.u64 0, AV.int IntKind.u64 (↑a : Int), AV.bool x])) (AObj.row 71 3 [AV.int IntKind.u64 0, AV.int IntKind.u64 (↑g : Int), AV.bool y])) <| .a <| .a <| .q (hat_up (@hat_nn H (AObj.row 71 3 [AV.int IntKind.u64 0, AV.int IntKind.u64 (↑a : Int), AV.bool x])) (AObj.row 71 3 [AV.int IntKind.u64 0, AV.int IntKind.u64 (↑g : Int), AV.bool y])) <| .a <| .q (@hat_nn (hnew H (AObj.row 71 3 [AV.int IntKind.u64 0, AV.int IntKind.u64 (↑a : Int), AV.bool x])) (AObj.row 71 3 [AV.int IntKind.u64 0, AV.int IntKind.u64 (↑g : Int), AV.bool y])) <| .y (show 0 < (↑g : Int) by omega) <| .e [(24, AV.bool true)] (hnew (hnew H (AObj.row 71 3 [AV.int IntKind.u64 0, AV.int IntKind.u64 (↑a : Int), AV.bool x])) (AObj.row 71 3 [AV.int IntKind.u64 0, AV.int IntKind.u64 (↑g : Int), AV.bool y]))) (by kernel_rfl) (D.ct (by kernel_rfl) (D.sq (D.ks (.a <| .q (hat_up (@hat_nn H (AObj.row 71 3 [AV.int IntKind.u64 0, AV.int IntKind.u64 (↑a : Int), AV.bool x])) (AObj.row 71 3 [AV.int IntKind.u64 0, AV.int IntKind.u64 (↑g : Int), AV.bool y])) <| .a <| .q (hat_up (@hat_nn H (AObj.row 71 3 [AV.int IntKind.u64 0, AV.int IntKind.u64 (↑a : Int), AV.bool x])) (AObj.row 71 3 [AV.int IntKind.u64 0, AV.int IntKind.u64 (↑g : Int), AV.bool y])) <| .a <| .q (@hat_nn (hnew H (AObj.row 71 3 [AV.int IntKind.u64 0, AV.int IntKind.u64 (↑a : Int), AV.bool x])) (AObj.row 71 3 [AV.int IntKind.u64 0, AV.int IntKind.u64 (↑g : Int), AV.bool y])) <| .c (@p1 (hnew (hnew H (AObj.row 71 3 [AV.int IntKind.u64 0, AV.int IntKind.u64 (↑a : Int), AV.bool x])) (AObj.row 71 3 [AV.int IntKind.u64 0, AV.int IntKind.u64 (↑g : Int), AV.bool y]))) <| .e [(6, AV.int IntKind.u64 (↑(a / g) : Int))] (hnew (hnew H (AObj.row 71 3 [AV.int IntKind.u64 0, AV.int IntKind.u64 (↑a : Int), AV.bool x])) (AObj.row 71 3 [AV.int IntKind.u64 0, AV.int IntKind.u64 (↑g : Int), AV.bool y]))) (by kernel_rfl) (D.sq (D.ks (.e [(5, AV.bool true), (4, AV.int IntKind.u64 (↑(a / g) : Int))] (hnew (hnew H (AObj.row 71 3 [AV.int IntKind.u64 0, AV.int IntKind.u64 (↑a : Int), AV.bool x])) (AObj.row 71 3 [AV.int IntKind.u64 0, AV.int IntKind.u64 (↑g : Int), AV.bool y]))) (by kernel_rfl) (D.ret (Ks_r' (Kf_by (AV.tuple [AV.int IntKind.u64 (↑(a / g) : Int), AV.bool true]) (.r (AV.tuple [AV.int IntKind.u64 (↑(a / g) : Int), AV.bool true])) (by kernel_rfl) ?_))))))))))))
  exact ⟨rfl, (Keep.new _ _).trans (Keep.new _ _)⟩
theorem add64 (a b : Nat) (h : a + b < 18446744073709551616) : aext (kn G base w0).c.P 54 [.int .u64 a, .int .u64 b, .int .u64 0] = some (.tuple [.int .u64 ((a + b : Nat) : Int), .int .u64 0]) := by
  have h : aext (kn G base w0).c.P 54 [.int .u64 a, .int .u64 b, .int .u64 0] = if 0 ≤ (a : Int) ∧ 0 ≤ (b : Int) ∧ 0 ≤ (0 : Int) ∧ (0 : Int) ≤ 1 then some (.tuple [.int .u64 (((a : Int) + b + 0) % 18446744073709551616), .int .u64 (((a : Int) + b + 0) / 18446744073709551616)]) else none := by kernel_rfl
  rw [h, if_pos (by omega)]
  congr 3
  · congr 1; omega
  · congr 2; omega
theorem plus_p (a b : Nat) (ha : a < 4611686018427387904) (hb : b < 4611686018427387904) : Pt (kn G base w0) 36 [wd a false, wd b false] H (wd (a + b) false) H := by
  refine Pt.pure ?_ rfl
  refine Pt.fn (n := 67) (rs := [.cell 4 71]) Try.func36 (b := _) rfl rfl rfl (by decide) ?_
  simp only [numbered]
  have x1 := add64 (G := G) (base := base) (w0 := w0) a b (by omega)
  have x2 : aext (kn G base w0).c.P 54 [.int .u64 0, .int .u64 0, .int .u64 0] = some (.tuple [.int .u64 0, .int .u64 0]) := by kernel_rfl
  refine D.sq (D.ks (.a <| .a <| .e [(4, AV.ptr (Loc.own (List.length (hnew (hnew H (AObj.row 71 3 [AV.int IntKind.u64 0, AV.int IntKind.u64 (↑a : Int), AV.bool false])) (AObj.row 71 3 [AV.int IntKind.u64 0, AV.int IntKind.u64 (↑b : Int), AV.bool false])))) 0), (3, AV.ptr (Loc.own (List.length (hnew H (AObj.row 71 3 [AV.int IntKind.u64 0, AV.int IntKind.u64 (↑a : Int), AV.bool false])))) 0), (2, AV.ptr (Loc.own (List.length H)) 0)] (hnew (hnew (hnew H (AObj.row 71 3 [AV.int IntKind.u64 0, AV.int IntKind.u64 (↑a : Int), AV.bool false])) (AObj.row 71 3 [AV.int IntKind.u64 0, AV.int IntKind.u64 (↑b : Int), AV.bool false])) (AObj.row 71 3 [AV.int IntKind.u64 0, AV.int IntKind.u64 0, AV.bool false]))) (by kernel_rfl) (D.sq (D.sq (D.ks (.a <| .q (hat_up (hat_up (@hat_nn H (AObj.row 71 3 [AV.int IntKind.u64 0, AV.int IntKind.u64 (↑a : Int), AV.bool false])) (AObj.row 71 3 [AV.int IntKind.u64 0, AV.int IntKind.u64 (↑b : Int), AV.bool false])) (AObj.row 71 3 [AV.int IntKind.u64 0, AV.int IntKind.u64 0, AV.bool false])) <| .a <| .q (hat_up (@hat_nn (hnew H (AObj.row 71 3 [AV.int IntKind.u64 0, AV.int IntKind.u64 (↑a : Int), AV.bool false])) (AObj.row 71 3 [AV.int IntKind.u64 0, AV.int IntKind.u64 (↑b : Int), AV.bool false])) (AObj.row 71 3 [AV.int IntKind.u64 0, AV.int IntKind.u64 0, AV.bool false])) <| .a <| .e [(17, AV.bool true)] (hnew (hnew (hnew H (AObj.row 71 3 [AV.int IntKind.u64 0, AV.int IntKind.u64 (↑a : Int), AV.bool false])) (AObj.row 71 3 [AV.int IntKind.u64 0, AV.int IntKind.u64 (↑b : Int), AV.bool false])) (AObj.row 71 3 [AV.int IntKind.u64 0, AV.int IntKind.u64 0, AV.bool false]))) (by kernel_rfl) (D.ct (by kernel_rfl) (D.sq (D.ks (.a <| .q (hat_up (hat_up (@hat_nn H (AObj.row 71 3 [AV.int IntKind.u64 0, AV.int IntKind.u64 (↑a : Int), AV.bool false])) (AObj.row 71 3 [AV.int IntKind.u64 0, AV.int IntKind.u64 (↑b : Int), AV.bool false])) (AObj.row 71 3 [AV.int IntKind.u64 0, AV.int IntKind.u64 0, AV.bool false])) <| .a <| .q (hat_up (@hat_nn (hnew H (AObj.row 71 3 [AV.int IntKind.u64 0, AV.int IntKind.u64 (↑a : Int), AV.bool false])) (AObj.row 71 3 [AV.int IntKind.u64 0, AV.int IntKind.u64 (↑b : Int), AV.bool false])) (AObj.row 71 3 [AV.int IntKind.u64 0, AV.int IntKind.u64 0, AV.bool false])) <| .v x1 <| .e [(6, AV.int IntKind.u64 0), (5, AV.int IntKind.u64 (↑(a + b) : Int))] (hnew (hnew (hnew H (AObj.row 71 3 [AV.int IntKind.u64 0, AV.int IntKind.u64 (↑a : Int), AV.bool false])) (AObj.row 71 3 [AV.int IntKind.u64 0, AV.int IntKind.u64 (↑b : Int), AV.bool false])) (AObj.row 71 3 [AV.int IntKind.u64 0, AV.int IntKind.u64 0, AV.bool false]))) (by kernel_rfl) (D.sq (D.ks (.a <| .q (hat_up (hat_up (@hat_nn H (AObj.row 71 3 [AV.int IntKind.u64 0, AV.int IntKind.u64 (↑a : Int), AV.bool false])) (AObj.row 71 3 [AV.int IntKind.u64 0, AV.int IntKind.u64 (↑b : Int), AV.bool false])) (AObj.row 71 3 [AV.int IntKind.u64 0, AV.int IntKind.u64 0, AV.bool false])) <| .a <| .q (hat_up (@hat_nn (hnew H (AObj.row 71 3 [AV.int IntKind.u64 0, AV.int IntKind.u64 (↑a : Int), AV.bool false])) (AObj.row 71 3 [AV.int IntKind.u64 0, AV.int IntKind.u64 (↑b : Int), AV.bool false])) (AObj.row 71 3 [AV.int IntKind.u64 0, AV.int IntKind.u64 0, AV.bool false])) <| .v x2 <| .e [(7, AV.int IntKind.u64 0)] (hnew (hnew (hnew H (AObj.row 71 3 [AV.int IntKind.u64 0, AV.int IntKind.u64 (↑a : Int), AV.bool false])) (AObj.row 71 3 [AV.int IntKind.u64 0, AV.int IntKind.u64 (↑b : Int), AV.bool false])) (AObj.row 71 3 [AV.int IntKind.u64 0, AV.int IntKind.u64 0, AV.bool false]))) (by kernel_rfl) (D.sq (D.ks (.a <| .q (hat_up (hat_up (@hat_nn H (AObj.row 71 3 [AV.int IntKind.u64 0, AV.int IntKind.u64 (↑a : Int), AV.bool false])) (AObj.row 71 3 [AV.int IntKind.u64 0, AV.int IntKind.u64 (↑b : Int), AV.bool false])) (AObj.row 71 3 [AV.int IntKind.u64 0, AV.int IntKind.u64 0, AV.bool false])) <| .h (st_top (H := hnew (hnew H (AObj.row 71 3 [AV.int IntKind.u64 0, AV.int IntKind.u64 (↑a : Int), AV.bool false])) (AObj.row 71 3 [AV.int IntKind.u64 0, AV.int IntKind.u64 (↑b : Int), AV.bool false])) (t := 71) (e := 3) (cs := [AV.int IntKind.u64 0, AV.int IntKind.u64 0, AV.bool false]) (off := 0) (vs := [AV.int IntKind.u64 0, AV.int IntKind.u64 (↑(a + b) : Int), AV.bool false]) (cs' := [AV.int IntKind.u64 0, AV.int IntKind.u64 (↑(a + b) : Int), AV.bool false]) rfl rfl rfl) <| .e [] (hnew (hnew (hnew H (AObj.row 71 3 [AV.int IntKind.u64 0, AV.int IntKind.u64 (↑a : Int), AV.bool false])) (AObj.row 71 3 [AV.int IntKind.u64 0, AV.int IntKind.u64 (↑b : Int), AV.bool false])) (AObj.row 71 3 [AV.int IntKind.u64 0, AV.int IntKind.u64 (↑(a + b) : Int), AV.bool false]))) (by kernel_rfl) (D.ret (Ks_r' (Kf_by (AV.agg [AV.int IntKind.u64 0, AV.int IntKind.u64 (↑(a + b) : Int), AV.bool false]) (.v (ld_ownA (c := (Kn.c (kn G base w0))) (t := 71) (@hat_nn (hnew (hnew H (AObj.row 71 3 [AV.int IntKind.u64 0, AV.int IntKind.u64 (↑a : Int), AV.bool false])) (AObj.row 71 3 [AV.int IntKind.u64 0, AV.int IntKind.u64 (↑b : Int), AV.bool false])) (AObj.row 71 3 [AV.int IntKind.u64 0, AV.int IntKind.u64 (↑(a + b) : Int), AV.bool false])) (by kernel_rfl) (by kernel_rfl)) <| .r (AV.agg [AV.int IntKind.u64 0, AV.int IntKind.u64 (↑(a + b) : Int), AV.bool false])) (by kernel_rfl) ?_))))))))))))))
  exact ⟨rfl, ((Keep.new _ _).trans (Keep.new _ _)).trans (Keep.new _ _)⟩
/-- a fraction -/
abbrev rt (n d : Nat) : AV := .agg [.int .i64 n, .int .i64 d]
/-- what the functions over numbers tell -/
def RT : FuncId → List AV → AV → Prop
  | 35, l, v => ∃ a b : Nat, l = [.int .i64 a, .int .i64 b] ∧ v = wd (a * b) false
  | 64, l, v => ∃ (a b : Nat) (x y : Bool), l = [wd a x, wd b y] ∧ v = wd (a % b) false
  | 36, l, v => ∃ (a b : Nat) (y : Bool), l = [wd a false, wd b y] ∧ v = wd (if y then a - b else a + b) false
  | 34, l, v => ∃ a b : Nat, l = [wd a false, wd b false] ∧ v = .tuple [rt (a / Nat.gcd a b) (b / Nat.gcd a b), .int .i64 0]
  | _, _, _ => False
theorem c64 (a b : Nat) (x y : Bool) (ha : a < 18446744073709551616) (hb : 0 < b) (H : AHeap) : callT (kn G base w0) (pureT RT) 64 [wd a x, wd b y] H = some (wd (a % b) false, H) :=
  pureT_call (mod_p a b x y ha hb) ⟨a, b, x, y, rfl, rfl⟩ (by
    rintro v' ⟨a', b', x', y', h, rfl⟩
    simp at h
    obtain ⟨⟨h1, rfl⟩, h2, rfl⟩ := h
    obtain rfl : a = a' := by omega
    obtain rfl : b = b' := by omega
    rfl)
theorem c35 (a b : Nat) (ha : a < 4294967296) (hb : b < 4294967296) (H : AHeap) : callT (kn G base w0) (pureT RT) 35 [.int .i64 a, .int .i64 b] H = some (wd (a * b) false, H) :=
  pureT_call (times_p a b ha hb) ⟨a, b, rfl, rfl⟩ (by
    rintro v' ⟨a', b', h, rfl⟩
    simp at h
    obtain ⟨h1, h2⟩ := h
    obtain rfl : a = a' := by omega
    obtain rfl : b = b' := by omega
    rfl)
theorem c36 (a b : Nat) (ha : a < 4611686018427387904) (hb : b < 4611686018427387904) (H : AHeap) : callT (kn G base w0) (pureT RT) 36 [wd a false, wd b false] H = some (wd (a + b) false, H) :=
  pureT_call (plus_p a b ha hb) ⟨a, b, false, rfl, rfl⟩ (by
    rintro v' ⟨a', b', y', h, rfl⟩
    simp at h
    obtain ⟨h1, h2, rfl⟩ := h
    obtain rfl : a = a' := by omega
    obtain rfl : b = b' := by omega
    rfl)
end Go.Proofs.Ytcbholgcbjddjaa.sy

/- ratio over small numbers that are not below nought (own work): the greatest common measure; lowest terms. -/
namespace Go.Proofs.Ytcbholgcbjddjaa.sy
open Go.AM
set_option linter.unusedSimpArgs false
set_option linter.unusedVariables false
variable {G : List Nat → Option (List AV)} {base : Nat} {w0 : World}
set_option maxRecDepth 100000
set_option maxHeartbeats 8000000
variable {H : AHeap}
theorem gcd_p (a b : Nat) (x y : Bool) (ha : a < 4611686018427387904) (hb : b < 4611686018427387904) : Pt (kn G base w0) 50 [wd a x, wd b y] H (wd (Nat.gcd a b) false) H := by
  refine Pt.pure ?_ rfl
  refine Pt.fn (n := 17) (rs := [.cell 4 71]) Try.func50 (b := _) rfl rfl rfl (by decide) ?_
  simp only [numbered]
  refine D.sq (D.ks (.a <| .a <| .e [(4, AV.ptr (Loc.own (List.length (hnew (hnew H (AObj.row 71 3 [AV.int IntKind.u64 0, AV.int IntKind.u64 (↑a : Int), AV.bool x])) (AObj.row 71 3 [AV.int IntKind.u64 0, AV.int IntKind.u64 (↑b : Int), AV.bool y])))) 0), (3, AV.ptr (Loc.own (List.length (hnew H (AObj.row 71 3 [AV.int IntKind.u64 0, AV.int IntKind.u64 (↑a : Int), AV.bool x])))) 0), (2, AV.ptr (Loc.own (List.length H)) 0)] (hnew (hnew (hnew H (AObj.row 71 3 [AV.int IntKind.u64 0, AV.int IntKind.u64 (↑a : Int), AV.bool x])) (AObj.row 71 3 [AV.int IntKind.u64 0, AV.int IntKind.u64 (↑b : Int), AV.bool y])) (AObj.row 71 3 [AV.int IntKind.u64 0, AV.int IntKind.u64 0, AV.bool false]))) (by kernel_rfl) (D.sq (D.bl ?_)))
  have h2 : hat (hnew (hnew (hnew H (.row 71 3 [.int .u64 0, .int .u64 a, .bool x])) (.row 71 3 [.int .u64 0, .int .u64 b, .bool y])) (.row 71 3 [.int .u64 0, .int .u64 0, .bool false])) H.length = some (.row 71 3 [.int .u64 0, .int .u64 a, .bool x]) := hat_up (hat_up (hat_nn _) _) _
  have h3 : hat (hnew (hnew (hnew H (.row 71 3 [.int .u64 0, .int .u64 a, .bool x])) (.row 71 3 [.int .u64 0, .int .u64 b, .bool y])) (.row 71 3 [.int .u64 0, .int .u64 0, .bool false])) (hnew H (.row 71 3 [.int .u64 0, .int .u64 a, .bool x])).length = some (.row 71 3 [.int .u64 0, .int .u64 b, .bool y]) := hat_up (hat_nn _) _
  have h4 : hat (hnew (hnew (hnew H (.row 71 3 [.int .u64 0, .int .u64 a, .bool x])) (.row 71 3 [.int .u64 0, .int .u64 b, .bool y])) (.row 71 3 [.int .u64 0, .int .u64 0, .bool false])) (hnew (hnew H (.row 71 3 [.int .u64 0, .int .u64 a, .bool x])) (.row 71 3 [.int .u64 0, .int .u64 b, .bool y])).length = some (.row 71 3 [.int .u64 0, .int .u64 0, .bool false]) := hat_nn _
  have hk : Keep H (hnew (hnew (hnew H (.row 71 3 [.int .u64 0, .int .u64 a, .bool x])) (.row 71 3 [.int .u64 0, .int .u64 b, .bool y])) (.row 71 3 [.int .u64 0, .int .u64 0, .bool false])) (fun _ => False) := ((Keep.new _ _).trans (Keep.new _ _)).trans (Keep.new _ _)
  have n3 : (hnew H (.row 71 3 [.int .u64 0, .int .u64 a, .bool x])).length = H.length + 1 := len_new _ _
  have n4 : (hnew (hnew H (.row 71 3 [.int .u64 0, .int .u64 a, .bool x])) (.row 71 3 [.int .u64 0, .int .u64 b, .bool y])).length = H.length + 2 := by simp only [len_new]
  generalize hnew (hnew (hnew H (.row 71 3 [.int .u64 0, .int .u64 a, .bool x])) (.row 71 3 [.int .u64 0, .int .u64 b, .bool y])) (.row 71 3 [.int .u64 0, .int .u64 0, .bool false]) = K at *
  generalize (hnew (hnew H (.row 71 3 [.int .u64 0, .int .u64 a, .bool x])) (.row 71 3 [.int .u64 0, .int .u64 b, .bool y])).length = b4 at *
  generalize (hnew H (.row 71 3 [.int .u64 0, .int .u64 a, .bool x])).length = b3 at *
  obtain ⟨b2, hb2⟩ : ∃ b2, b2 = H.length := ⟨_, rfl⟩
  rw [← hb2] at h2 n3 n4 ⊢
  refine D.lp (fun m env H' => ∃ (a' b' : Nat) (x' y' : Bool), b' = m ∧ Nat.gcd a' b' = Nat.gcd a b ∧ a' < 4611686018427387904 ∧ b' < 4611686018427387904 ∧ hat H' b2 = some (.row 71 3 [.int .u64 0, .int .u64 a', .bool x']) ∧ hat H' b3 = some (.row 71 3 [.int .u64 0, .int .u64 b', .bool y']) ∧ hat H' b4 = some (.row 71 3 [.int .u64 0, .int .u64 0, .bool false]) ∧ Keep H H' (fun _ => False) ∧ ELe (E 17 [(4, .ptr (.own b4) 0), (3, .ptr (.own b3) 0), (2, .ptr (.own b2) 0)]) env) b
    ⟨a, b, x, y, rfl, rfl, ha, hb, h2, h3, h4, hk, by exact E_le (by decide) (E_size _ _) (by simp only [List.forall_mem_cons, List.not_mem_nil, false_implies, implies_true, and_true, List.cons_append, List.nil_append, Nat.zero_add, Nat.reduceAdd, E_get, Nat.reduceEqDiff, Nat.reduceLT, Nat.reduceLeDiff, if_true, if_false, and_self, true_and] <;> first | rfl | exact ⟨rfl, rfl⟩)⟩ ?_
  clear h2 h3 h4 hk
  rintro m env H3 ⟨a', b', x', y', rfl, hg, ha', hb', h2, h3, h4, hk, he⟩
  refine D.forget he ?_
  clear he
  have p1 := fun H => zero_p (G := G) (base := base) (w0 := w0) (H := H) b' y'
  by_cases h0 : b' = 0
  · rw [decide_eq_true h0] at p1
    refine D.sq (D.sq (D.ks (.q h3 <| .c (@p1 H3) <| .a <| .e [(7, AV.bool false)] H3) (by kernel_rfl) (D.cf (by kernel_rfl) (D.exit (Ks_e' (Kl_e' (Kb_e' (Ks_n' (D.sq (D.ks (.a <| .q h2 <| .a <| .q h2 <| .h (st_at (off := 0) (vs := [AV.int IntKind.u64 0, AV.int IntKind.u64 (↑a' : Int), AV.bool false]) (cs' := [AV.int IntKind.u64 0, AV.int IntKind.u64 (↑a' : Int), AV.bool false]) h4 rfl rfl rfl) <| .e [] (List.set H3 b4 (some (AObj.row 71 3 [AV.int IntKind.u64 0, AV.int IntKind.u64 (↑a' : Int), AV.bool false])))) (by kernel_rfl) (D.ret (Kf_by (AV.agg [AV.int IntKind.u64 0, AV.int IntKind.u64 (↑a' : Int), AV.bool false]) (.v (ld_ownA (c := (Kn.c (kn G base w0))) (t := 71) (hat_at h4 (AObj.row 71 3 [AV.int IntKind.u64 0, AV.int IntKind.u64 (↑a' : Int), AV.bool false])) (by kernel_rfl) (by kernel_rfl)) <| .r (AV.agg [AV.int IntKind.u64 0, AV.int IntKind.u64 (↑a' : Int), AV.bool false])) (by kernel_rfl) ?_))))))))))))
    refine ⟨by rw [← hg, h0, Nat.gcd_zero_right], ?_⟩
    exact hk.trans' (Keep.set b4 _) fun j hj e => by omega
  rw [decide_eq_false h0] at p1
  have c1 := fun H => c64 (G := G) (base := base) (w0 := w0) a' b' x' y' (by omega) (by omega) H
  have h3' : hat (H3.set b2 (some (.row 71 3 [.int .u64 0, .int .u64 b', .bool y']))) b3 = some (.row 71 3 [.int .u64 0, .int .u64 b', .bool y']) := hat_by h3 _ (by omega)
  have k1 : hat (H3.set b2 (some (.row 71 3 [.int .u64 0, .int .u64 b', .bool y']))) b2 = some (.row 71 3 [.int .u64 0, .int .u64 b', .bool y']) := hat_at h2 _
  have k2 : hat ((H3.set b2 (some (.row 71 3 [.int .u64 0, .int .u64 b', .bool y']))).set b3 (some (.row 71 3 [.int .u64 0, .int .u64 ((a' % b' : Nat) : Int), .bool false]))) b2 = some (.row 71 3 [.int .u64 0, .int .u64 b', .bool y']) := hat_by k1 _ (by omega)
  have k3 : hat ((H3.set b2 (some (.row 71 3 [.int .u64 0, .int .u64 b', .bool y']))).set b3 (some (.row 71 3 [.int .u64 0, .int .u64 ((a' % b' : Nat) : Int), .bool false]))) b3 = some (.row 71 3 [.int .u64 0, .int .u64 ((a' % b' : Nat) : Int), .bool false]) := hat_at h3' _
  have k4 : hat ((H3.set b2 (some (.row 71 3 [.int .u64 0, .int .u64 b', .bool y']))).set b3 (some (.row 71 3 [.int .u64 0, .int .u64 ((a' % b' : Nat) : Int), .bool false]))) b4 = some (.row 71 3 [.int .u64 0, .int .u64 0, .bool false]) := hat_by (hat_by h4 _ (by omega)) _ (by omega)
  have kk : Keep H ((H3.set b2 (some (.row 71 3 [.int .u64 0, .int .u64 b', .bool y']))).set b3 (some (.row 71 3 [.int .u64 0, .int .u64 ((a' % b' : Nat) : Int), .bool false]))) (fun _ => False) := (hk.trans' (Keep.set b2 _) fun j hj e => by omega).trans' (Keep.set b3 _) fun j hj e => by omega
  refine D.sq (D.sq (D.ks (.q h3 <| .c (@p1 H3) <| .a <| .e [(7, AV.bool true)] H3) (by kernel_rfl) (D.ct (by kernel_rfl) (D.skip (Ks_n' (D.bl (D.kw (pureT RT) [3] (.q h3 <| .q h2 <| .q h3 <| .vh (@c1 H3) <| .h (st_at (off := 0) (vs := [AV.int IntKind.u64 0, AV.int IntKind.u64 (↑b' : Int), AV.bool y']) (cs' := [AV.int IntKind.u64 0, AV.int IntKind.u64 (↑b' : Int), AV.bool y']) h2 rfl rfl rfl) <| .h (st_at (off := 0) (vs := [AV.int IntKind.u64 0, AV.int IntKind.u64 (↑(a' % b') : Int), AV.bool false]) (cs' := [AV.int IntKind.u64 0, AV.int IntKind.u64 (↑(a' % b') : Int), AV.bool false]) h3' rfl rfl rfl) <| .e [] (List.set (List.set H3 b2 (some (AObj.row 71 3 [AV.int IntKind.u64 0, AV.int IntKind.u64 (↑b' : Int), AV.bool y']))) b3 (some (AObj.row 71 3 [AV.int IntKind.u64 0, AV.int IntKind.u64 (↑(a' % b') : Int), AV.bool false])))) (by kernel_rfl) (Kb_n' ?_))))))))
  exact ⟨a' % b', Nat.mod_lt _ (by omega), b', a' % b', y', false, rfl, by rw [← hg, Nat.gcd_comm a' b', Nat.gcd_rec b' a']; exact Nat.gcd_comm _ _, hb', by have := Nat.mod_lt a' (show 0 < b' by omega); omega, k2, k3, k4, kk, by exact E_le (by decide) (E_size _ _) (by simp only [List.forall_mem_cons, List.not_mem_nil, false_implies, implies_true, and_true, List.cons_append, List.nil_append, Nat.zero_add, Nat.reduceAdd, E_get, Nat.reduceEqDiff, Nat.reduceLT, Nat.reduceLeDiff, if_true, if_false, and_self, true_and] <;> first | rfl | exact ⟨rfl, rfl⟩)⟩
theorem div_lt (a g m : Nat) (h : a < m) : a / g < m := Nat.lt_of_le_of_lt (Nat.div_le_self _ _) h
theorem made_p (a b : Nat) (ha : a < 4611686018427387904) (hb : b < 4611686018427387904) (h0 : 0 < b) : Pt (kn G base w0) 34 [wd a false, wd b false] H (.tuple [rt (a / Nat.gcd a b) (b / Nat.gcd a b), .int .i64 0]) H := by
  refine Pt.pure ?_ rfl
  refine Pt.fn (n := 72) (rs := [.cell 4 37, .tmp 5]) Try.func34 (b := _) rfl rfl rfl (by decide) ?_
  simp only [numbered]
  have p1 := fun H => zero_p (G := G) (base := base) (w0 := w0) (H := H) a false
  have hg : 0 < Nat.gcd a b := Nat.gcd_pos_of_pos_right _ h0
  by_cases ha0 : a = 0
  · subst ha0
    rw [decide_eq_true rfl] at p1
    refine D.sq (D.ks (.a <| .a <| .e [(5, AV.int IntKind.i64 0), (4, AV.ptr (Loc.own (List.length (hnew (hnew H (AObj.row 71 3 [AV.int IntKind.u64 0, AV.int IntKind.u64 0, AV.bool false])) (AObj.row 71 3 [AV.int IntKind.u64 0, AV.int IntKind.u64 (↑b : Int), AV.bool false])))) 0), (3, AV.ptr (Loc.own (List.length (hnew H (AObj.row 71 3 [AV.int IntKind.u64 0, AV.int IntKind.u64 0, AV.bool false])))) 0), (2, AV.ptr (Loc.own (List.length H)) 0)] (hnew (hnew (hnew H (AObj.row 71 3 [AV.int IntKind.u64 0, AV.int IntKind.u64 0, AV.bool false])) (AObj.row 71 3 [AV.int IntKind.u64 0, AV.int IntKind.u64 (↑b : Int), AV.bool false])) (AObj.row 37 2 [AV.int IntKind.i64 0, AV.int IntKind.i64 0]))) (by kernel_rfl) (D.sq (D.sq (D.ks (.q (hat_up (hat_up (@hat_nn H (AObj.row 71 3 [AV.int IntKind.u64 0, AV.int IntKind.u64 0, AV.bool false])) (AObj.row 71 3 [AV.int IntKind.u64 0, AV.int IntKind.u64 (↑b : Int), AV.bool false])) (AObj.row 37 2 [AV.int IntKind.i64 0, AV.int IntKind.i64 0])) <| .c (@p1 (hnew (hnew (hnew H (AObj.row 71 3 [AV.int IntKind.u64 0, AV.int IntKind.u64 0, AV.bool false])) (AObj.row 71 3 [AV.int IntKind.u64 0, AV.int IntKind.u64 (↑b : Int), AV.bool false])) (AObj.row 37 2 [AV.int IntKind.i64 0, AV.int IntKind.i64 0]))) <| .e [(13, AV.bool true)] (hnew (hnew (hnew H (AObj.row 71 3 [AV.int IntKind.u64 0, AV.int IntKind.u64 0, AV.bool false])) (AObj.row 71 3 [AV.int IntKind.u64 0, AV.int IntKind.u64 (↑b : Int), AV.bool false])) (AObj.row 37 2 [AV.int IntKind.i64 0, AV.int IntKind.i64 0]))) (by kernel_rfl) (D.ct (by kernel_rfl) (D.sq (D.ks (.h (st_top (H := hnew (hnew H (AObj.row 71 3 [AV.int IntKind.u64 0, AV.int IntKind.u64 0, AV.bool false])) (AObj.row 71 3 [AV.int IntKind.u64 0, AV.int IntKind.u64 (↑b : Int), AV.bool false])) (t := 37) (e := 2) (cs := [AV.int IntKind.i64 0, AV.int IntKind.i64 0]) (off := 0) (vs := [AV.int IntKind.i64 0, AV.int IntKind.i64 1]) (cs' := [AV.int IntKind.i64 0, AV.int IntKind.i64 1]) rfl rfl rfl) <| .e [(5, AV.int IntKind.i64 0)] (hnew (hnew (hnew H (AObj.row 71 3 [AV.int IntKind.u64 0, AV.int IntKind.u64 0, AV.bool false])) (AObj.row 71 3 [AV.int IntKind.u64 0, AV.int IntKind.u64 (↑b : Int), AV.bool false])) (AObj.row 37 2 [AV.int IntKind.i64 0, AV.int IntKind.i64 1]))) (by kernel_rfl) (D.ret (Ks_r' (Kf_by (AV.tuple [AV.agg [AV.int IntKind.i64 0, AV.int IntKind.i64 1], AV.int IntKind.i64 0]) (.v (ld_ownA (c := (Kn.c (kn G base w0))) (t := 37) (@hat_nn (hnew (hnew H (AObj.row 71 3 [AV.int IntKind.u64 0, AV.int IntKind.u64 0, AV.bool false])) (AObj.row 71 3 [AV.int IntKind.u64 0, AV.int IntKind.u64 (↑b : Int), AV.bool false])) (AObj.row 37 2 [AV.int IntKind.i64 0, AV.int IntKind.i64 1])) (by kernel_rfl) (by kernel_rfl)) <| .r (AV.tuple [AV.agg [AV.int IntKind.i64 0, AV.int IntKind.i64 1], AV.int IntKind.i64 0])) (by kernel_rfl) ?_))))))))))
    refine ⟨?_, ((Keep.new _ _).trans (Keep.new _ _)).trans (Keep.new _ _)⟩
    rw [Nat.gcd_zero_left, Nat.zero_div, Nat.div_self h0]; rfl
  rw [decide_eq_false ha0] at p1
  have p2 := fun H => gcd_p (G := G) (base := base) (w0 := w0) (H := H) a b false false ha hb
  have p3 := fun H => by_p (G := G) (base := base) (w0 := w0) (H := H) a (Nat.gcd a b) false false (by omega) hg
  have p4 := fun H => by_p (G := G) (base := base) (w0 := w0) (H := H) b (Nat.gcd a b) false false (by omega) hg
  have q1 := div_lt a (Nat.gcd a b) _ ha
  have q2 := div_lt b (Nat.gcd a b) _ hb
  generalize a / Nat.gcd a b = u at *
  generalize b / Nat.gcd a b = v at *
  refine D.sq (D.ks (.a <| .a <| .e [(5, AV.int IntKind.i64 0), (4, AV.ptr (Loc.own (List.length (hnew (hnew H (AObj.row 71 3 [AV.int IntKind.u64 0, AV.int IntKind.u64 (↑a : Int), AV.bool false])) (AObj.row 71 3 [AV.int IntKind.u64 0, AV.int IntKind.u64 (↑b : Int), AV.bool false])))) 0), (3, AV.ptr (Loc.own (List.length (hnew H (AObj.row 71 3 [AV.int IntKind.u64 0, AV.int IntKind.u64 (↑a : Int), AV.bool false])))) 0), (2, AV.ptr (Loc.own (List.length H)) 0)] (hnew (hnew (hnew H (AObj.row 71 3 [AV.int IntKind.u64 0, AV.int IntKind.u64 (↑a : Int), AV.bool false])) (AObj.row 71 3 [AV.int IntKind.u64 0, AV.int IntKind.u64 (↑b : Int), AV.bool false])) (AObj.row 37 2 [AV.int IntKind.i64 0, AV.int IntKind.i64 0]))) (by kernel_rfl) (D.sq (D.sq (D.ks (.q (hat_up (hat_up (@hat_nn H (AObj.row 71 3 [AV.int IntKind.u64 0, AV.int IntKind.u64 (↑a : Int), AV.bool false])) (AObj.row 71 3 [AV.int IntKind.u64 0, AV.int IntKind.u64 (↑b : Int), AV.bool false])) (AObj.row 37 2 [AV.int IntKind.i64 0, AV.int IntKind.i64 0])) <| .c (@p1 (hnew (hnew (hnew H (AObj.row 71 3 [AV.int IntKind.u64 0, AV.int IntKind.u64 (↑a : Int), AV.bool false])) (AObj.row 71 3 [AV.int IntKind.u64 0, AV.int IntKind.u64 (↑b : Int), AV.bool false])) (AObj.row 37 2 [AV.int IntKind.i64 0, AV.int IntKind.i64 0]))) <| .e [(13, AV.bool false)] (hnew (hnew (hnew H (AObj.row 71 3 [AV.int IntKind.u64 0, AV.int IntKind.u64 (↑a : Int), AV.bool false])) (AObj.row 71 3 [AV.int IntKind.u64 0, AV.int IntKind.u64 (↑b : Int), AV.bool false])) (AObj.row 37 2 [AV.int IntKind.i64 0, AV.int IntKind.i64 0]))) (by kernel_rfl) (D.cf (by kernel_rfl) (D.skip (Ks_n' (D.sq (D.ks (.q (hat_up (hat_up (@hat_nn H (AObj.row 71 3 [AV.int IntKind.u64 0, AV.int IntKind.u64 (↑a : Int), AV.bool false])) (AObj.row 71 3 [AV.int IntKind.u64 0, AV.int IntKind.u64 (↑b : Int), AV.bool false])) (AObj.row 37 2 [AV.int IntKind.i64 0, AV.int IntKind.i64 0])) <| .q (hat_up (@hat_nn (hnew H (AObj.row 71 3 [AV.int IntKind.u64 0, AV.int IntKind.u64 (↑a : Int), AV.bool false])) (AObj.row 71 3 [AV.int IntKind.u64 0, AV.int IntKind.u64 (↑b : Int), AV.bool false])) (AObj.row 37 2 [AV.int IntKind.i64 0, AV.int IntKind.i64 0])) <| .c (@p2 (hnew (hnew (hnew H (AObj.row 71 3 [AV.int IntKind.u64 0, AV.int IntKind.u64 (↑a : Int), AV.bool false])) (AObj.row 71 3 [AV.int IntKind.u64 0, AV.int IntKind.u64 (↑b : Int), AV.bool false])) (AObj.row 37 2 [AV.int IntKind.i64 0, AV.int IntKind.i64 0]))) <| .h (st_top (H := hnew (hnew (hnew H (AObj.row 71 3 [AV.int IntKind.u64 0, AV.int IntKind.u64 (↑a : Int), AV.bool false])) (AObj.row 71 3 [AV.int IntKind.u64 0, AV.int IntKind.u64 (↑b : Int), AV.bool false])) (AObj.row 37 2 [AV.int IntKind.i64 0, AV.int IntKind.i64 0])) (t := 71) (e := 3) (cs := [AV.int IntKind.u64 0, AV.int IntKind.u64 0, AV.bool false]) (off := 0) (vs := [AV.int IntKind.u64 0, AV.int IntKind.u64 (↑(Nat.gcd a b) : Int), AV.bool false]) (cs' := [AV.int IntKind.u64 0, AV.int IntKind.u64 (↑(Nat.gcd a b) : Int), AV.bool false]) rfl rfl rfl) <| .e [(6, AV.ptr (Loc.own (List.length (hnew (hnew (hnew H (AObj.row 71 3 [AV.int IntKind.u64 0, AV.int IntKind.u64 (↑a : Int), AV.bool false])) (AObj.row 71 3 [AV.int IntKind.u64 0, AV.int IntKind.u64 (↑b : Int), AV.bool false])) (AObj.row 37 2 [AV.int IntKind.i64 0, AV.int IntKind.i64 0])))) 0)] (hnew (hnew (hnew (hnew H (AObj.row 71 3 [AV.int IntKind.u64 0, AV.int IntKind.u64 (↑a : Int), AV.bool false])) (AObj.row 71 3 [AV.int IntKind.u64 0, AV.int IntKind.u64 (↑b : Int), AV.bool false])) (AObj.row 37 2 [AV.int IntKind.i64 0, AV.int IntKind.i64 0])) (AObj.row 71 3 [AV.int IntKind.u64 0, AV.int IntKind.u64 (↑(Nat.gcd a b) : Int), AV.bool false]))) (by kernel_rfl) (D.sq (D.ks (.q (hat_up (hat_up (hat_up (@hat_nn H (AObj.row 71 3 [AV.int IntKind.u64 0, AV.int IntKind.u64 (↑a : Int), AV.bool false])) (AObj.row 71 3 [AV.int IntKind.u64 0, AV.int IntKind.u64 (↑b : Int), AV.bool false])) (AObj.row 37 2 [AV.int IntKind.i64 0, AV.int IntKind.i64 0])) (AObj.row 71 3 [AV.int IntKind.u64 0, AV.int IntKind.u64 (↑(Nat.gcd a b) : Int), AV.bool false])) <| .q (@hat_nn (hnew (hnew (hnew H (AObj.row 71 3 [AV.int IntKind.u64 0, AV.int IntKind.u64 (↑a : Int), AV.bool false])) (AObj.row 71 3 [AV.int IntKind.u64 0, AV.int IntKind.u64 (↑b : Int), AV.bool false])) (AObj.row 37 2 [AV.int IntKind.i64 0, AV.int IntKind.i64 0])) (AObj.row 71 3 [AV.int IntKind.u64 0, AV.int IntKind.u64 (↑(Nat.gcd a b) : Int), AV.bool false])) <| .c (@p3 (hnew (hnew (hnew (hnew H (AObj.row 71 3 [AV.int IntKind.u64 0, AV.int IntKind.u64 (↑a : Int), AV.bool false])) (AObj.row 71 3 [AV.int IntKind.u64 0, AV.int IntKind.u64 (↑b : Int), AV.bool false])) (AObj.row 37 2 [AV.int IntKind.i64 0, AV.int IntKind.i64 0])) (AObj.row 71 3 [AV.int IntKind.u64 0, AV.int IntKind.u64 (↑(Nat.gcd a b) : Int), AV.bool false]))) <| .e [(8, AV.bool true), (7, AV.int IntKind.u64 (↑u : Int))] (hnew (hnew (hnew (hnew H (AObj.row 71 3 [AV.int IntKind.u64 0, AV.int IntKind.u64 (↑a : Int), AV.bool false])) (AObj.row 71 3 [AV.int IntKind.u64 0, AV.int IntKind.u64 (↑b : Int), AV.bool false])) (AObj.row 37 2 [AV.int IntKind.i64 0, AV.int IntKind.i64 0])) (AObj.row 71 3 [AV.int IntKind.u64 0, AV.int IntKind.u64 (↑(Nat.gcd a b) : Int), AV.bool false]))) (by kernel_rfl) (D.sq (D.ks (.q (hat_up (hat_up (@hat_nn (hnew H (AObj.row 71 3 [AV.int IntKind.u64 0, AV.int IntKind.u64 (↑a : Int), AV.bool false])) (AObj.row 71 3 [AV.int IntKind.u64 0, AV.int IntKind.u64 (↑b : Int), AV.bool false])) (AObj.row 37 2 [AV.int IntKind.i64 0, AV.int IntKind.i64 0])) (AObj.row 71 3 [AV.int IntKind.u64 0, AV.int IntKind.u64 (↑(Nat.gcd a b) : Int), AV.bool false])) <| .q (@hat_nn (hnew (hnew (hnew H (AObj.row 71 3 [AV.int IntKind.u64 0, AV.int IntKind.u64 (↑a : Int), AV.bool false])) (AObj.row 71 3 [AV.int IntKind.u64 0, AV.int IntKind.u64 (↑b : Int), AV.bool false])) (AObj.row 37 2 [AV.int IntKind.i64 0, AV.int IntKind.i64 0])) (AObj.row 71 3 [AV.int IntKind.u64 0, AV.int IntKind.u64 (↑(Nat.gcd a b) : Int), AV.bool false])) <| .c (@p4 (hnew (hnew (hnew (hnew H (AObj.row 71 3 [AV.int IntKind.u64 0, AV.int IntKind.u64 (↑a : Int), AV.bool false])) (AObj.row 71 3 [AV.int IntKind.u64 0, AV.int IntKind.u64 (↑b : Int), AV.bool false])) (AObj.row 37 2 [AV.int IntKind.i64 0, AV.int IntKind.i64 0])) (AObj.row 71 3 [AV.int IntKind.u64 0, AV.int IntKind.u64 (↑(Nat.gcd a b) : Int), AV.bool false]))) <| .e [(10, AV.bool true), (9, AV.int IntKind.u64 (↑v : Int))] (hnew (hnew (hnew (hnew H (AObj.row 71 3 [AV.int IntKind.u64 0, AV.int IntKind.u64 (↑a : Int), AV.bool false])) (AObj.row 71 3 [AV.int IntKind.u64 0, AV.int IntKind.u64 (↑b : Int), AV.bool false])) (AObj.row 37 2 [AV.int IntKind.i64 0, AV.int IntKind.i64 0])) (AObj.row 71 3 [AV.int IntKind.u64 0, AV.int IntKind.u64 (↑(Nat.gcd a b) : Int), AV.bool false]))) (by kernel_rfl) (D.sq (D.ks (.a <| .q (hat_up (hat_up (hat_up (@hat_nn H (AObj.row 71 3 [AV.int IntKind.u64 0, AV.int IntKind.u64 (↑a : Int), AV.bool false])) (AObj.row 71 3 [AV.int IntKind.u64 0, AV.int IntKind.u64 (↑b : Int), AV.bool false])) (AObj.row 37 2 [AV.int IntKind.i64 0, AV.int IntKind.i64 0])) (AObj.row 71 3 [AV.int IntKind.u64 0, AV.int IntKind.u64 (↑(Nat.gcd a b) : Int), AV.bool false])) <| .a <| .q (hat_up (hat_up (@hat_nn (hnew H (AObj.row 71 3 [AV.int IntKind.u64 0, AV.int IntKind.u64 (↑a : Int), AV.bool false])) (AObj.row 71 3 [AV.int IntKind.u64 0, AV.int IntKind.u64 (↑b : Int), AV.bool false])) (AObj.row 37 2 [AV.int IntKind.i64 0, AV.int IntKind.i64 0])) (AObj.row 71 3 [AV.int IntKind.u64 0, AV.int IntKind.u64 (↑(Nat.gcd a b) : Int), AV.bool false])) <| .a <| .e [(11, AV.bool false)] (hnew (hnew (hnew (hnew H (AObj.row 71 3 [AV.int IntKind.u64 0, AV.int IntKind.u64 (↑a : Int), AV.bool false])) (AObj.row 71 3 [AV.int IntKind.u64 0, AV.int IntKind.u64 (↑b : Int), AV.bool false])) (AObj.row 37 2 [AV.int IntKind.i64 0, AV.int IntKind.i64 0])) (AObj.row 71 3 [AV.int IntKind.u64 0, AV.int IntKind.u64 (↑(Nat.gcd a b) : Int), AV.bool false]))) (by kernel_rfl) (D.sq (D.bl (D.sq (D.ks (.a <| .a <| .o (show ¬ (9223372036854775807 < (↑v : Int)) by omega) <| .e [(35, AV.bool false)] (hnew (hnew (hnew (hnew H (AObj.row 71 3 [AV.int IntKind.u64 0, AV.int IntKind.u64 (↑a : Int), AV.bool false])) (AObj.row 71 3 [AV.int IntKind.u64 0, AV.int IntKind.u64 (↑b : Int), AV.bool false])) (AObj.row 37 2 [AV.int IntKind.i64 0, AV.int IntKind.i64 0])) (AObj.row 71 3 [AV.int IntKind.u64 0, AV.int IntKind.u64 (↑(Nat.gcd a b) : Int), AV.bool false]))) (by kernel_rfl) (D.cf (by kernel_rfl) (D.sq (D.ks (.e [(47, AV.bool false)] (hnew (hnew (hnew (hnew H (AObj.row 71 3 [AV.int IntKind.u64 0, AV.int IntKind.u64 (↑a : Int), AV.bool false])) (AObj.row 71 3 [AV.int IntKind.u64 0, AV.int IntKind.u64 (↑b : Int), AV.bool false])) (AObj.row 37 2 [AV.int IntKind.i64 0, AV.int IntKind.i64 0])) (AObj.row 71 3 [AV.int IntKind.u64 0, AV.int IntKind.u64 (↑(Nat.gcd a b) : Int), AV.bool false]))) (by kernel_rfl) (D.cf (by kernel_rfl) (D.sq (D.ks (.a <| .y (show (↑u : Int) ≤ 9223372036854775807 by omega) <| .e [(59, AV.bool true)] (hnew (hnew (hnew (hnew H (AObj.row 71 3 [AV.int IntKind.u64 0, AV.int IntKind.u64 (↑a : Int), AV.bool false])) (AObj.row 71 3 [AV.int IntKind.u64 0, AV.int IntKind.u64 (↑b : Int), AV.bool false])) (AObj.row 37 2 [AV.int IntKind.i64 0, AV.int IntKind.i64 0])) (AObj.row 71 3 [AV.int IntKind.u64 0, AV.int IntKind.u64 (↑(Nat.gcd a b) : Int), AV.bool false]))) (by kernel_rfl) (D.ct (by kernel_rfl) (D.sq (D.ks (.n (@wrap_to ((↑u : Int)) ((↑u : Int)) (by omega) (by omega) (by omega)) <| .n (@wrap_to ((↑v : Int)) ((↑v : Int)) (by omega) (by omega) (by omega)) <| .h (st_up (st_top (H := hnew (hnew H (AObj.row 71 3 [AV.int IntKind.u64 0, AV.int IntKind.u64 (↑a : Int), AV.bool false])) (AObj.row 71 3 [AV.int IntKind.u64 0, AV.int IntKind.u64 (↑b : Int), AV.bool false])) (t := 37) (e := 2) (cs := [AV.int IntKind.i64 0, AV.int IntKind.i64 0]) (off := 0) (vs := [AV.int IntKind.i64 (↑u : Int), AV.int IntKind.i64 (↑v : Int)]) (cs' := [AV.int IntKind.i64 (↑u : Int), AV.int IntKind.i64 (↑v : Int)]) rfl rfl rfl) (AObj.row 71 3 [AV.int IntKind.u64 0, AV.int IntKind.u64 (↑(Nat.gcd a b) : Int), AV.bool false])) <| .e [(5, AV.int IntKind.i64 0)] (hnew (hnew (hnew (hnew H (AObj.row 71 3 [AV.int IntKind.u64 0, AV.int IntKind.u64 (↑a : Int), AV.bool false])) (AObj.row 71 3 [AV.int IntKind.u64 0, AV.int IntKind.u64 (↑b : Int), AV.bool false])) (AObj.row 37 2 [AV.int IntKind.i64 (↑u : Int), AV.int IntKind.i64 (↑v : Int)])) (AObj.row 71 3 [AV.int IntKind.u64 0, AV.int IntKind.u64 (↑(Nat.gcd a b) : Int), AV.bool false]))) (by kernel_rfl) (D.ret (Kb_r' (Ks_r' (Kf_by (AV.tuple [AV.agg [AV.int IntKind.i64 (↑u : Int), AV.int IntKind.i64 (↑v : Int)], AV.int IntKind.i64 0]) (.v (ld_ownA (c := (Kn.c (kn G base w0))) (t := 37) (hat_up (@hat_nn (hnew (hnew H (AObj.row 71 3 [AV.int IntKind.u64 0, AV.int IntKind.u64 (↑a : Int), AV.bool false])) (AObj.row 71 3 [AV.int IntKind.u64 0, AV.int IntKind.u64 (↑b : Int), AV.bool false])) (AObj.row 37 2 [AV.int IntKind.i64 (↑u : Int), AV.int IntKind.i64 (↑v : Int)])) (AObj.row 71 3 [AV.int IntKind.u64 0, AV.int IntKind.u64 (↑(Nat.gcd a b) : Int), AV.bool false])) (by kernel_rfl) (by kernel_rfl)) <| .r (AV.tuple [AV.agg [AV.int IntKind.i64 (↑u : Int), AV.int IntKind.i64 (↑v : Int)], AV.int IntKind.i64 0])) (by kernel_rfl) ?_))))))))))))))))))))))))))))))))
  exact ⟨rfl, (((Keep.new _ _).trans (Keep.new _ _)).trans (Keep.new _ _)).trans (Keep.new _ _)⟩
theorem wgcd_p (a b : Nat) (ha : a < 4611686018427387904) (hb : b < 4611686018427387904) : Pt (kn G base w0) 48 [.int .i64 a, .int .i64 b] H (.int .i64 (Nat.gcd a b)) H := by
  refine Pt.pure ?_ rfl
  refine Pt.fn (n := 21) (rs := [.tmp 4]) Try.func48 (b := _) rfl rfl rfl (by decide) ?_
  simp only [numbered]
  have p1 := fun H => wsize_p (G := G) (base := base) (w0 := w0) (H := H) a ha
  have p2 := fun H => wsize_p (G := G) (base := base) (w0 := w0) (H := H) b hb
  refine D.sq (D.ks (.e [(4, AV.int IntKind.i64 0)] H) (by kernel_rfl) (D.sq (D.ks (.c (@p1 H) <| .c (@p2 H) <| .e [(6, AV.int IntKind.u64 (↑b : Int)), (5, AV.int IntKind.u64 (↑a : Int))] H) (by kernel_rfl) (D.sq (D.bl ?_)))))
  refine D.lp (fun m env H' => ∃ (a' b' : Nat), b' = m ∧ Nat.gcd a' b' = Nat.gcd a b ∧ a' < 4611686018427387904 ∧ b' < 4611686018427387904 ∧ H = H' ∧ ELe (E 21 [(6, .int .u64 b'), (5, .int .u64 a')]) env) b
    ⟨a, b, rfl, rfl, ha, hb, rfl, by exact E_le (by decide) (E_size _ _) (by simp only [List.forall_mem_cons, List.not_mem_nil, false_implies, implies_true, and_true, List.cons_append, List.nil_append, Nat.zero_add, Nat.reduceAdd, E_get, Nat.reduceEqDiff, Nat.reduceLT, Nat.reduceLeDiff, if_true, if_false, and_self, true_and] <;> first | rfl | exact ⟨rfl, rfl⟩)⟩ ?_
  rintro m env H3 ⟨a', b', rfl, hg, ha', hb', rfl, he⟩
  refine D.forget he ?_
  clear he p1 p2
  by_cases h0 : b' = 0
  · have hr : a' = Nat.gcd a b := by rw [← hg, h0, Nat.gcd_zero_right]
    rw [← hr]
    refine D.sq (D.sq (D.ks (.o (show (↑b' : Int) = 0 by omega) <| .e [(12, AV.bool false)] H) (by kernel_rfl) (D.cf (by kernel_rfl) (D.exit (Ks_e' (Kl_e' (Kb_e' (Ks_n' (D.sq (D.sq (D.ks (.o (show ¬ (9223372036854775807 < (↑a' : Int)) by omega) <| .e [(18, AV.bool false)] H) (by kernel_rfl) (D.cf (by kernel_rfl) (D.skip (Ks_n' (D.sq (D.ks (.n (@wrap_to ((↑a' : Int)) ((↑a' : Int)) (by omega) (by omega) (by omega)) <| .e [(4, AV.int IntKind.i64 (↑a' : Int))] H) (by kernel_rfl) (D.ret (Kf_by (AV.int IntKind.i64 (↑a' : Int)) (.r (AV.int IntKind.i64 (↑a' : Int))) (by kernel_rfl) ?_))))))))))))))))))
    exact ⟨rfl, Keep.refl _⟩
  have q := remU (G := G) (base := base) (w0 := w0) a' b' (by omega)
  refine D.sq (D.sq (D.ks (.y (show ¬ ((↑b' : Int) = 0) by omega) <| .e [(12, AV.bool true)] H) (by kernel_rfl) (D.ct (by kernel_rfl) (D.skip (Ks_n' (D.bl (D.kr (.v (@q 69) <| .e [(6, AV.int IntKind.u64 (↑(a' % b') : Int)), (5, AV.int IntKind.u64 (↑b' : Int))] H) (by kernel_rfl) (Kb_n' ?_))))))))
  exact ⟨a' % b', Nat.mod_lt _ (by omega), b', a' % b', rfl, by rw [← hg, Nat.gcd_comm a' b', Nat.gcd_rec b' a']; exact Nat.gcd_comm _ _, hb', by have := Nat.mod_lt a' (show 0 < b' by omega); omega, rfl, by exact E_le (by decide) (E_size _ _) (by simp only [List.forall_mem_cons, List.not_mem_nil, false_implies, implies_true, and_true, List.cons_append, List.nil_append, Nat.zero_add, Nat.reduceAdd, E_get, Nat.reduceEqDiff, Nat.reduceLT, Nat.reduceLeDiff, if_true, if_false, and_self, true_and] <;> first | rfl | exact ⟨rfl, rfl⟩)⟩
/-- in lowest terms? -/
theorem may_p (a b : Nat) (ha : a < 4611686018427387904) (hb : b < 4611686018427387904) (h0 : 0 < b) (hg : Nat.gcd a b = 1) : Pt (kn G base w0) 33 [rt a b] H (.bool true) H := by
  refine Pt.pure ?_ rfl
  refine Pt.fn (n := 14) (rs := [.tmp 2]) Try.func33 (b := _) rfl rfl rfl (by decide) ?_
  simp only [numbered]
  have p1 := fun H => wgcd_p (G := G) (base := base) (w0 := w0) (H := H) a b ha hb
  rw [hg] at p1
  refine D.sq (D.ks (.a <| .e [(2, AV.bool false), (1, AV.ptr (Loc.own (List.length H)) 0)] (hnew H (AObj.row 37 2 [AV.int IntKind.i64 (↑a : Int), AV.int IntKind.i64 (↑b : Int)]))) (by kernel_rfl) (D.sq (D.ks (.a <| .q (@hat_nn H (AObj.row 37 2 [AV.int IntKind.i64 (↑a : Int), AV.int IntKind.i64 (↑b : Int)])) <| .y (show 0 < (↑b : Int) by omega) <| .a <| .q (@hat_nn H (AObj.row 37 2 [AV.int IntKind.i64 (↑a : Int), AV.int IntKind.i64 (↑b : Int)])) <| .a <| .q (@hat_nn H (AObj.row 37 2 [AV.int IntKind.i64 (↑a : Int), AV.int IntKind.i64 (↑b : Int)])) <| .c (@p1 (hnew H (AObj.row 37 2 [AV.int IntKind.i64 (↑a : Int), AV.int IntKind.i64 (↑b : Int)]))) <| .a <| .e [(2, AV.bool true)] (hnew H (AObj.row 37 2 [AV.int IntKind.i64 (↑a : Int), AV.int IntKind.i64 (↑b : Int)]))) (by kernel_rfl) (D.ret (Kf_by (AV.bool true) (.r (AV.bool true)) (by kernel_rfl) ?_)))))
  exact ⟨rfl, Keep.new _ _⟩
theorem of_p (a b : Nat) (ha : a < 4294967296) (hb : b < 4294967296) (h0 : 0 < b) : Pt (kn G base w0) 31 [.int .i64 a, .int .i64 b] H (.tuple [rt (a / Nat.gcd a b) (b / Nat.gcd a b), .int .i64 0]) H := by
  refine Pt.pure ?_ rfl
  refine Pt.fn (n := 16) (rs := [.cell 4 37, .tmp 5]) Try.func31 (b := _) rfl rfl rfl (by decide) ?_
  simp only [numbered]
  have p1 := fun H => times_p (G := G) (base := base) (w0 := w0) (H := H) a 1 ha (by omega)
  have p2 := fun H => times_p (G := G) (base := base) (w0 := w0) (H := H) b 1 hb (by omega)
  rw [Nat.mul_one] at p1 p2
  have p3 := fun H => made_p (G := G) (base := base) (w0 := w0) (H := H) a b (by omega) (by omega) h0
  refine D.sq (D.ks (.e [(5, AV.int IntKind.i64 0), (4, AV.ptr (Loc.own (List.length H)) 0)] (hnew H (AObj.row 37 2 [AV.int IntKind.i64 0, AV.int IntKind.i64 0]))) (by kernel_rfl) (D.sq (D.sq (D.ks (.o (show ¬ ((↑b : Int) = 0) by omega) <| .e [(7, AV.bool false)] (hnew H (AObj.row 37 2 [AV.int IntKind.i64 0, AV.int IntKind.i64 0]))) (by kernel_rfl) (D.cf (by kernel_rfl) (D.skip (Ks_n' (D.sq (D.ks (.c (@p1 (hnew H (AObj.row 37 2 [AV.int IntKind.i64 0, AV.int IntKind.i64 0]))) <| .c (@p2 (hnew H (AObj.row 37 2 [AV.int IntKind.i64 0, AV.int IntKind.i64 0]))) <| .c (@p3 (hnew H (AObj.row 37 2 [AV.int IntKind.i64 0, AV.int IntKind.i64 0]))) <| .h (st_top (H := H) (t := 37) (e := 2) (cs := [AV.int IntKind.i64 0, AV.int IntKind.i64 0]) (off := 0) (vs := [AV.int IntKind.i64 (↑(a / Nat.gcd a b) : Int), AV.int IntKind.i64 (↑(b / Nat.gcd a b) : Int)]) (cs' := [AV.int IntKind.i64 (↑(a / Nat.gcd a b) : Int), AV.int IntKind.i64 (↑(b / Nat.gcd a b) : Int)]) rfl rfl rfl) <| .e [(5, AV.int IntKind.i64 0)] (hnew H (AObj.row 37 2 [AV.int IntKind.i64 (↑(a / Nat.gcd a b) : Int), AV.int IntKind.i64 (↑(b / Nat.gcd a b) : Int)]))) (by kernel_rfl) (D.ret (Kf_by (AV.tuple [AV.agg [AV.int IntKind.i64 (↑(a / Nat.gcd a b) : Int), AV.int IntKind.i64 (↑(b / Nat.gcd a b) : Int)], AV.int IntKind.i64 0]) (.v (ld_ownA (c := (Kn.c (kn G base w0))) (t := 37) (@hat_nn H (AObj.row 37 2 [AV.int IntKind.i64 (↑(a / Nat.gcd a b) : Int), AV.int IntKind.i64 (↑(b / Nat.gcd a b) : Int)])) (by kernel_rfl) (by kernel_rfl)) <| .r (AV.tuple [AV.agg [AV.int IntKind.i64 (↑(a / Nat.gcd a b) : Int), AV.int IntKind.i64 (↑(b / Nat.gcd a b) : Int)], AV.int IntKind.i64 0])) (by kernel_rfl) ?_)))))))))))
  exact ⟨rfl, Keep.new _ _⟩
end Go.Proofs.Ytcbholgcbjddjaa.sy

/- ratio over small numbers that are not below nought (own work): Add, Sub, Mul. -/
namespace Go.Proofs.Ytcbholgcbjddjaa.sy
open Go.AM
set_option linter.unusedSimpArgs false
set_option linter.unusedVariables false
variable {G : List Nat → Option (List AV)} {base : Nat} {w0 : World}
set_option maxRecDepth 100000
set_option maxHeartbeats 8000000
variable {H : AHeap}
theorem c34 (a b : Nat) (ha : a < 4611686018427387904) (hb : b < 4611686018427387904) (h0 : 0 < b) (H : AHeap) : callT (kn G base w0) (pureT RT) 34 [wd a false, wd b false] H = some (.tuple [rt (a / Nat.gcd a b) (b / Nat.gcd a b), .int .i64 0], H) :=
  pureT_call (made_p a b ha hb h0) ⟨a, b, rfl, rfl⟩ (by
    rintro v' ⟨a', b', h, rfl⟩
    simp at h
    obtain ⟨h1, h2⟩ := h
    obtain rfl : a = a' := by omega
    obtain rfl : b = b' := by omega
    rfl)
/-- the lowest terms of a fraction -/
abbrev low (a b : Nat) : AV := .tuple [rt (a / Nat.gcd a b) (b / Nat.gcd a b), .int .i64 0]
theorem mulB {a b m n : Nat} (ha : a < m) (hb : b < n) (h : m * n ≤ 18446744073709551616) : a * b < 18446744073709551616 := by
  have := Nat.mul_lt_mul'' ha hb
  omega
theorem mul_p (a b c d : Nat) (ha : a < 2147483648) (hb : b < 2147483648) (hc : c < 2147483648) (hd : d < 2147483648) (hb0 : 0 < b) (hd0 : 0 < d) (g1 : Nat.gcd a b = 1) (g2 : Nat.gcd c d = 1) :
    Pt (kn G base w0) 32 [rt a b, rt c d] H (low (a * c) (b * d)) H := by
  refine Pt.pure ?_ rfl
  refine Pt.fn (n := 28) (rs := [.cell 4 37, .tmp 5]) Try.func32 (b := _) rfl rfl rfl (by decide) ?_
  simp only [numbered]
  have p1 := fun H => may_p (G := G) (base := base) (w0 := w0) (H := H) a b (by omega) (by omega) hb0 g1
  have p2 := fun H => may_p (G := G) (base := base) (w0 := w0) (H := H) c d (by omega) (by omega) hd0 g2
  have q1 := fun H => c35 (G := G) (base := base) (w0 := w0) a c (by omega) (by omega) H
  have q2 := fun H => c35 (G := G) (base := base) (w0 := w0) b d (by omega) (by omega) H
  have h1 : a * c < 4611686018427387904 := by have := Nat.mul_lt_mul'' ha hc; omega
  have h2 : b * d < 4611686018427387904 := by have := Nat.mul_lt_mul'' hb hd; omega
  have q3 := fun H => c34 (G := G) (base := base) (w0 := w0) (a * c) (b * d) h1 h2 (Nat.mul_pos hb0 hd0) H
  refine D.sq (D.ks (.a <| .a <| .e [(5, AV.int IntKind.i64 0), (4, AV.ptr (Loc.own (List.length (hnew (hnew H (AObj.row 37 2 [AV.int IntKind.i64 (↑a : Int), AV.int IntKind.i64 (↑b : Int)])) (AObj.row 37 2 [AV.int IntKind.i64 (↑c : Int), AV.int IntKind.i64 (↑d : Int)])))) 0), (3, AV.ptr (Loc.own (List.length (hnew H (AObj.row 37 2 [AV.int IntKind.i64 (↑a : Int), AV.int IntKind.i64 (↑b : Int)])))) 0), (2, AV.ptr (Loc.own (List.length H)) 0)] (hnew (hnew (hnew H (AObj.row 37 2 [AV.int IntKind.i64 (↑a : Int), AV.int IntKind.i64 (↑b : Int)])) (AObj.row 37 2 [AV.int IntKind.i64 (↑c : Int), AV.int IntKind.i64 (↑d : Int)])) (AObj.row 37 2 [AV.int IntKind.i64 0, AV.int IntKind.i64 0]))) (by kernel_rfl) (D.sq (D.sq (D.ks (.q (hat_up (hat_up (@hat_nn H (AObj.row 37 2 [AV.int IntKind.i64 (↑a : Int), AV.int IntKind.i64 (↑b : Int)])) (AObj.row 37 2 [AV.int IntKind.i64 (↑c : Int), AV.int IntKind.i64 (↑d : Int)])) (AObj.row 37 2 [AV.int IntKind.i64 0, AV.int IntKind.i64 0])) <| .c (@p1 (hnew (hnew (hnew H (AObj.row 37 2 [AV.int IntKind.i64 (↑a : Int), AV.int IntKind.i64 (↑b : Int)])) (AObj.row 37 2 [AV.int IntKind.i64 (↑c : Int), AV.int IntKind.i64 (↑d : Int)])) (AObj.row 37 2 [AV.int IntKind.i64 0, AV.int IntKind.i64 0]))) <| .a <| .q (hat_up (@hat_nn (hnew H (AObj.row 37 2 [AV.int IntKind.i64 (↑a : Int), AV.int IntKind.i64 (↑b : Int)])) (AObj.row 37 2 [AV.int IntKind.i64 (↑c : Int), AV.int IntKind.i64 (↑d : Int)])) (AObj.row 37 2 [AV.int IntKind.i64 0, AV.int IntKind.i64 0])) <| .c (@p2 (hnew (hnew (hnew H (AObj.row 37 2 [AV.int IntKind.i64 (↑a : Int), AV.int IntKind.i64 (↑b : Int)])) (AObj.row 37 2 [AV.int IntKind.i64 (↑c : Int), AV.int IntKind.i64 (↑d : Int)])) (AObj.row 37 2 [AV.int IntKind.i64 0, AV.int IntKind.i64 0]))) <| .a <| .e [(13, AV.bool false)] (hnew (hnew (hnew H (AObj.row 37 2 [AV.int IntKind.i64 (↑a : Int), AV.int IntKind.i64 (↑b : Int)])) (AObj.row 37 2 [AV.int IntKind.i64 (↑c : Int), AV.int IntKind.i64 (↑d : Int)])) (AObj.row 37 2 [AV.int IntKind.i64 0, AV.int IntKind.i64 0]))) (by kernel_rfl) (D.cf (by kernel_rfl) (D.skip (Ks_n' (D.sq (D.kws (pureT RT) [4, 9, 10] (.a <| .q (hat_up (hat_up (@hat_nn H (AObj.row 37 2 [AV.int IntKind.i64 (↑a : Int), AV.int IntKind.i64 (↑b : Int)])) (AObj.row 37 2 [AV.int IntKind.i64 (↑c : Int), AV.int IntKind.i64 (↑d : Int)])) (AObj.row 37 2 [AV.int IntKind.i64 0, AV.int IntKind.i64 0])) <| .a <| .q (hat_up (@hat_nn (hnew H (AObj.row 37 2 [AV.int IntKind.i64 (↑a : Int), AV.int IntKind.i64 (↑b : Int)])) (AObj.row 37 2 [AV.int IntKind.i64 (↑c : Int), AV.int IntKind.i64 (↑d : Int)])) (AObj.row 37 2 [AV.int IntKind.i64 0, AV.int IntKind.i64 0])) <| .vh (@q1 (hnew (hnew (hnew H (AObj.row 37 2 [AV.int IntKind.i64 (↑a : Int), AV.int IntKind.i64 (↑b : Int)])) (AObj.row 37 2 [AV.int IntKind.i64 (↑c : Int), AV.int IntKind.i64 (↑d : Int)])) (AObj.row 37 2 [AV.int IntKind.i64 0, AV.int IntKind.i64 0]))) <| .a <| .q (hat_up (hat_up (@hat_nn H (AObj.row 37 2 [AV.int IntKind.i64 (↑a : Int), AV.int IntKind.i64 (↑b : Int)])) (AObj.row 37 2 [AV.int IntKind.i64 (↑c : Int), AV.int IntKind.i64 (↑d : Int)])) (AObj.row 37 2 [AV.int IntKind.i64 0, AV.int IntKind.i64 0])) <| .a <| .q (hat_up (@hat_nn (hnew H (AObj.row 37 2 [AV.int IntKind.i64 (↑a : Int), AV.int IntKind.i64 (↑b : Int)])) (AObj.row 37 2 [AV.int IntKind.i64 (↑c : Int), AV.int IntKind.i64 (↑d : Int)])) (AObj.row 37 2 [AV.int IntKind.i64 0, AV.int IntKind.i64 0])) <| .vh (@q2 (hnew (hnew (hnew H (AObj.row 37 2 [AV.int IntKind.i64 (↑a : Int), AV.int IntKind.i64 (↑b : Int)])) (AObj.row 37 2 [AV.int IntKind.i64 (↑c : Int), AV.int IntKind.i64 (↑d : Int)])) (AObj.row 37 2 [AV.int IntKind.i64 0, AV.int IntKind.i64 0]))) <| .vh (@q3 (hnew (hnew (hnew H (AObj.row 37 2 [AV.int IntKind.i64 (↑a : Int), AV.int IntKind.i64 (↑b : Int)])) (AObj.row 37 2 [AV.int IntKind.i64 (↑c : Int), AV.int IntKind.i64 (↑d : Int)])) (AObj.row 37 2 [AV.int IntKind.i64 0, AV.int IntKind.i64 0]))) <| .h (st_top (H := hnew (hnew H (AObj.row 37 2 [AV.int IntKind.i64 (↑a : Int), AV.int IntKind.i64 (↑b : Int)])) (AObj.row 37 2 [AV.int IntKind.i64 (↑c : Int), AV.int IntKind.i64 (↑d : Int)])) (t := 37) (e := 2) (cs := [AV.int IntKind.i64 0, AV.int IntKind.i64 0]) (off := 0) (vs := [AV.int IntKind.i64 (↑(a * c / Nat.gcd (a * c) (b * d)) : Int), AV.int IntKind.i64 (↑(b * d / Nat.gcd (a * c) (b * d)) : Int)]) (cs' := [AV.int IntKind.i64 (↑(a * c / Nat.gcd (a * c) (b * d)) : Int), AV.int IntKind.i64 (↑(b * d / Nat.gcd (a * c) (b * d)) : Int)]) rfl rfl rfl) <| .e [(5, AV.int IntKind.i64 0)] (hnew (hnew (hnew H (AObj.row 37 2 [AV.int IntKind.i64 (↑a : Int), AV.int IntKind.i64 (↑b : Int)])) (AObj.row 37 2 [AV.int IntKind.i64 (↑c : Int), AV.int IntKind.i64 (↑d : Int)])) (AObj.row 37 2 [AV.int IntKind.i64 (↑(a * c / Nat.gcd (a * c) (b * d)) : Int), AV.int IntKind.i64 (↑(b * d / Nat.gcd (a * c) (b * d)) : Int)]))) (by kernel_rfl) (D.ret (Kf_by (AV.tuple [AV.agg [AV.int IntKind.i64 (↑(a * c / Nat.gcd (a * c) (b * d)) : Int), AV.int IntKind.i64 (↑(b * d / Nat.gcd (a * c) (b * d)) : Int)], AV.int IntKind.i64 0]) (.v (ld_ownA (c := (Kn.c (kn G base w0))) (t := 37) (@hat_nn (hnew (hnew H (AObj.row 37 2 [AV.int IntKind.i64 (↑a : Int), AV.int IntKind.i64 (↑b : Int)])) (AObj.row 37 2 [AV.int IntKind.i64 (↑c : Int), AV.int IntKind.i64 (↑d : Int)])) (AObj.row 37 2 [AV.int IntKind.i64 (↑(a * c / Nat.gcd (a * c) (b * d)) : Int), AV.int IntKind.i64 (↑(b * d / Nat.gcd (a * c) (b * d)) : Int)])) (by kernel_rfl) (by kernel_rfl)) <| .r (AV.tuple [AV.agg [AV.int IntKind.i64 (↑(a * c / Nat.gcd (a * c) (b * d)) : Int), AV.int IntKind.i64 (↑(b * d / Nat.gcd (a * c) (b * d)) : Int)], AV.int IntKind.i64 0])) (by kernel_rfl) ?_)))))))))))
  exact ⟨rfl, ((Keep.new _ _).trans (Keep.new _ _)).trans (Keep.new _ _)⟩
theorem add_p (a b c d : Nat) (ha : a < 4294967296) (hb : b < 268435456) (hc : c < 4294967296) (hd : d < 268435456) (hb0 : 0 < b) (hd0 : 0 < d) (g1 : Nat.gcd a b = 1) (g2 : Nat.gcd c d = 1) :
    Pt (kn G base w0) 23 [rt a b, rt c d] H (low (a * d + c * b) (b * d)) H := by
  refine Pt.pure ?_ rfl
  refine Pt.fn (n := 34) (rs := [.cell 4 37, .tmp 5]) Try.func23 (b := _) rfl rfl rfl (by decide) ?_
  simp only [numbered]
  have p1 := fun H => may_p (G := G) (base := base) (w0 := w0) (H := H) a b (by omega) (by omega) hb0 g1
  have p2 := fun H => may_p (G := G) (base := base) (w0 := w0) (H := H) c d (by omega) (by omega) hd0 g2
  have q1 := fun H => c35 (G := G) (base := base) (w0 := w0) a d (by omega) (by omega) H
  have q2 := fun H => c35 (G := G) (base := base) (w0 := w0) c b (by omega) (by omega) H
  have q3 := fun H => c35 (G := G) (base := base) (w0 := w0) b d (by omega) (by omega) H
  have h1 : a * d < 2305843009213693952 := by have := Nat.mul_lt_mul'' ha hd; omega
  have h2 : c * b < 2305843009213693952 := by have := Nat.mul_lt_mul'' hc hb; omega
  have h3 : b * d < 2305843009213693952 := by have := Nat.mul_lt_mul'' hb hd; omega
  have q4 := fun H => c36 (G := G) (base := base) (w0 := w0) (a * d) (c * b) (by omega) (by omega) H
  have q5 := fun H => c34 (G := G) (base := base) (w0 := w0) (a * d + c * b) (b * d) (by omega) (by omega) (Nat.mul_pos hb0 hd0) H
  refine D.sq (D.ks (.a <| .a <| .e [(5, AV.int IntKind.i64 0), (4, AV.ptr (Loc.own (List.length (hnew (hnew H (AObj.row 37 2 [AV.int IntKind.i64 (↑a : Int), AV.int IntKind.i64 (↑b : Int)])) (AObj.row 37 2 [AV.int IntKind.i64 (↑c : Int), AV.int IntKind.i64 (↑d : Int)])))) 0), (3, AV.ptr (Loc.own (List.length (hnew H (AObj.row 37 2 [AV.int IntKind.i64 (↑a : Int), AV.int IntKind.i64 (↑b : Int)])))) 0), (2, AV.ptr (Loc.own (List.length H)) 0)] (hnew (hnew (hnew H (AObj.row 37 2 [AV.int IntKind.i64 (↑a : Int), AV.int IntKind.i64 (↑b : Int)])) (AObj.row 37 2 [AV.int IntKind.i64 (↑c : Int), AV.int IntKind.i64 (↑d : Int)])) (AObj.row 37 2 [AV.int IntKind.i64 0, AV.int IntKind.i64 0]))) (by kernel_rfl) (D.sq (D.sq (D.ks (.q (hat_up (hat_up (@hat_nn H (AObj.row 37 2 [AV.int IntKind.i64 (↑a : Int), AV.int IntKind.i64 (↑b : Int)])) (AObj.row 37 2 [AV.int IntKind.i64 (↑c : Int), AV.int IntKind.i64 (↑d : Int)])) (AObj.row 37 2 [AV.int IntKind.i64 0, AV.int IntKind.i64 0])) <| .c (@p1 (hnew (hnew (hnew H (AObj.row 37 2 [AV.int IntKind.i64 (↑a : Int), AV.int IntKind.i64 (↑b : Int)])) (AObj.row 37 2 [AV.int IntKind.i64 (↑c : Int), AV.int IntKind.i64 (↑d : Int)])) (AObj.row 37 2 [AV.int IntKind.i64 0, AV.int IntKind.i64 0]))) <| .a <| .q (hat_up (@hat_nn (hnew H (AObj.row 37 2 [AV.int IntKind.i64 (↑a : Int), AV.int IntKind.i64 (↑b : Int)])) (AObj.row 37 2 [AV.int IntKind.i64 (↑c : Int), AV.int IntKind.i64 (↑d : Int)])) (AObj.row 37 2 [AV.int IntKind.i64 0, AV.int IntKind.i64 0])) <| .c (@p2 (hnew (hnew (hnew H (AObj.row 37 2 [AV.int IntKind.i64 (↑a : Int), AV.int IntKind.i64 (↑b : Int)])) (AObj.row 37 2 [AV.int IntKind.i64 (↑c : Int), AV.int IntKind.i64 (↑d : Int)])) (AObj.row 37 2 [AV.int IntKind.i64 0, AV.int IntKind.i64 0]))) <| .a <| .e [(13, AV.bool false)] (hnew (hnew (hnew H (AObj.row 37 2 [AV.int IntKind.i64 (↑a : Int), AV.int IntKind.i64 (↑b : Int)])) (AObj.row 37 2 [AV.int IntKind.i64 (↑c : Int), AV.int IntKind.i64 (↑d : Int)])) (AObj.row 37 2 [AV.int IntKind.i64 0, AV.int IntKind.i64 0]))) (by kernel_rfl) (D.cf (by kernel_rfl) (D.skip (Ks_n' (D.sq (D.kws (pureT RT) [4, 9, 10, 15, 16] (.a <| .q (hat_up (hat_up (@hat_nn H (AObj.row 37 2 [AV.int IntKind.i64 (↑a : Int), AV.int IntKind.i64 (↑b : Int)])) (AObj.row 37 2 [AV.int IntKind.i64 (↑c : Int), AV.int IntKind.i64 (↑d : Int)])) (AObj.row 37 2 [AV.int IntKind.i64 0, AV.int IntKind.i64 0])) <| .a <| .q (hat_up (@hat_nn (hnew H (AObj.row 37 2 [AV.int IntKind.i64 (↑a : Int), AV.int IntKind.i64 (↑b : Int)])) (AObj.row 37 2 [AV.int IntKind.i64 (↑c : Int), AV.int IntKind.i64 (↑d : Int)])) (AObj.row 37 2 [AV.int IntKind.i64 0, AV.int IntKind.i64 0])) <| .vh (@q1 (hnew (hnew (hnew H (AObj.row 37 2 [AV.int IntKind.i64 (↑a : Int), AV.int IntKind.i64 (↑b : Int)])) (AObj.row 37 2 [AV.int IntKind.i64 (↑c : Int), AV.int IntKind.i64 (↑d : Int)])) (AObj.row 37 2 [AV.int IntKind.i64 0, AV.int IntKind.i64 0]))) <| .a <| .q (hat_up (@hat_nn (hnew H (AObj.row 37 2 [AV.int IntKind.i64 (↑a : Int), AV.int IntKind.i64 (↑b : Int)])) (AObj.row 37 2 [AV.int IntKind.i64 (↑c : Int), AV.int IntKind.i64 (↑d : Int)])) (AObj.row 37 2 [AV.int IntKind.i64 0, AV.int IntKind.i64 0])) <| .a <| .q (hat_up (hat_up (@hat_nn H (AObj.row 37 2 [AV.int IntKind.i64 (↑a : Int), AV.int IntKind.i64 (↑b : Int)])) (AObj.row 37 2 [AV.int IntKind.i64 (↑c : Int), AV.int IntKind.i64 (↑d : Int)])) (AObj.row 37 2 [AV.int IntKind.i64 0, AV.int IntKind.i64 0])) <| .vh (@q2 (hnew (hnew (hnew H (AObj.row 37 2 [AV.int IntKind.i64 (↑a : Int), AV.int IntKind.i64 (↑b : Int)])) (AObj.row 37 2 [AV.int IntKind.i64 (↑c : Int), AV.int IntKind.i64 (↑d : Int)])) (AObj.row 37 2 [AV.int IntKind.i64 0, AV.int IntKind.i64 0]))) <| .vh (@q4 (hnew (hnew (hnew H (AObj.row 37 2 [AV.int IntKind.i64 (↑a : Int), AV.int IntKind.i64 (↑b : Int)])) (AObj.row 37 2 [AV.int IntKind.i64 (↑c : Int), AV.int IntKind.i64 (↑d : Int)])) (AObj.row 37 2 [AV.int IntKind.i64 0, AV.int IntKind.i64 0]))) <| .a <| .q (hat_up (hat_up (@hat_nn H (AObj.row 37 2 [AV.int IntKind.i64 (↑a : Int), AV.int IntKind.i64 (↑b : Int)])) (AObj.row 37 2 [AV.int IntKind.i64 (↑c : Int), AV.int IntKind.i64 (↑d : Int)])) (AObj.row 37 2 [AV.int IntKind.i64 0, AV.int IntKind.i64 0])) <| .a <| .q (hat_up (@hat_nn (hnew H (AObj.row 37 2 [AV.int IntKind.i64 (↑a : Int), AV.int IntKind.i64 (↑b : Int)])) (AObj.row 37 2 [AV.int IntKind.i64 (↑c : Int), AV.int IntKind.i64 (↑d : Int)])) (AObj.row 37 2 [AV.int IntKind.i64 0, AV.int IntKind.i64 0])) <| .vh (@q3 (hnew (hnew (hnew H (AObj.row 37 2 [AV.int IntKind.i64 (↑a : Int), AV.int IntKind.i64 (↑b : Int)])) (AObj.row 37 2 [AV.int IntKind.i64 (↑c : Int), AV.int IntKind.i64 (↑d : Int)])) (AObj.row 37 2 [AV.int IntKind.i64 0, AV.int IntKind.i64 0]))) <| .vh (@q5 (hnew (hnew (hnew H (AObj.row 37 2 [AV.int IntKind.i64 (↑a : Int), AV.int IntKind.i64 (↑b : Int)])) (AObj.row 37 2 [AV.int IntKind.i64 (↑c : Int), AV.int IntKind.i64 (↑d : Int)])) (AObj.row 37 2 [AV.int IntKind.i64 0, AV.int IntKind.i64 0]))) <| .h (st_top (H := hnew (hnew H (AObj.row 37 2 [AV.int IntKind.i64 (↑a : Int), AV.int IntKind.i64 (↑b : Int)])) (AObj.row 37 2 [AV.int IntKind.i64 (↑c : Int), AV.int IntKind.i64 (↑d : Int)])) (t := 37) (e := 2) (cs := [AV.int IntKind.i64 0, AV.int IntKind.i64 0]) (off := 0) (vs := [AV.int IntKind.i64 (↑((a * d + c * b) / Nat.gcd (a * d + c * b) (b * d)) : Int), AV.int IntKind.i64 (↑(b * d / Nat.gcd (a * d + c * b) (b * d)) : Int)]) (cs' := [AV.int IntKind.i64 (↑((a * d + c * b) / Nat.gcd (a * d + c * b) (b * d)) : Int), AV.int IntKind.i64 (↑(b * d / Nat.gcd (a * d + c * b) (b * d)) : Int)]) rfl rfl rfl) <| .e [(5, AV.int IntKind.i64 0)] (hnew (hnew (hnew H (AObj.row 37 2 [AV.int IntKind.i64 (↑a : Int), AV.int IntKind.i64 (↑b : Int)])) (AObj.row 37 2 [AV.int IntKind.i64 (↑c : Int), AV.int IntKind.i64 (↑d : Int)])) (AObj.row 37 2 [AV.int IntKind.i64 (↑((a * d + c * b) / Nat.gcd (a * d + c * b) (b * d)) : Int), AV.int IntKind.i64 (↑(b * d / Nat.gcd (a * d + c * b) (b * d)) : Int)]))) (by kernel_rfl) (D.ret (Kf_by (AV.tuple [AV.agg [AV.int IntKind.i64 (↑((a * d + c * b) / Nat.gcd (a * d + c * b) (b * d)) : Int), AV.int IntKind.i64 (↑(b * d / Nat.gcd (a * d + c * b) (b * d)) : Int)], AV.int IntKind.i64 0]) (.v (ld_ownA (c := (Kn.c (kn G base w0))) (t := 37) (@hat_nn (hnew (hnew H (AObj.row 37 2 [AV.int IntKind.i64 (↑a : Int), AV.int IntKind.i64 (↑b : Int)])) (AObj.row 37 2 [AV.int IntKind.i64 (↑c : Int), AV.int IntKind.i64 (↑d : Int)])) (AObj.row 37 2 [AV.int IntKind.i64 (↑((a * d + c * b) / Nat.gcd (a * d + c * b) (b * d)) : Int), AV.int IntKind.i64 (↑(b * d / Nat.gcd (a * d + c * b) (b * d)) : Int)])) (by kernel_rfl) (by kernel_rfl)) <| .r (AV.tuple [AV.agg [AV.int IntKind.i64 (↑((a * d + c * b) / Nat.gcd (a * d + c * b) (b * d)) : Int), AV.int IntKind.i64 (↑(b * d / Nat.gcd (a * d + c * b) (b * d)) : Int)], AV.int IntKind.i64 0])) (by kernel_rfl) ?_)))))))))))
  exact ⟨rfl, ((Keep.new _ _).trans (Keep.new _ _)).trans (Keep.new _ _)⟩
theorem sub64 (a b : Nat) (h : b ≤ a) (ha : a < 18446744073709551616) : aext (kn G base w0).c.P 56 [.int .u64 a, .int .u64 b, .int .u64 0] = some (.tuple [.int .u64 ((a - b : Nat) : Int), .int .u64 0]) := by
  have h : aext (kn G base w0).c.P 56 [.int .u64 a, .int .u64 b, .int .u64 0] = if 0 ≤ (a : Int) ∧ 0 ≤ (b : Int) ∧ 0 ≤ (0 : Int) ∧ (0 : Int) ≤ 1 then some (.tuple [.int .u64 ((((a : Int).toNat + 18446744073709551616 - (b : Int).toNat - (0 : Int).toNat) % 18446744073709551616 : Nat) : Int), .int .u64 ((if (a : Int).toNat < (b : Int).toNat + (0 : Int).toNat then 1 else 0 : Nat) : Int)]) else none := by kernel_rfl
  rw [h, if_pos (by omega), if_neg (by omega)]
  congr 3
  congr 1
  omega
theorem plusM_p (a b : Nat) (ha : a < 4611686018427387904) (hb : b ≤ a) : Pt (kn G base w0) 36 [wd a false, wd b true] H (wd (a - b) false) H := by
  refine Pt.pure ?_ rfl
  refine Pt.fn (n := 67) (rs := [.cell 4 71]) Try.func36 (b := _) rfl rfl rfl (by decide) ?_
  simp only [numbered]
  have x1 := sub64 (G := G) (base := base) (w0 := w0) a b hb (by omega)
  have x2 : aext (kn G base w0).c.P 56 [.int .u64 0, .int .u64 0, .int .u64 0] = some (.tuple [.int .u64 0, .int .u64 0]) := by kernel_rfl
  have p1 := fun H => less_p (G := G) (base := base) (w0 := w0) (H := H) a b false true
  rw [decide_eq_false (show ¬ a < b by omega)] at p1
  refine D.sq (D.ks (.a <| .a <| .e [(4, AV.ptr (Loc.own (List.length (hnew (hnew H (AObj.row 71 3 [AV.int IntKind.u64 0, AV.int IntKind.u64 (↑a : Int), AV.bool false])) (AObj.row 71 3 [AV.int IntKind.u64 0, AV.int IntKind.u64 (↑b : Int), AV.bool true])))) 0), (3, AV.ptr (Loc.own (List.length (hnew H (AObj.row 71 3 [AV.int IntKind.u64 0, AV.int IntKind.u64 (↑a : Int), AV.bool false])))) 0), (2, AV.ptr (Loc.own (List.length H)) 0)] (hnew (hnew (hnew H (AObj.row 71 3 [AV.int IntKind.u64 0, AV.int IntKind.u64 (↑a : Int), AV.bool false])) (AObj.row 71 3 [AV.int IntKind.u64 0, AV.int IntKind.u64 (↑b : Int), AV.bool true])) (AObj.row 71 3 [AV.int IntKind.u64 0, AV.int IntKind.u64 0, AV.bool false]))) (by kernel_rfl) (D.sq (D.sq (D.ks (.a <| .q (hat_up (hat_up (@hat_nn H (AObj.row 71 3 [AV.int IntKind.u64 0, AV.int IntKind.u64 (↑a : Int), AV.bool false])) (AObj.row 71 3 [AV.int IntKind.u64 0, AV.int IntKind.u64 (↑b : Int), AV.bool true])) (AObj.row 71 3 [AV.int IntKind.u64 0, AV.int IntKind.u64 0, AV.bool false])) <| .a <| .q (hat_up (@hat_nn (hnew H (AObj.row 71 3 [AV.int IntKind.u64 0, AV.int IntKind.u64 (↑a : Int), AV.bool false])) (AObj.row 71 3 [AV.int IntKind.u64 0, AV.int IntKind.u64 (↑b : Int), AV.bool true])) (AObj.row 71 3 [AV.int IntKind.u64 0, AV.int IntKind.u64 0, AV.bool false])) <| .a <| .e [(17, AV.bool false)] (hnew (hnew (hnew H (AObj.row 71 3 [AV.int IntKind.u64 0, AV.int IntKind.u64 (↑a : Int), AV.bool false])) (AObj.row 71 3 [AV.int IntKind.u64 0, AV.int IntKind.u64 (↑b : Int), AV.bool true])) (AObj.row 71 3 [AV.int IntKind.u64 0, AV.int IntKind.u64 0, AV.bool false]))) (by kernel_rfl) (D.cf (by kernel_rfl) (D.skip (Ks_n' (D.sq (D.sq (D.ks (.q (hat_up (hat_up (@hat_nn H (AObj.row 71 3 [AV.int IntKind.u64 0, AV.int IntKind.u64 (↑a : Int), AV.bool false])) (AObj.row 71 3 [AV.int IntKind.u64 0, AV.int IntKind.u64 (↑b : Int), AV.bool true])) (AObj.row 71 3 [AV.int IntKind.u64 0, AV.int IntKind.u64 0, AV.bool false])) <| .q (hat_up (@hat_nn (hnew H (AObj.row 71 3 [AV.int IntKind.u64 0, AV.int IntKind.u64 (↑a : Int), AV.bool false])) (AObj.row 71 3 [AV.int IntKind.u64 0, AV.int IntKind.u64 (↑b : Int), AV.bool true])) (AObj.row 71 3 [AV.int IntKind.u64 0, AV.int IntKind.u64 0, AV.bool false])) <| .c (@p1 (hnew (hnew (hnew H (AObj.row 71 3 [AV.int IntKind.u64 0, AV.int IntKind.u64 (↑a : Int), AV.bool false])) (AObj.row 71 3 [AV.int IntKind.u64 0, AV.int IntKind.u64 (↑b : Int), AV.bool true])) (AObj.row 71 3 [AV.int IntKind.u64 0, AV.int IntKind.u64 0, AV.bool false]))) <| .e [(42, AV.bool false)] (hnew (hnew (hnew H (AObj.row 71 3 [AV.int IntKind.u64 0, AV.int IntKind.u64 (↑a : Int), AV.bool false])) (AObj.row 71 3 [AV.int IntKind.u64 0, AV.int IntKind.u64 (↑b : Int), AV.bool true])) (AObj.row 71 3 [AV.int IntKind.u64 0, AV.int IntKind.u64 0, AV.bool false]))) (by kernel_rfl) (D.cf (by kernel_rfl) (D.skip (Ks_n' (D.sq (D.ks (.a <| .q (hat_up (hat_up (@hat_nn H (AObj.row 71 3 [AV.int IntKind.u64 0, AV.int IntKind.u64 (↑a : Int), AV.bool false])) (AObj.row 71 3 [AV.int IntKind.u64 0, AV.int IntKind.u64 (↑b : Int), AV.bool true])) (AObj.row 71 3 [AV.int IntKind.u64 0, AV.int IntKind.u64 0, AV.bool false])) <| .a <| .q (hat_up (@hat_nn (hnew H (AObj.row 71 3 [AV.int IntKind.u64 0, AV.int IntKind.u64 (↑a : Int), AV.bool false])) (AObj.row 71 3 [AV.int IntKind.u64 0, AV.int IntKind.u64 (↑b : Int), AV.bool true])) (AObj.row 71 3 [AV.int IntKind.u64 0, AV.int IntKind.u64 0, AV.bool false])) <| .v x1 <| .e [(10, AV.int IntKind.u64 0), (9, AV.int IntKind.u64 (↑(a - b) : Int))] (hnew (hnew (hnew H (AObj.row 71 3 [AV.int IntKind.u64 0, AV.int IntKind.u64 (↑a : Int), AV.bool false])) (AObj.row 71 3 [AV.int IntKind.u64 0, AV.int IntKind.u64 (↑b : Int), AV.bool true])) (AObj.row 71 3 [AV.int IntKind.u64 0, AV.int IntKind.u64 0, AV.bool false]))) (by kernel_rfl) (D.sq (D.ks (.a <| .q (hat_up (hat_up (@hat_nn H (AObj.row 71 3 [AV.int IntKind.u64 0, AV.int IntKind.u64 (↑a : Int), AV.bool false])) (AObj.row 71 3 [AV.int IntKind.u64 0, AV.int IntKind.u64 (↑b : Int), AV.bool true])) (AObj.row 71 3 [AV.int IntKind.u64 0, AV.int IntKind.u64 0, AV.bool false])) <| .a <| .q (hat_up (@hat_nn (hnew H (AObj.row 71 3 [AV.int IntKind.u64 0, AV.int IntKind.u64 (↑a : Int), AV.bool false])) (AObj.row 71 3 [AV.int IntKind.u64 0, AV.int IntKind.u64 (↑b : Int), AV.bool true])) (AObj.row 71 3 [AV.int IntKind.u64 0, AV.int IntKind.u64 0, AV.bool false])) <| .v x2 <| .e [(11, AV.int IntKind.u64 0)] (hnew (hnew (hnew H (AObj.row 71 3 [AV.int IntKind.u64 0, AV.int IntKind.u64 (↑a : Int), AV.bool false])) (AObj.row 71 3 [AV.int IntKind.u64 0, AV.int IntKind.u64 (↑b : Int), AV.bool true])) (AObj.row 71 3 [AV.int IntKind.u64 0, AV.int IntKind.u64 0, AV.bool false]))) (by kernel_rfl) (D.sq (D.ks (.a <| .q (hat_up (hat_up (@hat_nn H (AObj.row 71 3 [AV.int IntKind.u64 0, AV.int IntKind.u64 (↑a : Int), AV.bool false])) (AObj.row 71 3 [AV.int IntKind.u64 0, AV.int IntKind.u64 (↑b : Int), AV.bool true])) (AObj.row 71 3 [AV.int IntKind.u64 0, AV.int IntKind.u64 0, AV.bool false])) <| .h (st_top (H := hnew (hnew H (AObj.row 71 3 [AV.int IntKind.u64 0, AV.int IntKind.u64 (↑a : Int), AV.bool false])) (AObj.row 71 3 [AV.int IntKind.u64 0, AV.int IntKind.u64 (↑b : Int), AV.bool true])) (t := 71) (e := 3) (cs := [AV.int IntKind.u64 0, AV.int IntKind.u64 0, AV.bool false]) (off := 0) (vs := [AV.int IntKind.u64 0, AV.int IntKind.u64 (↑(a - b) : Int), AV.bool false]) (cs' := [AV.int IntKind.u64 0, AV.int IntKind.u64 (↑(a - b) : Int), AV.bool false]) rfl rfl rfl) <| .e [] (hnew (hnew (hnew H (AObj.row 71 3 [AV.int IntKind.u64 0, AV.int IntKind.u64 (↑a : Int), AV.bool false])) (AObj.row 71 3 [AV.int IntKind.u64 0, AV.int IntKind.u64 (↑b : Int), AV.bool true])) (AObj.row 71 3 [AV.int IntKind.u64 0, AV.int IntKind.u64 (↑(a - b) : Int), AV.bool false]))) (by kernel_rfl) (D.ret (Kf_by (AV.agg [AV.int IntKind.u64 0, AV.int IntKind.u64 (↑(a - b) : Int), AV.bool false]) (.v (ld_ownA (c := (Kn.c (kn G base w0))) (t := 71) (@hat_nn (hnew (hnew H (AObj.row 71 3 [AV.int IntKind.u64 0, AV.int IntKind.u64 (↑a : Int), AV.bool false])) (AObj.row 71 3 [AV.int IntKind.u64 0, AV.int IntKind.u64 (↑b : Int), AV.bool true])) (AObj.row 71 3 [AV.int IntKind.u64 0, AV.int IntKind.u64 (↑(a - b) : Int), AV.bool false])) (by kernel_rfl) (by kernel_rfl)) <| .r (AV.agg [AV.int IntKind.u64 0, AV.int IntKind.u64 (↑(a - b) : Int), AV.bool false])) (by kernel_rfl) ?_)))))))))))))))))))))
  exact ⟨rfl, ((Keep.new _ _).trans (Keep.new _ _)).trans (Keep.new _ _)⟩
theorem c36m (a b : Nat) (ha : a < 4611686018427387904) (hb : b ≤ a) (H : AHeap) : callT (kn G base w0) (pureT RT) 36 [wd a false, wd b true] H = some (wd (a - b) false, H) :=
  pureT_call (plusM_p a b ha hb) ⟨a, b, true, rfl, rfl⟩ (by
    rintro v' ⟨a', b', y', h, rfl⟩
    simp at h
    obtain ⟨h1, h2, rfl⟩ := h
    obtain rfl : a = a' := by omega
    obtain rfl : b = b' := by omega
    rfl)
theorem sub_p (a b c d : Nat) (ha : a < 2147483648) (hb : b < 1073741824) (hc : c < 2147483648) (hd : d < 1073741824) (hb0 : 0 < b) (hd0 : 0 < d) (g1 : Nat.gcd a b = 1) (g2 : Nat.gcd c d = 1) (hle : c * b ≤ a * d) :
    Pt (kn G base w0) 30 [rt a b, rt c d] H (low (a * d - c * b) (b * d)) H := by
  refine Pt.pure ?_ rfl
  refine Pt.fn (n := 40) (rs := [.cell 4 37, .tmp 5]) Try.func30 (b := _) rfl rfl rfl (by decide) ?_
  simp only [numbered]
  have p1 := fun H => may_p (G := G) (base := base) (w0 := w0) (H := H) a b (by omega) (by omega) hb0 g1
  have p2 := fun H => may_p (G := G) (base := base) (w0 := w0) (H := H) c d (by omega) (by omega) hd0 g2
  have p3 := fun H => times_p (G := G) (base := base) (w0 := w0) (H := H) c b (by omega) (by omega)
  have q1 := fun H => c35 (G := G) (base := base) (w0 := w0) a d (by omega) (by omega) H
  have q3 := fun H => c35 (G := G) (base := base) (w0 := w0) b d (by omega) (by omega) H
  have h1 : a * d < 2305843009213693952 := by have := Nat.mul_lt_mul'' ha hd; omega
  have h3 : b * d < 2305843009213693952 := by have := Nat.mul_lt_mul'' hb hd; omega
  have q4 := fun H => c36m (G := G) (base := base) (w0 := w0) (a * d) (c * b) (by omega) hle H
  have q5 := fun H => c34 (G := G) (base := base) (w0 := w0) (a * d - c * b) (b * d) (by omega) (by omega) (Nat.mul_pos hb0 hd0) H
  refine D.sq (D.ks (.a <| .a <| .e [(5, AV.int IntKind.i64 0), (4, AV.ptr (Loc.own (List.length (hnew (hnew H (AObj.row 37 2 [AV.int IntKind.i64 (↑a : Int), AV.int IntKind.i64 (↑b : Int)])) (AObj.row 37 2 [AV.int IntKind.i64 (↑c : Int), AV.int IntKind.i64 (↑d : Int)])))) 0), (3, AV.ptr (Loc.own (List.length (hnew H (AObj.row 37 2 [AV.int IntKind.i64 (↑a : Int), AV.int IntKind.i64 (↑b : Int)])))) 0), (2, AV.ptr (Loc.own (List.length H)) 0)] (hnew (hnew (hnew H (AObj.row 37 2 [AV.int IntKind.i64 (↑a : Int), AV.int IntKind.i64 (↑b : Int)])) (AObj.row 37 2 [AV.int IntKind.i64 (↑c : Int), AV.int IntKind.i64 (↑d : Int)])) (AObj.row 37 2 [AV.int IntKind.i64 0, AV.int IntKind.i64 0]))) (by kernel_rfl) (D.sq (D.sq (D.ks (.q (hat_up (hat_up (@hat_nn H (AObj.row 37 2 [AV.int IntKind.i64 (↑a : Int), AV.int IntKind.i64 (↑b : Int)])) (AObj.row 37 2 [AV.int IntKind.i64 (↑c : Int), AV.int IntKind.i64 (↑d : Int)])) (AObj.row 37 2 [AV.int IntKind.i64 0, AV.int IntKind.i64 0])) <| .c (@p1 (hnew (hnew (hnew H (AObj.row 37 2 [AV.int IntKind.i64 (↑a : Int), AV.int IntKind.i64 (↑b : Int)])) (AObj.row 37 2 [AV.int IntKind.i64 (↑c : Int), AV.int IntKind.i64 (↑d : Int)])) (AObj.row 37 2 [AV.int IntKind.i64 0, AV.int IntKind.i64 0]))) <| .a <| .q (hat_up (@hat_nn (hnew H (AObj.row 37 2 [AV.int IntKind.i64 (↑a : Int), AV.int IntKind.i64 (↑b : Int)])) (AObj.row 37 2 [AV.int IntKind.i64 (↑c : Int), AV.int IntKind.i64 (↑d : Int)])) (AObj.row 37 2 [AV.int IntKind.i64 0, AV.int IntKind.i64 0])) <| .c (@p2 (hnew (hnew (hnew H (AObj.row 37 2 [AV.int IntKind.i64 (↑a : Int), AV.int IntKind.i64 (↑b : Int)])) (AObj.row 37 2 [AV.int IntKind.i64 (↑c : Int), AV.int IntKind.i64 (↑d : Int)])) (AObj.row 37 2 [AV.int IntKind.i64 0, AV.int IntKind.i64 0]))) <| .a <| .e [(14, AV.bool false)] (hnew (hnew (hnew H (AObj.row 37 2 [AV.int IntKind.i64 (↑a : Int), AV.int IntKind.i64 (↑b : Int)])) (AObj.row 37 2 [AV.int IntKind.i64 (↑c : Int), AV.int IntKind.i64 (↑d : Int)])) (AObj.row 37 2 [AV.int IntKind.i64 0, AV.int IntKind.i64 0]))) (by kernel_rfl) (D.cf (by kernel_rfl) (D.skip (Ks_n' (D.sq (D.ks (.a <| .q (hat_up (@hat_nn (hnew H (AObj.row 37 2 [AV.int IntKind.i64 (↑a : Int), AV.int IntKind.i64 (↑b : Int)])) (AObj.row 37 2 [AV.int IntKind.i64 (↑c : Int), AV.int IntKind.i64 (↑d : Int)])) (AObj.row 37 2 [AV.int IntKind.i64 0, AV.int IntKind.i64 0])) <| .a <| .q (hat_up (hat_up (@hat_nn H (AObj.row 37 2 [AV.int IntKind.i64 (↑a : Int), AV.int IntKind.i64 (↑b : Int)])) (AObj.row 37 2 [AV.int IntKind.i64 (↑c : Int), AV.int IntKind.i64 (↑d : Int)])) (AObj.row 37 2 [AV.int IntKind.i64 0, AV.int IntKind.i64 0])) <| .c (@p3 (hnew (hnew (hnew H (AObj.row 37 2 [AV.int IntKind.i64 (↑a : Int), AV.int IntKind.i64 (↑b : Int)])) (AObj.row 37 2 [AV.int IntKind.i64 (↑c : Int), AV.int IntKind.i64 (↑d : Int)])) (AObj.row 37 2 [AV.int IntKind.i64 0, AV.int IntKind.i64 0]))) <| .h (st_top (H := hnew (hnew (hnew H (AObj.row 37 2 [AV.int IntKind.i64 (↑a : Int), AV.int IntKind.i64 (↑b : Int)])) (AObj.row 37 2 [AV.int IntKind.i64 (↑c : Int), AV.int IntKind.i64 (↑d : Int)])) (AObj.row 37 2 [AV.int IntKind.i64 0, AV.int IntKind.i64 0])) (t := 71) (e := 3) (cs := [AV.int IntKind.u64 0, AV.int IntKind.u64 0, AV.bool false]) (off := 0) (vs := [AV.int IntKind.u64 0, AV.int IntKind.u64 (↑(c * b) : Int), AV.bool false]) (cs' := [AV.int IntKind.u64 0, AV.int IntKind.u64 (↑(c * b) : Int), AV.bool false]) rfl rfl rfl) <| .e [(6, AV.ptr (Loc.own (List.length (hnew (hnew (hnew H (AObj.row 37 2 [AV.int IntKind.i64 (↑a : Int), AV.int IntKind.i64 (↑b : Int)])) (AObj.row 37 2 [AV.int IntKind.i64 (↑c : Int), AV.int IntKind.i64 (↑d : Int)])) (AObj.row 37 2 [AV.int IntKind.i64 0, AV.int IntKind.i64 0])))) 0)] (hnew (hnew (hnew (hnew H (AObj.row 37 2 [AV.int IntKind.i64 (↑a : Int), AV.int IntKind.i64 (↑b : Int)])) (AObj.row 37 2 [AV.int IntKind.i64 (↑c : Int), AV.int IntKind.i64 (↑d : Int)])) (AObj.row 37 2 [AV.int IntKind.i64 0, AV.int IntKind.i64 0])) (AObj.row 71 3 [AV.int IntKind.u64 0, AV.int IntKind.u64 (↑(c * b) : Int), AV.bool false]))) (by kernel_rfl) (D.sq (D.ks (.a <| .q (@hat_nn (hnew (hnew (hnew H (AObj.row 37 2 [AV.int IntKind.i64 (↑a : Int), AV.int IntKind.i64 (↑b : Int)])) (AObj.row 37 2 [AV.int IntKind.i64 (↑c : Int), AV.int IntKind.i64 (↑d : Int)])) (AObj.row 37 2 [AV.int IntKind.i64 0, AV.int IntKind.i64 0])) (AObj.row 71 3 [AV.int IntKind.u64 0, AV.int IntKind.u64 (↑(c * b) : Int), AV.bool false])) <| .a <| .a <| .h (st_top (H := hnew (hnew (hnew H (AObj.row 37 2 [AV.int IntKind.i64 (↑a : Int), AV.int IntKind.i64 (↑b : Int)])) (AObj.row 37 2 [AV.int IntKind.i64 (↑c : Int), AV.int IntKind.i64 (↑d : Int)])) (AObj.row 37 2 [AV.int IntKind.i64 0, AV.int IntKind.i64 0])) (t := 71) (e := 3) (cs := [AV.int IntKind.u64 0, AV.int IntKind.u64 (↑(c * b) : Int), AV.bool false]) (off := 2) (vs := [AV.bool true]) (cs' := [AV.int IntKind.u64 0, AV.int IntKind.u64 (↑(c * b) : Int), AV.bool true]) rfl rfl rfl) <| .e [] (hnew (hnew (hnew (hnew H (AObj.row 37 2 [AV.int IntKind.i64 (↑a : Int), AV.int IntKind.i64 (↑b : Int)])) (AObj.row 37 2 [AV.int IntKind.i64 (↑c : Int), AV.int IntKind.i64 (↑d : Int)])) (AObj.row 37 2 [AV.int IntKind.i64 0, AV.int IntKind.i64 0])) (AObj.row 71 3 [AV.int IntKind.u64 0, AV.int IntKind.u64 (↑(c * b) : Int), AV.bool true]))) (by kernel_rfl) (D.sq (D.kws (pureT RT) [4, 6, 11, 12] (.a <| .q (hat_up (hat_up (hat_up (@hat_nn H (AObj.row 37 2 [AV.int IntKind.i64 (↑a : Int), AV.int IntKind.i64 (↑b : Int)])) (AObj.row 37 2 [AV.int IntKind.i64 (↑c : Int), AV.int IntKind.i64 (↑d : Int)])) (AObj.row 37 2 [AV.int IntKind.i64 0, AV.int IntKind.i64 0])) (AObj.row 71 3 [AV.int IntKind.u64 0, AV.int IntKind.u64 (↑(c * b) : Int), AV.bool true])) <| .a <| .q (hat_up (hat_up (@hat_nn (hnew H (AObj.row 37 2 [AV.int IntKind.i64 (↑a : Int), AV.int IntKind.i64 (↑b : Int)])) (AObj.row 37 2 [AV.int IntKind.i64 (↑c : Int), AV.int IntKind.i64 (↑d : Int)])) (AObj.row 37 2 [AV.int IntKind.i64 0, AV.int IntKind.i64 0])) (AObj.row 71 3 [AV.int IntKind.u64 0, AV.int IntKind.u64 (↑(c * b) : Int), AV.bool true])) <| .vh (@q1 (hnew (hnew (hnew (hnew H (AObj.row 37 2 [AV.int IntKind.i64 (↑a : Int), AV.int IntKind.i64 (↑b : Int)])) (AObj.row 37 2 [AV.int IntKind.i64 (↑c : Int), AV.int IntKind.i64 (↑d : Int)])) (AObj.row 37 2 [AV.int IntKind.i64 0, AV.int IntKind.i64 0])) (AObj.row 71 3 [AV.int IntKind.u64 0, AV.int IntKind.u64 (↑(c * b) : Int), AV.bool true]))) <| .q (@hat_nn (hnew (hnew (hnew H (AObj.row 37 2 [AV.int IntKind.i64 (↑a : Int), AV.int IntKind.i64 (↑b : Int)])) (AObj.row 37 2 [AV.int IntKind.i64 (↑c : Int), AV.int IntKind.i64 (↑d : Int)])) (AObj.row 37 2 [AV.int IntKind.i64 0, AV.int IntKind.i64 0])) (AObj.row 71 3 [AV.int IntKind.u64 0, AV.int IntKind.u64 (↑(c * b) : Int), AV.bool true])) <| .vh (@q4 (hnew (hnew (hnew (hnew H (AObj.row 37 2 [AV.int IntKind.i64 (↑a : Int), AV.int IntKind.i64 (↑b : Int)])) (AObj.row 37 2 [AV.int IntKind.i64 (↑c : Int), AV.int IntKind.i64 (↑d : Int)])) (AObj.row 37 2 [AV.int IntKind.i64 0, AV.int IntKind.i64 0])) (AObj.row 71 3 [AV.int IntKind.u64 0, AV.int IntKind.u64 (↑(c * b) : Int), AV.bool true]))) <| .a <| .q (hat_up (hat_up (hat_up (@hat_nn H (AObj.row 37 2 [AV.int IntKind.i64 (↑a : Int), AV.int IntKind.i64 (↑b : Int)])) (AObj.row 37 2 [AV.int IntKind.i64 (↑c : Int), AV.int IntKind.i64 (↑d : Int)])) (AObj.row 37 2 [AV.int IntKind.i64 0, AV.int IntKind.i64 0])) (AObj.row 71 3 [AV.int IntKind.u64 0, AV.int IntKind.u64 (↑(c * b) : Int), AV.bool true])) <| .a <| .q (hat_up (hat_up (@hat_nn (hnew H (AObj.row 37 2 [AV.int IntKind.i64 (↑a : Int), AV.int IntKind.i64 (↑b : Int)])) (AObj.row 37 2 [AV.int IntKind.i64 (↑c : Int), AV.int IntKind.i64 (↑d : Int)])) (AObj.row 37 2 [AV.int IntKind.i64 0, AV.int IntKind.i64 0])) (AObj.row 71 3 [AV.int IntKind.u64 0, AV.int IntKind.u64 (↑(c * b) : Int), AV.bool true])) <| .vh (@q3 (hnew (hnew (hnew (hnew H (AObj.row 37 2 [AV.int IntKind.i64 (↑a : Int), AV.int IntKind.i64 (↑b : Int)])) (AObj.row 37 2 [AV.int IntKind.i64 (↑c : Int), AV.int IntKind.i64 (↑d : Int)])) (AObj.row 37 2 [AV.int IntKind.i64 0, AV.int IntKind.i64 0])) (AObj.row 71 3 [AV.int IntKind.u64 0, AV.int IntKind.u64 (↑(c * b) : Int), AV.bool true]))) <| .vh (@q5 (hnew (hnew (hnew (hnew H (AObj.row 37 2 [AV.int IntKind.i64 (↑a : Int), AV.int IntKind.i64 (↑b : Int)])) (AObj.row 37 2 [AV.int IntKind.i64 (↑c : Int), AV.int IntKind.i64 (↑d : Int)])) (AObj.row 37 2 [AV.int IntKind.i64 0, AV.int IntKind.i64 0])) (AObj.row 71 3 [AV.int IntKind.u64 0, AV.int IntKind.u64 (↑(c * b) : Int), AV.bool true]))) <| .h (st_up (st_top (H := hnew (hnew H (AObj.row 37 2 [AV.int IntKind.i64 (↑a : Int), AV.int IntKind.i64 (↑b : Int)])) (AObj.row 37 2 [AV.int IntKind.i64 (↑c : Int), AV.int IntKind.i64 (↑d : Int)])) (t := 37) (e := 2) (cs := [AV.int IntKind.i64 0, AV.int IntKind.i64 0]) (off := 0) (vs := [AV.int IntKind.i64 (↑((a * d - c * b) / Nat.gcd (a * d - c * b) (b * d)) : Int), AV.int IntKind.i64 (↑(b * d / Nat.gcd (a * d - c * b) (b * d)) : Int)]) (cs' := [AV.int IntKind.i64 (↑((a * d - c * b) / Nat.gcd (a * d - c * b) (b * d)) : Int), AV.int IntKind.i64 (↑(b * d / Nat.gcd (a * d - c * b) (b * d)) : Int)]) rfl rfl rfl) (AObj.row 71 3 [AV.int IntKind.u64 0, AV.int IntKind.u64 (↑(c * b) : Int), AV.bool true])) <| .e [(5, AV.int IntKind.i64 0)] (hnew (hnew (hnew (hnew H (AObj.row 37 2 [AV.int IntKind.i64 (↑a : Int), AV.int IntKind.i64 (↑b : Int)])) (AObj.row 37 2 [AV.int IntKind.i64 (↑c : Int), AV.int IntKind.i64 (↑d : Int)])) (AObj.row 37 2 [AV.int IntKind.i64 (↑((a * d - c * b) / Nat.gcd (a * d - c * b) (b * d)) : Int), AV.int IntKind.i64 (↑(b * d / Nat.gcd (a * d - c * b) (b * d)) : Int)])) (AObj.row 71 3 [AV.int IntKind.u64 0, AV.int IntKind.u64 (↑(c * b) : Int), AV.bool true]))) (by kernel_rfl) (D.ret (Kf_by (AV.tuple [AV.agg [AV.int IntKind.i64 (↑((a * d - c * b) / Nat.gcd (a * d - c * b) (b * d)) : Int), AV.int IntKind.i64 (↑(b * d / Nat.gcd (a * d - c * b) (b * d)) : Int)], AV.int IntKind.i64 0]) (.v (ld_ownA (c := (Kn.c (kn G base w0))) (t := 37) (hat_up (@hat_nn (hnew (hnew H (AObj.row 37 2 [AV.int IntKind.i64 (↑a : Int), AV.int IntKind.i64 (↑b : Int)])) (AObj.row 37 2 [AV.int IntKind.i64 (↑c : Int), AV.int IntKind.i64 (↑d : Int)])) (AObj.row 37 2 [AV.int IntKind.i64 (↑((a * d - c * b) / Nat.gcd (a * d - c * b) (b * d)) : Int), AV.int IntKind.i64 (↑(b * d / Nat.gcd (a * d - c * b) (b * d)) : Int)])) (AObj.row 71 3 [AV.int IntKind.u64 0, AV.int IntKind.u64 (↑(c * b) : Int), AV.bool true])) (by kernel_rfl) (by kernel_rfl)) <| .r (AV.tuple [AV.agg [AV.int IntKind.i64 (↑((a * d - c * b) / Nat.gcd (a * d - c * b) (b * d)) : Int), AV.int IntKind.i64 (↑(b * d / Nat.gcd (a * d - c * b) (b * d)) : Int)], AV.int IntKind.i64 0])) (by kernel_rfl) ?_)))))))))))))))
  exact ⟨rfl, (((Keep.new _ _).trans (Keep.new _ _)).trans (Keep.new _ _)).trans (Keep.new _ _)⟩
end Go.Proofs.Ytcbholgcbjddjaa.sy

/-
  A REGION THAT DRAWS ITS ORDER with one call that only adds, and new things behind it in the text (own work).
-/
namespace Go.AM
open Go.RowKit
set_option linter.unusedSimpArgs false
set_option linter.unusedVariables false

variable {c : Ctx} {base : Nat} {w0 w : World} {ρ : Pl} {H : AHeap}

def oneCallOk (ops : List Oper) (q : Nat) : Bool := edgesOk ops && (apartOk ops && (Nat.blt q ops.length && (List.range ops.length).all fun j => if Nat.beq j q then true else plainOper (opsOf ops j) && (!Nat.blt j q || isP (opsOf ops j).op)))

variable {κ : Kn} {T : FuncId → Spec} {env : AEnv} {K : AExit → AEnv → AHeap → Prop}
theorem D.oneCall {id : Nat} {ops : Array Oper} {env' : AEnv} {H' H1 : AHeap} (q : Nat) (hs : oneCallOk ops.toList q = true) (h : asteps κ.c (callT κ T) ops.toList ops.toList env H = some (env', H'))
    (hq : ∃ e, asteps κ.c (callT κ T) ops.toList (ops.toList.take (q + 1)) env H = some (e, H1)) (hk : Keep H H1 (fun _ => False)) (k : K .normal env' H') : D κ (.region id ops true) env H K := by
  refine ⟨.normal, env', H', k, fun ρ w a hr hf he => ?_⟩
  obtain ⟨t, ht⟩ := trace_of_steps h
  have h2 := endOf_steps ht
  rw [h, Option.some.injEq] at h2
  refine free_sound κ.mixed _ (callT_ok T) id ops env env' H H' t ht ?_ h2.symm ρ w a hr hf he
  have low := trace_low (callT_ok T) ht hr hf he
  have hst := trace_at ht
  generalize ops.toList = ops at *
  simp only [oneCallOk, Bool.and_eq_true, List.all_eq_true, List.mem_range] at hs
  obtain ⟨h1, h2', h3, h4⟩ := hs
  rw [Nat.blt_eq] at h3
  have h4' : ∀ j, j < ops.length → j ≠ q → plainOper (opsOf ops j) = true ∧ (j < q → isP (opsOf ops j).op = true) := by
    intro j hj hne
    have := h4 j hj
    rw [if_neg (fun e => hne (Nat.eq_of_beq_eq_true e))] at this
    simp only [Bool.and_eq_true, Bool.or_eq_true, Bool.not_eq_true'] at this
    refine ⟨this.1, fun hlt => ?_⟩
    rcases this.2 with g | g
    · have : Nat.blt j q = true := by rw [Nat.blt_eq]; exact hlt
      rw [this] at g; cases g
    · exact g
  have hat' : ∀ j, j < ops.length → ops[j]? = some (opsOf ops j) := fun j hj => opsOf_get hj
  have hHq : ∀ j, j ≤ q → heapsOf H t j = H := by
    intro j
    induction j with
    | zero => intro _; rfl
    | succ j ih =>
      intro hj
      obtain ⟨e1, _⟩ := isP_stepV ((h4' j (by omega) (by omega)).2 (by omega)) (hst j _ (hat' j (by omega)))
      exact Eq.trans e1 (ih (by omega))
  have hH1 : heapsOf H t (q + 1) = H1 := by
    obtain ⟨e, hpre⟩ := hq
    obtain ⟨e2, hpre2⟩ := take_trace ht (q + 1) (by omega)
    rw [hpre, Option.some.injEq, Prod.mk.injEq] at hpre2
    exact hpre2.2.symm
  have hpre1 : H1.take H.length = H := by
    refine hat_ext (by rw [List.length_take]; have := hk.1; omega) fun b => ?_
    rw [hat_take]
    by_cases hb : b < H.length
    · rw [if_pos hb, hk.2 b hb (fun e => e)]
    · rw [if_neg hb, hat_none (by omega)]
  simp only [freeOk, Bool.and_eq_true, List.all_eq_true, List.mem_range]
  refine ⟨h1, by simpa only [apartOk, List.all_eq_true, List.mem_range] using h2', fun j hj => ?_⟩
  obtain ⟨i2, i1, i0⟩ := low j (by omega)
  simp only [freeAt, Bool.and_eq_true]
  by_cases hjq : j = q
  · subst hjq
    have e0 := hHq j (Nat.le_refl _)
    have hm : mask (keepS (fun k => (heapsOf H t k).length) ops.length fun i => ((Region.before ops.toArray).getD j 0).testBit i) 0 (heapsOf H t j) = heapsOf H t j := by
      refine mask_all fun i hi => ?_
      rw [e0] at hi
      exact keepS_iff.2 (.inl hi)
    rw [hm]
    refine ⟨?_, i2, ?_⟩
    · rw [hH1, e0, hpre1]; exact heapEq_refl _
    · have hm2 : mask (keepS (fun k => (heapsOf H t k).length) ops.length fun i => ((Region.before ops.toArray).getD j 0).testBit i || Nat.beq i j) 0 (heapsOf H t (j + 1)) = heapsOf H t (j + 1) := by
        refine mask_all fun i hi => ?_
        rcases Nat.lt_or_ge i H.length with h' | h'
        · exact keepS_iff.2 (.inl h')
        · exact keepS_iff.2 (.inr ⟨j, hj, by simp, by rw [e0]; exact h', hi⟩)
      rw [hm2, stepV_congr (fun t' => i1.eq t')]
      rw [hst j _ (hat' j hj)]
      show sameStep (some ((t.getD j dft).1, heapsOf H t (j + 1))) _ _ = true
      cases (t.getD j dft).1 <;> simp [sameStep, AV.beq_refl, heapEq_refl]
  · obtain ⟨hp, _⟩ := h4' j hj hjq
    have hop : plainOp (opsOf ops j).op = true := by simp only [plainOper, Bool.and_eq_true] at hp; exact hp.1
    have hs' := hst j _ (hat' j hj)
    rw [stepV_plain hp, Option.bind_eq_some_iff] at hs'
    obtain ⟨⟨r, K0⟩, ha, hs'⟩ := hs'
    obtain ⟨v, rfl, hv⟩ := plain_step hop i1 ha
    simp only [Option.some.injEq] at hs'
    have e1 : (t.getD j dft).1 = some v := (congrArg Prod.fst hs').symm
    have e2 : heapsOf H t (j + 1) = K0 := (congrArg Prod.snd hs').symm
    have keep : ∀ (B : Nat → Bool) i, i < (heapsOf H t j).length → keepS (fun k => (heapsOf H t k).length) ops.length B i = keepS (fun k => (heapsOf H t k).length) ops.length (fun k => B k || Nat.beq k j) i := by
      intro B i hi
      rw [Bool.eq_iff_iff, keepS_iff, keepS_iff]
      constructor
      · rintro (h | ⟨k, a1, a2, a3⟩)
        · exact .inl h
        · exact .inr ⟨k, a1, by rw [a2]; rfl, a3⟩
      · rintro (h | ⟨k, a1, a2, a3⟩)
        · exact .inl h
        · refine .inr ⟨k, a1, ?_, a3⟩
          rw [Bool.or_eq_true] at a2
          rcases a2 with a2 | a2
          · exact a2
          · have := Nat.eq_of_beq_eq_true a2; subst this; omega
    refine ⟨?_, heapLow_iff.2 fun o ho => heapLow_iff.1 i2 o (mask_mem ho), ?_⟩
    · rw [e2]
      rcases hv with ⟨g, _, _⟩ | ⟨ob, g, _, _, _⟩
      · rw [g, List.take_of_length_le (Nat.le_refl _)]; exact heapEq_refl _
      · rw [g, List.take_left' rfl]; exact heapEq_refl _
    · rw [stepV_plain hp, plain_congr (fun t => i1.eq t) hop, e1]
      rcases hv with ⟨g, _, e3⟩ | ⟨ob, g, _, _, e3⟩
      · rw [e3, e2, g, mask_congr (keep _)]
        simp only [Option.bind_some, sameStep, AV.beq_refl, heapEq_refl, Bool.and_self]
      · rw [e3 _ mask_len]
        have : keepS (fun k => (heapsOf H t k).length) ops.length (fun k => ((Region.before ops.toArray).getD j 0).testBit k || Nat.beq k j) (0 + (heapsOf H t j).length) = true := by
          refine keepS_iff.2 (.inr ⟨j, hj, ?_, by omega, ?_⟩)
          · rw [Bool.or_eq_true]; exact .inr (Nat.beq_refl j)
          · rw [e2, g]; simp
        rw [e2, g, mask_app, mask_congr (keep _), this]
        simp only [Option.bind_some, sameStep, AV.beq_refl, heapEq_refl, Bool.and_self, if_true]
end Go.AM

/-
  ROWS OF STRUCTS AS LISTS (own work): each element W cells wide; loads, stores, slices and appends told by the list.
-/
namespace Go.AM
open Go.RowKit
set_option linter.unusedSimpArgs false
set_option linter.unusedVariables false
variable {c : Ctx} {H : AHeap} {α : Type}

/-- how an element stands in cells -/
structure Wd (α : Type) where
  W : Nat
  enc : α → List AV
  pos : 0 < W
  len : ∀ a, (enc a).length = W
  one : ∀ a, (enc a).all AV.one = true
variable {w : Wd α}
def Wd.fl (w : Wd α) (xs : List α) : List AV := xs.flatMap w.enc
theorem Wd.fl_nil : w.fl [] = [] := rfl
theorem Wd.fl_cons (x : α) (xs : List α) : w.fl (x :: xs) = w.enc x ++ w.fl xs := rfl
theorem Wd.fl_app (xs ys : List α) : w.fl (xs ++ ys) = w.fl xs ++ w.fl ys := by simp [Wd.fl]
theorem Wd.fl_len (xs : List α) : (w.fl xs).length = xs.length * w.W := by
  induction xs with
  | nil => simp [Wd.fl]
  | cons x xs ih => rw [fl_cons, List.length_append, w.len, ih, List.length_cons, Nat.succ_mul]; omega
theorem Wd.fl_one (xs : List α) : (w.fl xs).all AV.one = true := by
  simp only [Wd.fl, List.all_eq_true, List.mem_flatMap]
  rintro v ⟨a, _, hv⟩
  exact List.all_eq_true.1 (w.one a) v hv
theorem Wd.fl_take (xs : List α) (n : Nat) : (w.fl xs).take (n * w.W) = w.fl (xs.take n) := by
  induction xs generalizing n with
  | nil => simp [Wd.fl]
  | cons x xs ih =>
    cases n with
    | zero => simp [Wd.fl]
    | succ n =>
      rw [fl_cons, List.take_succ_cons, fl_cons, ← ih, List.take_append, w.len, Nat.succ_mul, List.take_of_length_le (by rw [w.len]; omega), Nat.add_sub_cancel]
theorem Wd.fl_drop (xs : List α) (n : Nat) : (w.fl xs).drop (n * w.W) = w.fl (xs.drop n) := by
  induction xs generalizing n with
  | nil => simp [Wd.fl]
  | cons x xs ih =>
    cases n with
    | zero => simp [Wd.fl]
    | succ n =>
      rw [fl_cons, List.drop_succ_cons, ← ih, List.drop_append, w.len, Nat.succ_mul, List.drop_of_length_le (by rw [w.len]; omega), Nat.add_sub_cancel, List.nil_append]
theorem Wd.fl_split {xs : List α} {i : Nat} (h : i < xs.length) : w.fl xs = w.fl (xs.take i) ++ (w.enc xs[i] ++ w.fl (xs.drop (i + 1))) := by
  rw [← fl_cons, ← fl_app, ← List.drop_eq_getElem_cons h, List.take_append_drop]
theorem Wd.fl_get {xs : List α} {i : Nat} (h : i < xs.length) {j : Nat} (hj : j < w.W) : (w.fl xs)[i * w.W + j]? = (w.enc xs[i])[j]? := by
  have hl : (w.fl (xs.take i)).length = i * w.W := by rw [fl_len, List.length_take, Nat.min_eq_left (by omega)]
  rw [fl_split h, List.getElem?_append_right (by omega), hl, Nat.add_sub_cancel_left, List.getElem?_append_left (by rw [w.len]; exact hj)]
theorem Wd.fl_seg {xs : List α} {i : Nat} (h : i < xs.length) : ((w.fl xs).drop (i * w.W)).take w.W = w.enc xs[i] := by
  rw [fl_drop, List.drop_eq_getElem_cons h, fl_cons, List.take_left' (w.len _)]
theorem set_app {l m : List AV} {i : Nat} {v : AV} (h : l.length ≤ i) : (l ++ m).set i v = l ++ m.set (i - l.length) v := by
  rw [List.set_append_right _ _ h]
theorem take_set' {xs : List α} {i : Nat} {x : α} : (xs.set i x).take i = xs.take i := by
  rw [List.take_set_of_le (Nat.le_refl _)]
theorem drop_set' {xs : List α} {i : Nat} {x : α} : (xs.set i x).drop (i + 1) = xs.drop (i + 1) := by
  rw [List.drop_set_of_lt (by omega)]
theorem Wd.fl_set {xs : List α} {i : Nat} (h : i < xs.length) {j : Nat} (hj : j < w.W) {v : AV} {x : α} (hx : w.enc x = (w.enc xs[i]).set j v) : (w.fl xs).set (i * w.W + j) v = w.fl (xs.set i x) := by
  have hl : (w.fl (xs.take i)).length = i * w.W := by rw [fl_len, List.length_take, Nat.min_eq_left (by omega)]
  have hs : i < (xs.set i x).length := by simpa using h
  rw [fl_split h, fl_split hs, take_set', drop_set', List.getElem_set_self, hx, List.set_append_right _ _ (by omega), hl, Nat.add_sub_cancel_left, List.set_append_left _ _ (by rw [w.len]; exact hj)]
theorem Wd.fl_put {xs : List α} {i : Nat} (h : i < xs.length) (x : α) : setSeg (w.fl xs) (i * w.W) (w.enc x) = w.fl (xs.set i x) := by
  have hs : i < (xs.set i x).length := by simpa using h
  rw [fl_split hs, take_set', drop_set', List.getElem_set_self, setSeg, fl_take, w.len, ← Nat.succ_mul, fl_drop]
theorem setSeg_one {cs : List AV} {i : Nat} (v : AV) (h : i < cs.length) : setSeg cs i [v] = cs.set i v := by
  rw [setSeg, List.set_eq_take_append_cons_drop, if_pos h]; rfl

/-! ### a row behind a block -/
def RowF (H : AHeap) (b : Nat) (e : TypeId) (w : Wd α) (xs : List α) : Prop := hat H b = some (.row e w.W (w.fl xs))
/-- the heap with the row as told -/
def hrow (H : AHeap) (b : Nat) (e : TypeId) (w : Wd α) (xs : List α) : AHeap := H.set b (some (.row e w.W (w.fl xs)))
theorem RowF.lt {b : Nat} {e : TypeId} {xs : List α} (h : RowF H b e w xs) : b < H.length := hat_lt h
theorem RowF.keep {b : Nat} {e : TypeId} {xs : List α} (h : RowF H b e w xs) {H' : AHeap} (k : hat H' b = hat H b) : RowF H' b e w xs := k.trans h
theorem hrow_self {b : Nat} {e : TypeId} {xs : List α} (h : RowF H b e w xs) : hrow H b e w xs = H := by
  refine hat_ext (by simp [hrow]) fun j => ?_
  rw [hrow, hat_setI]
  split
  · rename_i hj; rw [hj.1]; exact h.symm
  · rfl
theorem hrow_len {b : Nat} {e : TypeId} {xs : List α} : (hrow H b e w xs).length = H.length := by simp [hrow]
theorem hrow_at {b : Nat} {e : TypeId} {xs : List α} (hb : b < H.length) : RowF (hrow H b e w xs) b e w xs := by
  show hat (H.set b _) b = _
  rw [hat_eq _ hb]
theorem hrow_ne {b j : Nat} {e : TypeId} {xs : List α} (h : j ≠ b) : hat (hrow H b e w xs) j = hat H j := by rw [hrow, hat_ne _ h]
theorem hrow_set {b : Nat} {e : TypeId} {xs ys : List α} : hrow (hrow H b e w xs) b e w ys = hrow H b e w ys := by simp [hrow, List.set_set]
theorem hrow_keep {b : Nat} {e : TypeId} {xs : List α} : Keep H (hrow H b e w xs) (fun j => j = b) := ⟨by simp [hrow], fun j _ h => hrow_ne h⟩
/-- a field -/
theorem RowF.ld {b : Nat} {e : TypeId} {xs : List α} (h : RowF H b e w xs) {i j : Nat} (hi : i < xs.length) (hj : j < w.W) {t : TypeId} {v : AV} (hv : (w.enc xs[i])[j]? = some v) (ha : isAggT c.P t = some false) : aload c H t (.ptr (.own b) (i * w.W + j)) = some v := by
  simp only [aload, ha, Option.bind_some]
  rw [if_neg (by simp), rd_own h, w.fl_get hi hj, hv]; rfl
/-- a whole element -/
theorem RowF.ldA {b : Nat} {e : TypeId} {xs : List α} (h : RowF H b e w xs) {i : Nat} (hi : i < xs.length) {t : TypeId} (ha : isAggT c.P t = some true) (hs : szOf c.P t = some w.W) : aload c H t (.ptr (.own b) (i * w.W)) = some (.agg (w.enc xs[i])) := by
  simp only [aload, ha, hs, Option.bind_some, if_true, rd, rowOf]
  rw [show hat H b = _ from h]
  simp only [Option.bind_some]
  have hle : i * w.W + w.W ≤ (w.fl xs).length := by rw [w.fl_len, ← Nat.succ_mul]; exact Nat.mul_le_mul_right _ hi
  rw [if_pos hle, w.fl_seg hi]; rfl
/-- a field put -/
theorem RowF.st {b : Nat} {e : TypeId} {xs : List α} (h : RowF H b e w xs) {i j : Nat} (hi : i < xs.length) (hj : j < w.W) {v : AV} (h1 : v.one = true) {x : α} (hx : w.enc x = (w.enc xs[i]).set j v) : wr H (.own b) (i * w.W + j) [v] = some (hrow H b e w (xs.set i x)) := by
  have hle : i * w.W + j < (w.fl xs).length := by
    rw [w.fl_len]
    have := Nat.mul_le_mul_right w.W (show i + 1 ≤ xs.length by omega)
    rw [Nat.succ_mul] at this; omega
  simp only [wr]
  rw [show hat H b = _ from h]
  simp only []
  rw [if_pos ⟨by simp; omega, by simp [h1]⟩, setSeg_one _ hle, w.fl_set hi hj hx]; rfl
/-- a whole element put -/
theorem RowF.stA {b : Nat} {e : TypeId} {xs : List α} (h : RowF H b e w xs) {i : Nat} (hi : i < xs.length) (x : α) : wr H (.own b) (i * w.W) (w.enc x) = some (hrow H b e w (xs.set i x)) := by
  have hle : i * w.W + w.W ≤ (w.fl xs).length := by rw [w.fl_len, ← Nat.succ_mul]; exact Nat.mul_le_mul_right _ hi
  simp only [wr]
  rw [show hat H b = _ from h]
  simp only []
  rw [if_pos ⟨by rw [w.len]; exact hle, w.one x⟩, w.fl_put hi]; rfl

/-! ### slices of structs, as lists -/
def SlF (c : Ctx) (H : AHeap) (w : Wd α) (v : AV) (xs : List α) : Prop :=
  ((v = .nilslice ∨ ∃ a, v = .odd a) ∧ xs = []) ∨ ∃ l st, v = .slice l w.W st xs.length ∧ (xs ≠ [] → ∃ cs, rowOf c H l = some cs ∧ (cs.drop (st * w.W)).take (xs.length * w.W) = w.fl xs)
def ptrF (w : Wd α) (v : AV) (i : Nat) : AV := match v with | .slice l _ st _ => .ptr l ((st + i) * w.W) | _ => .nilptr
def ptrJ (w : Wd α) (v : AV) (i j : Nat) : AV := match v with | .slice l _ st _ => .ptr l ((st + i) * w.W + j) | _ => .nilptr
theorem SlF.nil : SlF c H w .nilslice [] := .inl ⟨.inl rfl, rfl⟩
theorem SlF.len {v : AV} {xs : List α} (h : SlF c H w v xs) {t e : TypeId} (ht : c.P.underlying t = some (.slice e)) : alen c H t v = some (.int .i64 xs.length) := by
  rcases h with ⟨rfl | ⟨a, rfl⟩, rfl⟩ | ⟨l, st, rfl, _⟩
  · simp [alen, ht]
  · simp [alen, ht]
  · simp [alen, ht]
theorem SlF.ia {v : AV} {xs : List α} (h : SlF c H w v xs) {t e : TypeId} (ht : c.P.underlying t = some (.slice e)) (hs : szOf c.P e = some w.W) {i : Nat} (hi : i < xs.length) (k : IntKind) : aindexAddr c t v (.int k (i : Int)) = some (ptrF w v i) := by
  rcases h with ⟨_, rfl⟩ | ⟨l, st, rfl, _⟩
  · simp at hi
  · simp only [aindexAddr, ht, Option.bind_some, hs, ptrF]
    rw [if_pos ⟨by simp, by omega, by omega⟩]
    simp
theorem SlF.fa {v : AV} {xs : List α} (h : SlF c H w v xs) {i : Nat} (hi : i < xs.length) {s : TypeId} {fs : Array Field} (hs : c.P.underlying s = some (.struct fs)) {f : Nat} {g : Field} (hg : fs[f]? = some g) {n : Nat} (hn : szOf c.P g.type = some n) (h0 : n ≠ 0) : afieldAddr c s (ptrF w v i) f = some (ptrJ w v i g.offset) := by
  rcases h with ⟨_, rfl⟩ | ⟨l, st, rfl, _⟩
  · simp at hi
  · simp only [ptrF, ptrJ, afieldAddr, hs, Option.bind_some, hg, hn, if_neg h0]
theorem SlF.at {v : AV} {xs : List α} (h : SlF c H w v xs) (h0 : xs ≠ []) : ∃ l st cs, v = .slice l w.W st xs.length ∧ rowOf c H l = some cs ∧ (cs.drop (st * w.W)).take (xs.length * w.W) = w.fl xs ∧ st * w.W + xs.length * w.W ≤ cs.length := by
  rcases h with ⟨_, rfl⟩ | ⟨l, st, rfl, hx⟩
  · exact absurd rfl h0
  · obtain ⟨cs, hr, hc⟩ := hx h0
    refine ⟨l, st, cs, rfl, hr, hc, ?_⟩
    have h2 := congrArg List.length hc
    rw [w.fl_len, List.length_take, List.length_drop] at h2
    have h3 : 0 < xs.length * w.W := Nat.mul_pos (List.length_pos_iff.2 h0) w.pos
    omega
theorem SlF.ld {v : AV} {xs : List α} (h : SlF c H w v xs) {i j : Nat} (hi : i < xs.length) (hj : j < w.W) {t : TypeId} {u : AV} (hv : (w.enc xs[i])[j]? = some u) (ha : isAggT c.P t = some false) : aload c H t (ptrJ w v i j) = some u := by
  obtain ⟨l, st, cs, rfl, hr, hc, _⟩ := h.at (by intro e; rw [e] at hi; simp at hi)
  simp only [ptrJ, aload, ha, Option.bind_some]
  rw [if_neg (by simp), rd_row hr]
  have h1 : cs[(st + i) * w.W + j]? = some u := by
    have h2 := congrArg (fun l => l[i * w.W + j]?) hc
    have hlt : i * w.W + j < xs.length * w.W := by
      have := Nat.mul_le_mul_right w.W (show i + 1 ≤ xs.length by omega)
      rw [Nat.succ_mul] at this; omega
    simp only [List.getElem?_take, if_pos hlt, List.getElem?_drop, w.fl_get hi hj, hv] at h2
    rw [← h2, Nat.add_mul]; congr 1; omega
  rw [h1]; rfl
theorem SlF.ldA {v : AV} {xs : List α} (h : SlF c H w v xs) {i : Nat} (hi : i < xs.length) {t : TypeId} (ha : isAggT c.P t = some true) (hs : szOf c.P t = some w.W) : aload c H t (ptrF w v i) = some (.agg (w.enc xs[i])) := by
  obtain ⟨l, st, cs, rfl, hr, hc, hl⟩ := h.at (by intro e; rw [e] at hi; simp at hi)
  have hle : (st + i) * w.W + w.W ≤ cs.length := by
    have := Nat.mul_le_mul_right w.W (show i + 1 ≤ xs.length by omega)
    rw [Nat.succ_mul] at this
    rw [Nat.add_mul]; omega
  simp only [ptrF, aload, ha, hs, Option.bind_some, if_true, rd, hr, if_pos hle, Option.map_some]
  congr 2
  rw [← w.fl_seg hi, ← hc, List.drop_take, List.take_take, List.drop_drop, Nat.add_mul, Nat.min_eq_left]
  have := Nat.mul_le_mul_right w.W (show i + 1 ≤ xs.length by omega)
  rw [Nat.succ_mul] at this; omega
theorem SlF.ext {v : AV} {xs : List α} (h : SlF c H w v xs) {H' : AHeap} (hk : ∀ b, v.at? = some b → hat H' b = hat H b) : SlF c H' w v xs := by
  rcases h with h | ⟨l, st, rfl, hx⟩
  · exact .inl h
  · refine .inr ⟨l, st, rfl, fun hn => ?_⟩
    obtain ⟨cs, hr, hc⟩ := hx hn
    refine ⟨cs, ?_, hc⟩
    cases l with
    | own b => simp only [rowOf, hk b rfl] at hr ⊢; exact hr
    | ext p => exact hr
theorem SlF.keep {v : AV} {xs : List α} (h : SlF c H w v xs) {H' : AHeap} {S : Nat → Prop} (hk : Keep H H' S) (hv : ∀ b, v.at? = some b → b < H.length ∧ ¬ S b) : SlF c H' w v xs :=
  h.ext fun b hb => hk.2 b (hv b hb).1 (hv b hb).2
theorem SlF.one {v : AV} {xs : List α} (h : SlF c H w v xs) : v.one = true ∧ v.cells = [v] := by
  rcases h with ⟨rfl | ⟨a, rfl⟩, _⟩ | ⟨l, st, rfl, _⟩ <;> exact ⟨rfl, rfl⟩
theorem SlF.src {v : AV} {xs : List α} (h : SlF c H w v xs) : source c H w.W v = some (xs.length, w.fl xs) := by
  rcases h with ⟨rfl | ⟨a, rfl⟩, rfl⟩ | ⟨l, st, rfl, hx⟩
  · rfl
  · rfl
  · by_cases h0 : xs = []
    · subst h0; simp [source, Wd.fl]
    · obtain ⟨l', st', cs, e, hr, hc, hl⟩ := SlF.at (c := c) (H := H) (.inr ⟨l, st, rfl, hx⟩) h0
      cases e
      have hne : xs.length ≠ 0 := by simpa using h0
      simp only [source, if_true, if_neg hne, rd, hr, Option.bind_some, if_pos hl, hc, Option.map_some]

/-- a row of one's own from its start -/
def OwnF (H : AHeap) (w : Wd α) (v : AV) (e : TypeId) (xs : List α) : Prop :=
  (v = .nilslice ∧ xs = []) ∨ ∃ b, v = .slice (.own b) w.W 0 xs.length ∧ RowF H b e w xs
theorem OwnF.nil {e : TypeId} : OwnF H w .nilslice e [] := .inl ⟨rfl, rfl⟩
theorem OwnF.sl {v : AV} {e : TypeId} {xs : List α} (h : OwnF H w v e xs) : SlF c H w v xs := by
  rcases h with h | ⟨b, rfl, hb⟩
  · exact .inl ⟨.inl h.1, h.2⟩
  · refine .inr ⟨.own b, 0, rfl, fun _ => ⟨w.fl xs, by simp only [rowOf]; rw [show hat H b = _ from hb], ?_⟩⟩
    rw [Nat.zero_mul, List.drop_zero, ← w.fl_len, List.take_length]
theorem OwnF.lt {v : AV} {e : TypeId} {xs : List α} (h : OwnF H w v e xs) {b : Nat} (hb : v.at? = some b) : b < H.length := by
  rcases h with ⟨rfl, _⟩ | ⟨b', rfl, h⟩
  · simp [AV.at?] at hb
  · simp only [AV.at?, Option.some.injEq] at hb; subst hb; exact h.lt
theorem OwnF.keep {v : AV} {e : TypeId} {xs : List α} (h : OwnF H w v e xs) {H' : AHeap} (hk : ∀ b, v.at? = some b → hat H' b = hat H b) : OwnF H' w v e xs := by
  rcases h with h | ⟨b, rfl, h⟩
  · exact .inl h
  · exact .inr ⟨b, rfl, h.keep (hk b rfl)⟩
theorem aslice_lo {v : AV} {xs : List α} (h : SlF c H w v xs) (hno : ∀ a, v ≠ .odd a) {t e : TypeId} (ht : c.P.underlying t = some (.slice e)) (hs : szOf c.P e = some w.W) {a : Nat} (ha : a ≤ xs.length) {k : IntKind} : ∃ u, aslice c H t v none (some (.int k (a : Int))) none = some (u, H) ∧ SlF c H w u (xs.take a) ∧ u.at? = v.at? ∧ (∀ a, u ≠ .odd a) := by
  rcases h with ⟨rfl | ⟨q, rfl⟩, rfl⟩ | ⟨l, st, rfl, hx⟩
  · obtain rfl : a = 0 := by simpa using ha
    exact ⟨.nilslice, by simp [aslice, ht, hs, abound], .inl ⟨.inl rfl, by simp⟩, rfl, by simp⟩
  · exact absurd rfl (hno q)
  · refine ⟨.slice l w.W st a, ?_, .inr ⟨l, st, by rw [List.length_take, Nat.min_eq_left ha], fun h0 => ?_⟩, by cases l <;> rfl, by simp⟩
    · simp only [aslice, ht, hs, Option.bind_some, abound, ne_eq, not_true, if_false, Int.toNat_natCast]
      rw [if_pos (by omega)]
      simp [ha]
    · have hne : xs ≠ [] := by rintro rfl; simp at h0
      obtain ⟨cs, hr, hc⟩ := hx hne
      refine ⟨cs, hr, ?_⟩
      rw [List.length_take, Nat.min_eq_left ha, ← w.fl_take, ← hc, List.take_take, Nat.min_eq_left (Nat.mul_le_mul_right _ ha)]
theorem aslice_hi {v : AV} {xs : List α} (h : SlF c H w v xs) (hno : ∀ a, v ≠ .odd a) {t e : TypeId} (ht : c.P.underlying t = some (.slice e)) (hs : szOf c.P e = some w.W) {a : Nat} (ha : a < xs.length) {k : IntKind} : ∃ u, aslice c H t v (some (.int k (a : Int))) none none = some (u, H) ∧ SlF c H w u (xs.drop a) ∧ u.at? = v.at? ∧ (∀ a, u ≠ .odd a) := by
  obtain ⟨l, st, cs, rfl, hr, hc, hl⟩ := h.at (by intro e; rw [e] at ha; simp at ha)
  refine ⟨.slice l w.W (st + a) (xs.length - a), ?_, .inr ⟨l, st + a, by rw [List.length_drop], fun h0 => ⟨cs, hr, ?_⟩⟩, by cases l <;> rfl, by simp⟩
  · simp only [aslice, ht, hs, Option.bind_some, abound, ne_eq, not_true, if_false, Int.toNat_natCast]
    rw [if_pos (by omega)]
    simp only [show a ≤ xs.length by omega, Nat.le_refl, true_or, and_self, if_true, ha, Option.bind_some]
    by_cases h0 : a = 0
    · subst h0; simp
    · rw [if_neg h0]
  · rw [List.length_drop, ← w.fl_drop, ← hc, List.drop_take, List.drop_drop, Nat.add_mul, Nat.sub_mul]
/-- 'v[a:]' at its end -/
theorem aslice_end {v : AV} {xs : List α} (h : SlF c H w v xs) (hx : xs ≠ []) {t e : TypeId} (ht : c.P.underlying t = some (.slice e)) (hs : szOf c.P e = some w.W) {k : IntKind} : aslice c H t v (some (.int k ((xs.length : Nat) : Int))) none none = some (.slice (fresh H) w.W 0 0, hnew H (.empty false)) := by
  obtain ⟨l, st, cs, rfl, hr, hc, hl⟩ := h.at hx
  simp only [aslice, ht, hs, Option.bind_some, abound, ne_eq, not_true, if_false, Int.toNat_natCast]
  have h0 : xs.length ≠ 0 := by simpa using hx
  rw [if_pos (by omega)]
  simp [h0]
theorem SlF.empty {l : Loc} {st : Nat} : SlF c H w (.slice l w.W st 0) [] := .inr ⟨l, st, by simp, fun h => absurd rfl h⟩

/-- an append of what another slice has -/
theorem app_nil {t e : TypeId} {k : Nat} {z : List AV} (ht : c.P.underlying t = some (.slice e)) (hi : infoSB c.P e = some (w.W, k)) (hz : zeroCells c.P e = some z) (hzl : z.length = w.W) (hk : 0 < k) {x : AV} {ys : List α} (hx : SlF c H w x ys) (hn : ys.length * k ≤ 2 ^ 47) :
    aappend c H t .nilslice x = if ys = [] then some (.nilslice, H) else some (.slice (fresh H) w.W 0 ys.length, hnew H (.row e w.W (w.fl ys))) := by
  rw [aappend_eq]
  simp only [aappend2, ht, Option.bind_some, hi, hz]
  rw [if_pos ⟨w.pos, hk, hzl⟩, hx.src]
  simp only [Option.bind_some]
  by_cases h0 : ys = []
  · subst h0; simp
  · rw [if_neg (by simpa using h0), if_neg h0, if_pos ⟨hn, w.fl_one ys⟩]
theorem app_own {t e : TypeId} {k : Nat} {z : List AV} (ht : c.P.underlying t = some (.slice e)) (hi : infoSB c.P e = some (w.W, k)) (hz : zeroCells c.P e = some z) (hzl : z.length = w.W) (hk : 0 < k) {b : Nat} {xs : List α} (hb : RowF H b e w xs) {x : AV} {ys : List α} (hx : SlF c H w x ys) (hn : (xs.length + ys.length) * k ≤ 2 ^ 47) :
    aappend c H t (.slice (.own b) w.W 0 xs.length) x = if ys = [] then some (.slice (.own b) w.W 0 xs.length, H) else some (.slice (fresh H) w.W 0 (xs.length + ys.length), hnew (H.set b none) (.row e w.W (w.fl (xs ++ ys)))) := by
  rw [aappend_eq]
  simp only [aappend2, ht, Option.bind_some, hi, hz]
  rw [if_pos ⟨w.pos, hk, hzl⟩, hx.src]
  simp only [Option.bind_some]
  by_cases h0 : ys = []
  · subst h0; simp
  · have hlen : ys.length ≠ 0 := by simpa using h0
    rw [if_neg hlen, if_neg h0, if_pos ⟨by trivial, w.fl_one ys⟩, show hat H b = _ from hb]
    simp only []
    have hl := w.fl_len xs
    rw [if_pos ⟨by trivial, by trivial, by rw [hl]; simp⟩, if_neg ?_, if_pos hn]
    · simp only [fresh, List.length_set, w.fl_app, Nat.zero_mul, List.drop_zero]
      rw [← hl, List.take_length]
    · rw [hl, Nat.zero_add, Nat.add_mul]
      have := Nat.mul_pos (Nat.pos_of_ne_zero hlen) w.pos
      omega
/-- 's = append(s, ys...)', a row of one's own -/
theorem OwnF.app {v : AV} {e : TypeId} {xs : List α} (h : OwnF H w v e xs) {t : TypeId} {k : Nat} {z : List AV} (ht : c.P.underlying t = some (.slice e)) (hi : infoSB c.P e = some (w.W, k)) (hz : zeroCells c.P e = some z) (hzl : z.length = w.W) (hk : 0 < k) {x : AV} {ys : List α} (hx : SlF c H w x ys) (h0 : ys ≠ []) (hn : (xs.length + ys.length) * k ≤ 2 ^ 47) :
    ∃ v' H', aappend c H t v x = some (v', H') ∧ OwnF H' w v' e (xs ++ ys) ∧ Keep H H' (fun j => v.at? = some j) ∧ v'.at? = some H.length ∧ H'.length = H.length + 1 := by
  rcases h with ⟨rfl, rfl⟩ | ⟨b, rfl, hb⟩
  · exact ⟨.slice (fresh H) w.W 0 ys.length, hnew H (.row e w.W (w.fl ys)), by rw [app_nil ht hi hz hzl hk hx (by simpa using hn), if_neg h0], .inr ⟨H.length, rfl, hat_nn _⟩, Keep.new _ _, rfl, by rw [len_new]⟩
  · refine ⟨.slice (fresh H) w.W 0 (xs.length + ys.length), hnew (H.set b none) (.row e w.W (w.fl (xs ++ ys))), by rw [app_own ht hi hz hzl hk hb hx hn, if_neg h0], .inr ⟨H.length, by simp [fresh], ?_⟩, ?_, rfl, by rw [len_new]; simp⟩
    · have := hat_nn (H := H.set b none) (.row e w.W (w.fl (xs ++ ys)))
      rw [List.length_set] at this
      exact this
    · refine ⟨by rw [len_new]; simp, fun j hj hne => ?_⟩
      rw [hat_nw _ (by simpa using hj), hat_ne _ (fun e => hne (by rw [e]; rfl))]
/-- one new element in a row of its own, as 'append' gets it -/
theorem SlF.single {x : α} {e : TypeId} : SlF c (hnew H (.row e w.W (w.enc x))) w (.slice (.own H.length) w.W 0 1) [x] :=
  OwnF.sl (e := e) (.inr ⟨H.length, rfl, by show hat _ _ = _; rw [hat_nn]; simp [Wd.fl]⟩)
end Go.AM
namespace Go.AM
open Go.RowKit
set_option linter.unusedSimpArgs false
set_option linter.unusedVariables false
variable {c : Ctx} {H : AHeap} {α : Type} {w : Wd α}
/-- a part of a row -/
theorem RowF.part {b : Nat} {e : TypeId} {xs : List α} (h : RowF H b e w xs) {a m : Nat} (ham : a + m ≤ xs.length) : SlF c H w (.slice (.own b) w.W a m) ((xs.drop a).take m) := by
  refine .inr ⟨.own b, a, by simp; omega, fun _ => ⟨w.fl xs, by simp only [rowOf]; rw [show hat H b = _ from h], ?_⟩⟩
  rw [w.fl_drop, show ((xs.drop a).take m).length = m by simp; omega, w.fl_take]
theorem asl_lo {t e : TypeId} (ht : c.P.underlying t = some (.slice e)) {z : Nat} (hs : szOf c.P e = some z) {l : Loc} {n i : Nat} (hi : i ≤ n) {k : IntKind} : aslice c H t (.slice l z 0 n) none (some (.int k (i : Int))) none = some (.slice l z 0 i, H) := by
  simp only [aslice, ht, hs, Option.bind_some, abound, ne_eq, not_true, if_false, Int.toNat_natCast]
  rw [if_pos (by omega)]
  simp [hi]
theorem asl_hi {t e : TypeId} (ht : c.P.underlying t = some (.slice e)) {z : Nat} (hs : szOf c.P e = some z) {l : Loc} {n i : Nat} (hi : i < n) {k : IntKind} : aslice c H t (.slice l z 0 n) (some (.int k (i : Int))) none none = some (.slice l z i (n - i), H) := by
  simp only [aslice, ht, hs, Option.bind_some, abound, ne_eq, not_true, if_false, Int.toNat_natCast]
  rw [if_pos (by omega)]
  simp only [show i ≤ n by omega, Nat.le_refl, true_or, and_self, if_true, hi, Option.bind_some, Nat.zero_add]
  by_cases h0 : i = 0
  · subst h0; simp
  · rw [if_neg h0]
theorem asl_end {t e : TypeId} (ht : c.P.underlying t = some (.slice e)) {z : Nat} (hs : szOf c.P e = some z) {l : Loc} {n : Nat} (h0 : 0 < n) {k : IntKind} : aslice c H t (.slice l z 0 n) (some (.int k (n : Int))) none none = some (.slice (fresh H) z 0 0, hnew H (.empty false)) := by
  simp only [aslice, ht, hs, Option.bind_some, abound, ne_eq, not_true, if_false, Int.toNat_natCast]
  rw [if_pos (by omega)]
  simp [show ¬ n = 0 by omega]
theorem asl_nil_lo {t e : TypeId} (ht : c.P.underlying t = some (.slice e)) {z : Nat} (hs : szOf c.P e = some z) {k : IntKind} : aslice c H t .nilslice none (some (.int k ((0 : Nat) : Int))) none = some (.nilslice, H) := by
  simp [aslice, ht, hs, abound]
theorem asl_nil_hi {t e : TypeId} (ht : c.P.underlying t = some (.slice e)) {z : Nat} (hs : szOf c.P e = some z) {k : IntKind} : aslice c H t .nilslice (some (.int k ((0 : Nat) : Int))) none none = some (.nilslice, H) := by
  simp [aslice, ht, hs, abound]
/-- one step of a region that draws its order, as 'D.local' asks for it -/
theorem Lo.mk' {κ : Kn} {T : FuncId → Spec} {ops : Array Oper} {env : AEnv} {u : Lo} {ej : AEnv} {Hj : AHeap} (v : AV) (news : AHeap) (h1 : asteps κ.c (callT κ T) ops.toList (ops.toList.take u.j) env H = some (ej, Hj)) (h2 : news.length = u.makes)
    (h3 : ∀ K : AHeap, K.length = H.length + u.ahead → (∀ b, b < H.length → hat K b = hat H b) → (∀ b ∈ u.need, hat K (H.length + b) = hat Hj (H.length + b)) → stepV κ.c (callT κ T) ops.toList (opsOf ops.toList u.j) ej K = some (some v, killK H u.kill K ++ news)) :
    ∃ ej Hj v news, asteps κ.c (callT κ T) ops.toList (ops.toList.take u.j) env H = some (ej, Hj) ∧ news.length = u.makes ∧ ∀ K : AHeap, K.length = H.length + u.ahead → (∀ b, b < H.length → hat K b = hat H b) → (∀ b ∈ u.need, hat K (H.length + b) = hat Hj (H.length + b)) → stepV κ.c (callT κ T) ops.toList (opsOf ops.toList u.j) ej K = some (v, killK H u.kill K ++ news) :=
  ⟨ej, Hj, some v, news, h1, h2, h3⟩
end Go.AM
