/-
  CODE AND CALLS (own work): 'calls_sound': what the abstract machine tells of a call is so in the model, in whatever order a region's operations are run.
-/
import Derived.Test.YtecfofmndpgnjaaAmOps7
import Derived.Orders
import Derived.LoopN
namespace Go.AM
open Go.RowKit
set_option linter.unusedSimpArgs false

variable {c : Ctx} {base : Nat} {w0 w : World} {ρ : Pl} {H : AHeap}

def Fresh (ρ : Pl) (H : AHeap) : Prop := ∀ i, H.length ≤ i → ρ (.own i) = none

theorem Post.fresh {ρ' : Pl} {H' : AHeap} {w' : World} (h : Post c base w0 ρ H w ρ' H' w') (hf : Fresh ρ H) : Fresh ρ' H' := by
  intro i hi
  cases hq : ρ' (.own i) with
  | none => rfl
  | some p =>
    rcases h.new _ p hq with e | ⟨j, hj, _, hlt⟩
    · rw [hf i (Nat.le_trans h.len hi)] at e; cases e
    · cases hj; omega

/-- what is known of the functions called -/
def CallOK (c : Ctx) (base : Nat) (w0 : World) (call : Callee) : Prop :=
  ∀ f args H v H', call f args H = some (v, H') → ∀ ρ w xs, Rel c base w0 ρ H w → Fresh ρ H → VRs ρ args xs →
    Calls c.P f xs.toArray w fun e w' => ∃ ρ' x, e = .returned x ∧ VR ρ' v x ∧ Post c base w0 ρ H w ρ' H' w'

def Tr.fits : Nat → Nat → Bool
  | 0, _ => false
  | _ + 1, 0 => true
  | d + 1, q + 1 => Tr.fits d (q / 2)

theorem Tr.get_same {v : Option AV} : ∀ {d t : Nat} {x : Tr}, Tr.get d t (Tr.set v d t x) = if Tr.fits d t then v else none
  | 0, t, x => by simp [Tr.get, Tr.fits]
  | d + 1, 0, .leaf => by simp [Tr.set, Tr.get, Tr.fits]
  | d + 1, 0, .node u l r => by simp [Tr.set, Tr.get, Tr.fits]
  | d + 1, q + 1, .leaf => by
    simp only [Tr.set, Tr.fits]
    cases hq : Nat.beq (q % 2) 1 with
    | true => simp only [Tr.get, hq]; exact Tr.get_same
    | false => simp only [Tr.get, hq]; exact Tr.get_same
  | d + 1, q + 1, .node u l r => by
    simp only [Tr.set, Tr.fits]
    cases hq : Nat.beq (q % 2) 1 with
    | true => simp only [Tr.get, hq]; exact Tr.get_same
    | false => simp only [Tr.get, hq]; exact Tr.get_same

theorem half_ne {q p : Nat} (h : q ≠ p) (hb : Nat.beq (q % 2) 1 = Nat.beq (p % 2) 1) : q / 2 ≠ p / 2 := by
  intro e
  have h1 : q % 2 = p % 2 := by
    rcases Nat.mod_two_eq_zero_or_one q with a | a <;> rcases Nat.mod_two_eq_zero_or_one p with b | b <;> rw [a, b] at hb <;> simp_all
  omega

theorem Tr.get_leaf : ∀ (d t : Nat), Tr.get d t .leaf = none
  | 0, _ => rfl
  | _ + 1, _ => rfl

theorem Tr.get_other {v : Option AV} : ∀ {d t u : Nat} {x : Tr}, u ≠ t → Tr.get d u (Tr.set v d t x) = Tr.get d u x
  | 0, t, u, x, h => by simp [Tr.get]
  | d + 1, 0, 0, x, h => absurd rfl h
  | d + 1, 0, p + 1, .leaf, h => by
    simp only [Tr.set, Tr.get]
    cases Nat.beq (p % 2) 1 <;> simp [Tr.get_leaf]
  | d + 1, 0, p + 1, .node w l r, h => by simp only [Tr.set, Tr.get]
  | d + 1, q + 1, 0, .leaf, h => by
    simp only [Tr.set]
    cases Nat.beq (q % 2) 1 <;> simp [Tr.get]
  | d + 1, q + 1, 0, .node w l r, h => by
    simp only [Tr.set]
    cases Nat.beq (q % 2) 1 <;> simp [Tr.get]
  | d + 1, q + 1, p + 1, .leaf, h => by
    simp only [Tr.set]
    cases hq : Nat.beq (q % 2) 1 <;> cases hp : Nat.beq (p % 2) 1 <;> simp only [Tr.get, hp, Tr.get_leaf]
    · rw [Tr.get_other (half_ne (by omega) (hp.trans hq.symm))]; exact Tr.get_leaf _ _
    · rw [Tr.get_other (half_ne (by omega) (hp.trans hq.symm))]; exact Tr.get_leaf _ _
  | d + 1, q + 1, p + 1, .node w l r, h => by
    simp only [Tr.set]
    cases hq : Nat.beq (q % 2) 1 <;> cases hp : Nat.beq (p % 2) 1 <;> simp only [Tr.get, hp]
    · exact Tr.get_other (half_ne (by omega) (hp.trans hq.symm))
    · exact Tr.get_other (half_ne (by omega) (hp.trans hq.symm))

theorem eput_size (env : AEnv) (d : Option Tmp) (v : Option AV) : (eput env d v).size = env.size := by
  cases d with
  | none => rfl
  | some t => simp only [eput]; cases Nat.blt t env.size <;> rfl

theorem eget_tr {env : AEnv} {t : Nat} {v : AV} (h : eget env t = some v) : Nat.blt t env.size = true ∧ Tr.get 20 t env.tr = some v := by
  unfold eget at h
  split at h
  · rename_i hb; exact ⟨hb, h⟩
  · cases h

theorem eput_ne {env : AEnv} {d : Option Tmp} {v : Option AV} {t : Tmp} (h : d ≠ some t) : eget (eput env d v) t = eget env t := by
  cases d with
  | none => rfl
  | some s =>
    simp only [eput]
    cases Nat.blt s env.size with
    | false => rfl
    | true =>
      simp only [eget]
      rw [Tr.get_other (fun e => h (by rw [e]))]

theorem eput_eq {env env' : AEnv} (hl : env.size = env'.size) {v : Option AV} {t : Tmp} : eget (eput env (some t) v) t = eget (eput env' (some t) v) t := by
  simp only [eput, ← hl]
  cases hb : Nat.blt t env.size with
  | true => simp only [eget, hb, Tr.get_same]
  | false =>
    have hb' : Nat.blt t env'.size = false := by rw [← hl]; exact hb
    simp only [eget, hb, hb']

theorem EnvR.put {env : AEnv} {a : Act} (h : EnvR ρ env a.tmps) (d : Option Tmp) {v : Option AV} {x : Value} (hv : ∀ u, v = some u → VR ρ u x) : EnvR ρ (eput env d v) (a.put d x).tmps := by
  cases d with
  | none => exact h
  | some t =>
    refine ⟨by rw [eput_size]; simp [Act.put, h.1], fun s u hs => ?_⟩
    simp only [Act.put, Array.getElem?_setIfInBounds]
    by_cases hst : t = s
    · subst hst
      obtain ⟨hb, hg⟩ := eget_tr hs
      rw [eput_size] at hb
      have hlt := hb
      rw [Nat.blt_eq] at hlt
      rw [if_pos rfl, if_pos (by rw [← h.1]; exact hlt)]
      refine ⟨x, rfl, hv u ?_⟩
      simp only [eput, hb, Tr.get_same] at hg
      split at hg
      · exact hg
      · cases hg
    · rw [if_neg hst]
      rw [eput_ne (fun e => hst (by cases e; rfl))] at hs
      exact h.2 s u hs

/-- two environments that tell the same -/
def EnvEq (a b : AEnv) : Prop := a.size = b.size ∧ ∀ t, eget a t = eget b t

theorem EnvR.congr {a b : AEnv} {tmps : Array Value} (h : EnvR ρ a tmps) (e : EnvEq a b) : EnvR ρ b tmps :=
  ⟨e.1 ▸ h.1, fun t v hv => h.2 t v (by rw [e.2]; exact hv)⟩

theorem argsTr_get : ∀ {l : List AV} {i : Nat} {x : Tr} {t : Nat} {v : AV}, Tr.get 20 t (argsTr l i x) = some v → (i ≤ t ∧ l[t - i]? = some v) ∨ Tr.get 20 t x = some v
  | [], i, x, t, v, h => .inr h
  | u :: r, i, x, t, v, h => by
    rcases argsTr_get (l := r) h with ⟨h1, h2⟩ | h1
    · refine .inl ⟨by omega, ?_⟩
      rw [show t - i = (t - (i + 1)) + 1 by omega]
      simpa using h2
    · by_cases hti : t = i
      · subst hti
        rw [Tr.get_same] at h1
        split at h1
        · exact .inl ⟨Nat.le_refl _, by simpa using h1⟩
        · cases h1
      · rw [Tr.get_other hti] at h1
        exact .inr h1

theorem undef_r (ρ : Pl) : VR ρ .undef undef := ⟨[], rfl, rfl⟩

theorem yield_sound {env : AEnv} {tmps : Array Value} (he : EnvR ρ env tmps) {ops : List Oper} {j : Nat} {b : Option Bool} (e : ayield ops env j = some b) : yielded ops.toArray tmps j = b := by
  unfold ayield at e
  split at e
  · rename_i t ht
    have ht' : ((ops.toArray[j]?).bind fun o : Oper => o.dst) = some t := by simpa using ht
    split at e
    · rename_i b' hb
      cases e
      obtain ⟨x, hx, hv⟩ := he.2 t _ hb
      simp only [VR] at hv; subst hv
      have hb2 : (((ops.toArray[j]?).bind fun o : Oper => o.dst).bind fun t => tmps[t]?) = some (.bool b') := by rw [ht']; exact hx
      unfold yielded
      rw [hb2]
    · rename_i hb
      cases e
      obtain ⟨x, hx, xs, hxs, hv⟩ := he.2 t _ hb
      subst hv
      have hb2 : (((ops.toArray[j]?).bind fun o : Oper => o.dst).bind fun t => tmps[t]?) = some (.tuple xs.toArray) := by rw [ht']; exact hx
      unfold yielded
      rw [hb2]
    · cases e
  · cases e

theorem wanted_sound {env : AEnv} {tmps : Array Value} (he : EnvR ρ env tmps) {ops : List Oper} {o : Oper} {b : Bool} (e : awanted ops env o = some b) : Region.wanted o (yielded ops.toArray tmps) = b := by
  unfold awanted at e
  unfold Region.wanted
  split at e
  · rename_i hg; cases e; rw [hg]
  · rename_i j want hg
    simp only [Option.map_eq_some_iff] at e
    obtain ⟨b', hb, rfl⟩ := e
    rw [hg]
    simp only [yield_sound he hb]

/-- what comes behind an operation -/
def After (c : Ctx) (base : Nat) (w0 : World) (ρ : Pl) (H : AHeap) (w : World) (a : Act) (env' : AEnv) (H' : AHeap) (a' : Act) (w' : World) : Prop :=
  a'.defers = a.defers ∧ ∃ ρ', Post c base w0 ρ H w ρ' H' w' ∧ EnvR ρ' env' a'.tmps

/-- AN OPERATION OF A REGION. -/
theorem step_sound {call : Callee} (hc : CallOK c base w0 call) (h : Rel c base w0 ρ H w) (hf : Fresh ρ H) {env env' : AEnv} {a : Act} (he : EnvR ρ env a.tmps) {ops : List Oper} {i : Nat} {o : Oper} (ho : ops[i]? = some o) {H' : AHeap}
    (e : astep c call ops o env H = some (env', H')) {Q : Exit → Act → World → Prop} {K : Act → World → Prop} (hK : ∀ a' w', After c base w0 ρ H w a env' H' a' w' → K a' w') : wpOp c.P ops.toArray Q i K a w := by
  have ho' : ops.toArray[i]? = some o := by simpa using ho
  simp only [astep, Option.bind_eq_some_iff] at e
  obtain ⟨b, hb, e⟩ := e
  have hw := wanted_sound he hb
  simp only [wpOp, ho']
  cases b with
  | false =>
    simp only [Bool.false_eq_true, if_false, Option.some.injEq, Prod.mk.injEq] at e
    obtain ⟨rfl, rfl⟩ := e
    rw [hw, if_neg (by simp)]
    exact hK _ _ ⟨by cases o.dst <;> rfl, ρ, Post.refl h, he.put _ (fun u hu => by cases hu; exact undef_r ρ)⟩
  | true =>
    simp only [if_true, Option.bind_eq_some_iff] at e
    obtain ⟨⟨r, H1⟩, hr, e⟩ := e
    obtain ⟨ρ1, n, w1, hrun, hres, hpost⟩ := op_sound h he hr (fun _ => hf _ (Nat.le_refl _))
    rw [hw, if_pos rfl]
    refine .inl ?_
    unfold Oper.wp
    rw [hrun]
    cases r with
    | val v =>
      cases e
      cases n <;> simp only [PRes] at hres
      rename_i x
      exact hK _ _ ⟨by cases o.dst <;> rfl, ρ1, hpost, (he.mono hpost.ext).put _ (fun u hu => by cases hu; exact hres)⟩
    | skip =>
      cases e
      cases n <;> simp only [PRes] at hres
      exact hK _ _ ⟨by cases o.dst <;> rfl, ρ1, hpost, (he.mono hpost.ext).put _ (fun u hu => by cases hu; exact undef_r ρ1)⟩
    | call f args =>
      cases n <;> simp only [PRes] at hres
      rename_i g xs
      obtain ⟨rfl, l, hl, rfl⟩ := hres
      simp only [Option.bind_eq_some_iff] at e
      obtain ⟨⟨v, H2⟩, hv, e⟩ := e
      cases e
      refine Calls.mono (hc f args H1 v H2 hv ρ1 w1 l hpost.rel (hpost.fresh hf) hl) ?_
      rintro e' w' ⟨ρ', x, rfl, hvr, hp2⟩
      exact hK _ _ ⟨by cases o.dst <;> rfl, ρ', hpost.trans hp2, ((he.mono hpost.ext).mono hp2.ext).put _ (fun u hu => by cases hu; exact hvr)⟩

theorem After.trans {a a' a'' : Act} {env'' : AEnv} {H' H'' : AHeap} {w' w'' : World} {ρ' : Pl} (h : Post c base w0 ρ H w ρ' H' w') (hd : a'.defers = a.defers) (k : After c base w0 ρ' H' w' a' env'' H'' a'' w'') : After c base w0 ρ H w a env'' H'' a'' w'' := by
  obtain ⟨h1, ρ'', h2, h3⟩ := k
  exact ⟨h1.trans hd, ρ'', h.trans h2, h3⟩

/-- A region that draws nothing. -/
theorem steps_sound {call : Callee} (hc : CallOK c base w0 call) {ops : List Oper} {Q : Exit → Act → World → Prop} : ∀ (r : List Oper) (i : Nat) {ρ : Pl} {H H' : AHeap} {w : World} {env env' : AEnv} {a : Act}, ops.drop i = r →
    Rel c base w0 ρ H w → Fresh ρ H → EnvR ρ env a.tmps → asteps c call ops r env H = some (env', H') → (∀ a' w', After c base w0 ρ H w a env' H' a' w' → Q .normal a' w') →
    wpOps c.P ops.toArray Q (List.range' i r.length) a w
  | [], i, ρ, H, H', w, env, env', a, _, h, hf, he, e, hQ => by
    simp only [asteps, Option.some.injEq, Prod.mk.injEq] at e
    obtain ⟨rfl, rfl⟩ := e
    exact hQ a w ⟨rfl, ρ, Post.refl h, he⟩
  | o :: r, i, ρ, H, H', w, env, env', a, hdr, h, hf, he, e, hQ => by
    simp only [asteps, Option.bind_eq_some_iff] at e
    obtain ⟨⟨env1, H1⟩, h1, e⟩ := e
    have ho : ops[i]? = some o := by
      have := congrArg (fun l => l[0]?) hdr
      simpa using this
    rw [List.length_cons, List.range'_succ, wpOps_cons]
    refine step_sound hc h hf he ho h1 ?_
    rintro a1 w1 ⟨hd, ρ1, hp, he1⟩
    refine steps_sound hc r (i + 1) (by rw [← List.drop_drop, hdr]; rfl) hp.rel (hp.fresh hf) he1 e ?_
    intro a2 w2 h2
    exact hQ a2 w2 (h2.trans hp hd)

/-! code -/

def AExit.conv : AExit → Exit
  | .normal => .normal
  | .exit id => .exit id
  | .ret => .ret

/-- what comes behind code -/
def Behind (c : Ctx) (base : Nat) (w0 : World) (ρ : Pl) (H : AHeap) (w : World) (a : Act) (e : AExit) (env' : AEnv) (H' : AHeap) : Exit → Act → World → Prop :=
  fun x a' w' => x = e.conv ∧ After c base w0 ρ H w a env' H' a' w'

/-- what is known of regions that draw their order -/
def DrawOKs (c : Ctx) (base : Nat) (w0 : World) (dr : DrawOk) (call : Callee) : Prop :=
  ∀ (id : Nat) (ops : Array Oper) (env env' : AEnv) (H H' : AHeap), dr c call ops.toList env H = some (env', H') →
    ∀ ρ w a, Rel c base w0 ρ H w → Fresh ρ H → EnvR ρ env a.tmps → (Code.region id ops true).wp c.P (Behind c base w0 ρ H w a .normal env' H') a w

theorem rounds_mono {P : Program} {body : Code} {Q Q' : Exit → Act → World → Prop} (h : ∀ x a w, Q x a w → Q' x a w) : ∀ (n : Nat) (a : Act) (w : World), Code.rounds P body Q n a w → Code.rounds P body Q' n a w
  | 0, _, _, hr => hr
  | n + 1, a, w, hr => by
    rw [rounds_succ] at hr ⊢
    refine wp_mono hr ?_
    intro x a1 w1 hq
    cases x with
    | normal => exact rounds_mono h n a1 w1 hq
    | _ => exact h _ _ _ hq

theorem loop_sound {body : Code} {f : AEnv → AHeap → Option ASt}
    (hb : ∀ {ρ : Pl} {H H' : AHeap} {w : World} {env env' : AEnv} {a : Act} {e : AExit}, Rel c base w0 ρ H w → Fresh ρ H → EnvR ρ env a.tmps → f env H = some (e, env', H') → body.wp c.P (Behind c base w0 ρ H w a e env' H') a w) :
    ∀ (n : Nat) {ρ : Pl} {H H' : AHeap} {w : World} {env env' : AEnv} {a : Act} {e : AExit}, Rel c base w0 ρ H w → Fresh ρ H → EnvR ρ env a.tmps → loopN f n env H = some (e, env', H') →
      Code.rounds c.P body (Behind c base w0 ρ H w a e env' H') n a w
  | 0, ρ, H, H', w, env, env', a, e, _, _, _, h => by simp [loopN] at h
  | n + 1, ρ, H, H', w, env, env', a, e, h, hf, he, hl => by
    simp only [loopN, Option.bind_eq_some_iff] at hl
    obtain ⟨⟨e1, env1, H1⟩, h1, hl⟩ := hl
    rw [rounds_succ]
    refine wp_mono (hb h hf he h1) ?_
    rintro x a1 w1 ⟨rfl, hd, ρ1, hp, he1⟩
    cases e1 with
    | normal =>
      refine (fun hr => ?_ : Code.rounds c.P body (Behind c base w0 ρ1 H1 w1 a1 e env' H') n a1 w1 → _) (loop_sound hb n hp.rel (hp.fresh hf) he1 hl)
      exact rounds_mono (fun x a2 w2 hq => ⟨hq.1, hq.2.trans hp hd⟩) n a1 w1 hr
    | exit id =>
      cases hl
      exact ⟨rfl, hd, ρ1, hp, he1⟩
    | ret =>
      cases hl
      exact ⟨rfl, hd, ρ1, hp, he1⟩
theorem code_sound {dr : DrawOk} {call : Callee} (hc : CallOK c base w0 call) (hd : DrawOKs c base w0 dr call) (lf : Nat) : ∀ (code : Code) {ρ : Pl} {H H' : AHeap} {w : World} {env env' : AEnv} {a : Act} {e : AExit},
    Rel c base w0 ρ H w → Fresh ρ H → EnvR ρ env a.tmps → acode c dr call lf code env H = some (e, env', H') → code.wp c.P (Behind c base w0 ρ H w a e env' H') a w
  | .skip, ρ, H, H', w, env, env', a, e, h, hf, he, hr => by
    simp only [acode, Option.some.injEq, Prod.mk.injEq] at hr
    obtain ⟨rfl, rfl, rfl⟩ := hr
    exact wp_skip ⟨rfl, rfl, ρ, Post.refl h, he⟩
  | .region id ops draw, ρ, H, H', w, env, env', a, e, h, hf, he, hr => by
    simp only [acode] at hr
    simp only [Option.bind_eq_some_iff, Option.some.injEq, Prod.mk.injEq] at hr
    obtain ⟨⟨env1, H1⟩, h1, rfl, rfl, rfl⟩ := hr
    cases draw with
    | true =>
      exact hd id ops env env1 H H1 (by simpa using h1) ρ w a h hf he
    | false =>
      refine wp_region ?_
      have := steps_sound (Q := Behind c base w0 ρ H w a .normal env1 H1) hc (ops := ops.toList) ops.toList 0 rfl h hf he (by simpa using h1) (fun a' w' ha => ⟨rfl, ha⟩)
      rw [List.range_eq_range']
      simpa using this
  | .seq x y, ρ, H, H', w, env, env', a, e, h, hf, he, hr => by
    simp only [acode, Option.bind_eq_some_iff] at hr
    obtain ⟨⟨e1, env1, H1⟩, h1, hr⟩ := hr
    refine wp_seq (wp_mono (code_sound hc hd lf x h hf he h1) ?_)
    rintro q a1 w1 ⟨rfl, hdf, ρ1, hp, he1⟩
    cases e1 with
    | normal =>
      refine wp_mono (code_sound hc hd lf y hp.rel (hp.fresh hf) he1 hr) ?_
      rintro q a2 w2 ⟨rfl, h2⟩
      exact ⟨rfl, h2.trans hp hdf⟩
    | exit id => cases hr; exact ⟨rfl, hdf, ρ1, hp, he1⟩
    | ret => cases hr; exact ⟨rfl, hdf, ρ1, hp, he1⟩
  | .cond q x y, ρ, H, H', w, env, env', a, e, h, hf, he, hr => by
    simp only [acode, Option.bind_eq_some_iff] at hr
    obtain ⟨v, hv, hr⟩ := hr
    have hq := aval_sound h he hv
    split at hr
    · rename_i t
      simp only [VR] at hq
      refine wp_cond hq ?_
      cases t with
      | true => exact code_sound hc hd lf x h hf he (by simpa using hr)
      | false => exact code_sound hc hd lf y h hf he (by simpa using hr)
    · cases hr
  | .block id b, ρ, H, H', w, env, env', a, e, h, hf, he, hr => by
    simp only [acode, Option.bind_eq_some_iff] at hr
    obtain ⟨⟨e1, env1, H1⟩, h1, hr⟩ := hr
    refine wp_block (wp_mono (code_sound hc hd lf b h hf he h1) ?_)
    rintro q a1 w1 ⟨rfl, h2⟩
    cases e1 with
    | normal => cases hr; exact ⟨rfl, h2⟩
    | exit j =>
      simp only [AExit.conv, Exit.inBlock]
      have hr' : (if j = id then some (AExit.normal, env1, H1) else some (AExit.exit j, env1, H1)) = some (e, env', H') := hr
      by_cases hj : j = id
      · rw [if_pos hj] at hr' ⊢; cases hr'; exact ⟨rfl, h2⟩
      · rw [if_neg hj] at hr' ⊢; cases hr'; exact ⟨rfl, h2⟩
    | ret => cases hr; exact ⟨rfl, h2⟩
  | .loop b, ρ, H, H', w, env, env', a, e, h, hf, he, hr => by
    simp only [acode] at hr
    exact wp_loop_rounds lf (loop_sound (fun h hf he hr => code_sound hc hd lf b h hf he hr) lf h hf he hr)
  | .exit id, ρ, H, H', w, env, env', a, e, h, hf, he, hr => by
    simp only [acode, Option.some.injEq, Prod.mk.injEq] at hr
    obtain ⟨rfl, rfl, rfl⟩ := hr
    exact wp_exit ⟨rfl, rfl, ρ, Post.refl h, he⟩
  | .label l, ρ, H, H', w, env, env', a, e, h, hf, he, hr => by
    simp only [acode, Option.some.injEq, Prod.mk.injEq] at hr
    obtain ⟨rfl, rfl, rfl⟩ := hr
    exact wp_label ⟨rfl, rfl, ρ, Post.refl h, he⟩
  | .ret, ρ, H, H', w, env, env', a, e, h, hf, he, hr => by
    simp only [acode, Option.some.injEq, Prod.mk.injEq] at hr
    obtain ⟨rfl, rfl, rfl⟩ := hr
    exact wp_ret ⟨rfl, rfl, ρ, Post.refl h, he⟩
  | .rangeFunc .., _, _, _, _, _, _, _, _, _, _, _, hr => by simp [acode] at hr
  | .scope _, _, _, _, _, _, _, _, _, _, _, _, hr => by simp [acode] at hr
  | .goto _, _, _, _, _, _, _, _, _, _, _, _, hr => by simp [acode] at hr
  | .refuse _, _, _, _, _, _, _, _, _, _, _, _, hr => by simp [acode] at hr

def resGet (tmps : Array Value) : ResultVar → Sem Value
  | .tmp t => pure (tmps.getD t undef)
  | .cell a t => do loadVar t (← asAddr (tmps.getD a undef))

theorem results_eq (fn : Func) (tmps : Array Value) : results fn tmps = (do let vs ← fn.results.mapM (resGet tmps); pure (if h : vs.size = 1 then vs[0] else .tuple vs)) := rfl

theorem result_sound (h : Rel c base w0 ρ H w) {env : AEnv} {tmps : Array Value} (he : EnvR ρ env tmps) : ∀ {rs : List ResultVar} {vs : List AV}, mapO (aresult c env H) rs = some vs →
    ∃ xs, (rs.mapM (resGet tmps)).run c.P w = .ok xs w ∧ VRs ρ vs xs
  | [], vs, e => by simp [mapO] at e; subst e; exact ⟨[], by simp, rfl⟩
  | r :: rs, vs, e => by
    simp only [mapO, Option.bind_eq_some_iff, Option.some.injEq] at e
    obtain ⟨v, hv, z, hz, rfl⟩ := e
    obtain ⟨xs, h1, h2⟩ := result_sound h he hz
    have one : ∃ x, (resGet tmps r).run c.P w = .ok x w ∧ VR ρ v x := by
      cases r with
      | tmp t =>
        simp only [aresult] at hv
        obtain ⟨x, hx, hvr⟩ := he.2 t v hv
        exact ⟨x, by simp [resGet, Array.getD_eq_getD_getElem?, hx], hvr⟩
      | cell a t =>
        simp only [aresult] at hv
        split at hv
        · rename_i p hp
          obtain ⟨x, hx, hvr⟩ := he.2 a p hp
          obtain ⟨y, hy, hyr⟩ := load_sound h hv hvr
          refine ⟨y, ?_, hyr⟩
          unfold aload at hv
          split at hv
          · obtain ⟨q, hq, rfl⟩ := hvr
            simp only [Instr.loadAt, Instr.sureAddr, Sem.run_bind, Sem.run_pure, Result.andThen_ok] at hy
            simp [resGet, Array.getD_eq_getD_getElem?, hx, asAddr, hy]
          · cases hv
        · cases hv
    obtain ⟨x, hx, hvr⟩ := one
    refine ⟨x :: xs, ?_, x, xs, rfl, hvr, h2⟩
    simp only [List.mapM_cons, Sem.run_bind]
    rw [hx]
    simp only [Result.andThen_ok, h1, Sem.run_pure]

theorem results_sound (h : Rel c base w0 ρ H w) {env : AEnv} {tmps : Array Value} (he : EnvR ρ env tmps) {fn : Func} {v : AV} (e : aresults c fn env H = some v) :
    ∃ x, (results fn tmps).run c.P w = .ok x w ∧ VR ρ v x := by
  simp only [aresults, Option.map_eq_some_iff] at e
  obtain ⟨vs, hvs, e⟩ := e
  obtain ⟨xs, h1, h2⟩ := result_sound h he hvs
  have hl := h2.length
  have hrun : (results fn tmps).run c.P w = .ok (if h : xs.toArray.size = 1 then xs.toArray[0] else .tuple xs.toArray) w := by
    rw [results_eq, Sem.run_bind, Array.mapM_eq_mapM_toList, Sem.run_map]
    rw [h1]
    rfl
  refine ⟨_, hrun, ?_⟩
  match vs, xs, h2, e with
  | [u], [x], h2, e => subst e; obtain ⟨y, ys, hy, hv, _⟩ := h2; cases hy; simpa using hv
  | [], [], h2, e => subst e; exact ⟨[], rfl, by simp⟩
  | u :: u2 :: us, x :: x2 :: xs, h2, e => subst e; exact ⟨_, h2, by simp⟩
  | [], _ :: _, h2, _ => simp [VRs] at h2
  | [_], [], h2, _ => obtain ⟨_, _, hy, _⟩ := h2; cases hy
  | [_], _ :: _ :: _, h2, _ => obtain ⟨_, _, hy, _, h3⟩ := h2; cases hy; simp [VRs] at h3
  | _ :: _ :: _, [], h2, _ => obtain ⟨_, _, hy, _⟩ := h2; cases hy
  | _ :: _ :: _, [_], h2, _ => obtain ⟨_, _, hy, _, _, _, hz, _⟩ := h2; cases hy; cases hz

/-- functions that are known otherwise: they do what is told of them -/
def PrimsOK (c : Ctx) (base : Nat) (w0 : World) (pr : Prims) : Prop := ∀ f g, pr f = some g → CallOK c base w0 (fun f' args H => if f' = f then g args H else none)

/-- CALLS. -/
theorem calls_sound {dr : DrawOk} {gc : Callee → Callee} {pr : Prims} (hp : PrimsOK c base w0 pr) (hd : ∀ call, CallOK c base w0 call → DrawOKs c base w0 dr call) (hg : ∀ call, CallOK c base w0 call → CallOK c base w0 (gc call)) : ∀ k, CallOK c base w0 (acall c dr gc pr k)
  | 0 => fun f args H v H' e => by simp [acall] at e
  | k + 1 => by
    intro f args H v H' e ρ w xs h hf hx
    have ih := hg _ (calls_sound hp hd hg k)
    simp only [acall] at e
    split at e
    · rename_i r hr
      cases e
      obtain ⟨g, hg, hr⟩ := Option.bind_eq_some_iff.1 hr
      exact hp f g hg f args H v H' (by simpa using hr) ρ w xs h hf hx
    · simp only [Option.bind_eq_some_iff] at e
      obtain ⟨fn, hfn, b, hb, ⟨ex, env, H1⟩, hcode, e⟩ := e
      have henv : EnvR ρ (env0 fn.ntmps args) (xs.toArray ++ Array.replicate (fn.ntmps - xs.toArray.size) undef) := by
        have hl := hx.length
        refine ⟨by simp [env0, hl], fun t u ht => ?_⟩
        rcases argsTr_get (eget_tr ht).2 with ⟨_, h1⟩ | h1
        · obtain ⟨x, hx', hv⟩ := hx.get (by simpa using h1)
          refine ⟨x, ?_, hv⟩
          have := (List.getElem?_eq_some_iff.1 hx').1
          rw [Array.getElem?_append_left (by simpa using this)]
          simpa using hx'
        · rw [Tr.get_leaf] at h1; cases h1
      refine calls_of_wp hfn hb (wp_mono (code_sound ih (hd _ ih) k b h hf henv hcode) ?_)
      rintro q a' w' ⟨rfl, hdf, ρ', hpost, he'⟩
      have fin : ∀ {v H'}, (aresults c fn env H1).map (fun v => (v, H1)) = some (v, H') → a'.defers = [] ∧ ∃ u, (results fn a'.tmps).run c.P w' = .ok u w' ∧ ∃ ρ' x, Ending.returned u = .returned x ∧ VR ρ' v x ∧ Post c base w0 ρ H w ρ' H' w' := by
        intro v H' e
        simp only [Option.map_eq_some_iff, Prod.mk.injEq] at e
        obtain ⟨u, hu, rfl, rfl⟩ := e
        obtain ⟨x, hx1, hx2⟩ := results_sound hpost.rel he' hu
        exact ⟨hdf, x, hx1, ρ', x, rfl, hx2, hpost⟩
      cases ex with
      | normal => exact fin e
      | ret => exact fin e
      | exit id => cases e

end Go.AM
