/-
  REGIONS THAT DRAW THEIR ORDER AND ONLY MAKE NEW THINGS, OVER ANY HEAP (own work): the check of the free orders holds for each region of moves, builds and new rows, slices and maps.
-/
import Derived.Test.YtecfofmndpgnjaaAmSlice
namespace Go.AM
open Go.RowKit
set_option linter.unusedSimpArgs false
set_option linter.unusedVariables false

variable {c : Ctx} {base : Nat} {w0 w : World} {ρ : Pl} {H : AHeap} {n : Nat}

/-! ### what lies low -/
mutual
theorem VR.lowOf (hρ : ∀ i, n ≤ i → ρ (.own i) = none) : ∀ {v : AV} {x : Value}, VR ρ v x → v.low n = true
  | .bool _, _, _ => rfl
  | .int _ _, _, _ => rfl
  | .str _, _, _ => rfl
  | .nilptr, _, _ => rfl
  | .ptr l _, _, ⟨p, e, hx⟩ => by simpa [AV.low] using lowL hρ e
  | .nilslice, _, _ => rfl
  | .slice l _ _ _, _, ⟨p, e, hx⟩ => by simpa [AV.low] using lowL hρ e
  | .odd _, _, _ => rfl
  | .nilmap, _, _ => rfl
  | .map l, _, ⟨p, e, hx⟩ => by simpa [AV.low] using lowL hρ e
  | .nilfunc, _, _ => rfl
  | .func _ a b, _, ⟨xs, ys, e, f, hx⟩ => by simp [AV.low, VRs.lowOf hρ e, VRs.lowOf hρ f]
  | .niliface, _, _ => rfl
  | .iface _ v, _, ⟨y, e, hx⟩ => by simp [AV.low, VR.lowOf hρ e]
  | .agg l, _, ⟨xs, e, hx⟩ => by simp [AV.low, VRs.lowOf hρ e]
  | .tuple l, _, ⟨xs, e, hx⟩ => by simp [AV.low, VRs.lowOf hρ e]
theorem VRs.lowOf (hρ : ∀ i, n ≤ i → ρ (.own i) = none) : ∀ {v : List AV} {x : List Value}, VRs ρ v x → AV.lows n v = true
  | [], _, _ => rfl
  | v :: r, _, ⟨y, ys, hx, e, f⟩ => by simp [AV.lows, VR.lowOf hρ e, VRs.lowOf hρ f]
theorem lowL (hρ : ∀ i, n ≤ i → ρ (.own i) = none) {l : Loc} {p : Place} (e : ρ l = some p) : l.low n = true := by
  cases l with
  | own i =>
    simp only [Loc.low, decide_eq_true_eq]
    rcases Nat.lt_or_ge i n with h | h
    · exact h
    · rw [hρ i h] at e; cases e
  | ext q => rfl
end

theorem lows_all : ∀ {l : List AV}, AV.lows n l = true ↔ ∀ v ∈ l, v.low n = true
  | [] => by simp [AV.lows]
  | v :: r => by simp [AV.lows, lows_all (l := r)]
mutual
theorem AV.low_mono {m : Nat} (h : n ≤ m) : ∀ {v : AV}, v.low n = true → v.low m = true
  | .bool _, _ => rfl
  | .int _ _, _ => rfl
  | .str _, _ => rfl
  | .nilptr, _ => rfl
  | .ptr l _, e => by simp only [AV.low] at e ⊢; exact lowL_mono h e
  | .nilslice, _ => rfl
  | .slice l _ _ _, e => by simp only [AV.low] at e ⊢; exact lowL_mono h e
  | .odd _, _ => rfl
  | .nilmap, _ => rfl
  | .map l, e => by simp only [AV.low] at e ⊢; exact lowL_mono h e
  | .nilfunc, _ => rfl
  | .func _ a b, e => by simp only [AV.low, Bool.and_eq_true] at e ⊢; exact ⟨AV.lows_mono h e.1, AV.lows_mono h e.2⟩
  | .niliface, _ => rfl
  | .iface _ v, e => by simp only [AV.low] at e ⊢; exact AV.low_mono h e
  | .agg l, e => by simp only [AV.low] at e ⊢; exact AV.lows_mono h e
  | .tuple l, e => by simp only [AV.low] at e ⊢; exact AV.lows_mono h e
theorem AV.lows_mono {m : Nat} (h : n ≤ m) : ∀ {v : List AV}, AV.lows n v = true → AV.lows m v = true
  | [], _ => rfl
  | v :: r, e => by simp only [AV.lows, Bool.and_eq_true] at e ⊢; exact ⟨AV.low_mono h e.1, AV.lows_mono h e.2⟩
theorem lowL_mono {m : Nat} (h : n ≤ m) {l : Loc} (e : l.low n = true) : l.low m = true := by
  cases l with
  | own i => simp only [Loc.low, decide_eq_true_eq] at e ⊢; omega
  | ext q => rfl
end
theorem AObj.low_mono {m : Nat} (h : n ≤ m) {o : AObj} (e : o.low n = true) : o.low m = true := by
  cases o with
  | row _ _ cells => exact AV.lows_mono h e
  | map es _ =>
    simp only [AObj.low, List.all_eq_true, Bool.and_eq_true] at e ⊢
    exact fun x hx => ⟨AV.low_mono h (e x hx).1, AV.low_mono h (e x hx).2⟩
  | empty _ => rfl
  | siter _ _ => rfl
  | miter _ _ _ _ => rfl
theorem heapLow_iff {L : AHeap} : heapLow n L = true ↔ ∀ o, some o ∈ L → o.low n = true := by
  simp only [heapLow, List.all_eq_true]
  constructor
  · intro h o ho; exact h _ ho
  · intro h o ho
    cases o with
    | none => rfl
    | some o => exact h o ho
theorem heapLow_mono {m : Nat} (h : n ≤ m) {L : AHeap} (e : heapLow n L = true) : heapLow m L = true :=
  heapLow_iff.2 fun o ho => AObj.low_mono h (heapLow_iff.1 e o ho)
theorem ents_low (hρ : ∀ i, n ≤ i → ρ (.own i) = none) {es : List (AV × AV × Nat)} {xs : List MapEntry} (k : EntR ρ es xs) : (es.all fun e => AV.low n e.1 && AV.low n e.2.1) = true := by
  induction k with
  | nil => rfl
  | cons hk hv _ ih => simp only [List.all_cons, Bool.and_eq_true]; exact ⟨⟨VR.lowOf hρ hk, VR.lowOf hρ hv⟩, ih⟩
theorem Rel.low (h : Rel c base w0 ρ H w) (hf : Fresh ρ H) : heapLow H.length H = true := by
  rw [heapLow_iff]
  intro o ho
  obtain ⟨i, hi⟩ := List.getElem?_of_mem ho
  obtain ⟨p, _, hp, _⟩ := h.own i o (by simp [hat, hi])
  cases o with
  | row ty esz cells =>
    obtain ⟨cs, _, _, _, h4⟩ := hp
    refine lows_all.2 fun v hv => ?_
    obtain ⟨j, hj⟩ := List.getElem?_of_mem hv
    obtain ⟨x, _, hx, _⟩ := h4 j v hj
    exact VR.lowOf hf hx
  | map es clock =>
    obtain ⟨ents, _, h2⟩ := hp
    exact ents_low hf h2
  | empty _ => rfl
  | siter _ _ => rfl
  | miter _ _ _ _ => rfl
def envLow (n : Nat) (env : AEnv) : Prop := ∀ t v, eget env t = some v → v.low n = true
theorem EnvR.low {env : AEnv} {tmps : Array Value} (hf : Fresh ρ H) (h : EnvR ρ env tmps) : envLow H.length env := by
  intro t v e
  obtain ⟨x, _, hx⟩ := h.2 t v e
  exact VR.lowOf hf hx
theorem envLow.eq {env : AEnv} (h : envLow n env) (t : Tmp) : eget (lowEnv n env) t = eget env t := by
  rw [lowEnv_get]
  cases ht : eget env t with
  | none => rfl
  | some v => simp [lowV, h t v ht]

/-! ### what is told of values made -/
theorem scAV_low {x : Value} {v : AV} (e : scAV x = some v) : v.low n = true := by
  unfold scAV at e
  split at e <;> cases e <;> rfl
theorem mapO_mem {α β : Type} {f : α → Option β} : ∀ {l : List α} {r : List β}, mapO f l = some r → ∀ y ∈ r, ∃ x ∈ l, f x = some y
  | [], r, e => by simp [mapO] at e; subst e; simp
  | x :: l, r, e => by
    simp only [mapO, Option.bind_eq_some_iff, Option.some.injEq] at e
    obtain ⟨y, hy, z, hz, rfl⟩ := e
    intro q hq
    rcases List.mem_cons.1 hq with rfl | hq
    · exact ⟨x, by simp, hy⟩
    · obtain ⟨x', h1, h2⟩ := mapO_mem hz q hq
      exact ⟨x', by simp [h1], h2⟩
theorem scs_low {l : List Value} {r : List AV} (e : mapO scAV l = some r) : AV.lows n r = true :=
  lows_all.2 fun v hv => by obtain ⟨x, _, hx⟩ := mapO_mem e v hv; exact scAV_low hx
theorem constAV_low {x : Value} {v : AV} (e : constAV x = some v) : v.low n = true := by
  unfold constAV at e
  split at e
  · simp only [Option.map_eq_some_iff] at e
    obtain ⟨r, hr, rfl⟩ := e
    exact scs_low hr
  · split at e
    · cases e; rfl
    · cases e
  · exact scAV_low e
theorem zeroCells_low {t : TypeId} {z : List AV} (e : zeroCells c.P t = some z) : AV.lows n z = true := by
  simp only [zeroCells, Option.bind_eq_some_iff] at e
  obtain ⟨_, _, _, _, e⟩ := e
  exact scs_low e
theorem aval_low {env : AEnv} (h : envLow n env) {x : Operand} {v : AV} (e : aval env x = some v) : v.low n = true := by
  cases x with
  | tmp t => exact h t v e
  | const u => exact constAV_low e
  | global g => cases e; rfl
  | func f => cases e; rfl
theorem cells_low {v : AV} (h : v.low n = true) : AV.lows n v.cells = true := by
  cases v <;> first | exact h | simp [AV.cells, AV.lows, h]
theorem lows_app {a b : List AV} (ha : AV.lows n a = true) (hb : AV.lows n b = true) : AV.lows n (a ++ b) = true :=
  lows_all.2 fun v hv => by rcases List.mem_append.1 hv with h | h; exact lows_all.1 ha v h; exact lows_all.1 hb v h
theorem afill_low {place : Nat → Option (Nat × Nat)} : ∀ {parts : List (Nat × AV)} {cells r : List AV}, AV.lows n cells = true → (∀ p ∈ parts, p.2.low n = true) → afill place cells parts = some r → AV.lows n r = true
  | [], cells, r, h, _, e => by simp [afill] at e; subst e; exact h
  | (i, v) :: rest, cells, r, h, hp, e => by
    simp only [afill, Option.bind_eq_some_iff] at e
    obtain ⟨p, _, e⟩ := e
    split at e
    · refine afill_low ?_ (fun q hq => hp q (by simp [hq])) e
      refine lows_all.2 fun u hu => ?_
      simp only [setSeg, List.mem_append, or_assoc] at hu
      rcases hu with hu | hu | hu
      · exact lows_all.1 h u (List.mem_of_mem_take hu)
      · exact lows_all.1 (cells_low (hp (i, v) (by simp))) u hu
      · exact lows_all.1 h u (List.mem_of_mem_drop hu)
    · cases e
theorem reps_low {z : List AV} (h : AV.lows n z = true) : ∀ k, AV.lows n (reps k z) = true
  | 0 => rfl
  | k + 1 => lows_app h (reps_low h k)
theorem parts_low {env : AEnv} (h : envLow n env) {ps : List (Nat × Operand)} {l : List (Nat × AV)} (e : mapO (fun p => (aval env p.2).map fun v => (p.1, v)) ps = some l) : ∀ p ∈ l, p.2.low n = true := by
  intro p hp
  obtain ⟨x, _, hx⟩ := mapO_mem e p hp
  simp only [Option.map_eq_some_iff] at hx
  obtain ⟨v, hv, rfl⟩ := hx
  exact aval_low h hv
theorem abuild_low {t : TypeId} {l : List (Nat × AV)} (h : ∀ p ∈ l, p.2.low n = true) {v : AV} (e : abuild c t l = some v) : v.low n = true := by
  simp only [abuild, Option.bind_eq_some_iff] at e
  obtain ⟨z, hz, d, _, e⟩ := e
  split at e
  · simp only [Option.bind_eq_some_iff, Option.map_eq_some_iff] at e
    obtain ⟨_, _, r, hr, rfl⟩ := e
    exact afill_low (zeroCells_low hz) h hr
  · simp only [Option.bind_eq_some_iff, Option.map_eq_some_iff] at e
    obtain ⟨_, _, r, hr, rfl⟩ := e
    exact afill_low (zeroCells_low hz) h hr
  · cases e

/-! ### one operation -/
def plainOp : Op → Bool
  | .move _ | .assign _ | .build .. | .alloc _ | .box .. | .buildSlice .. | .makeMap _ none | .makeSlice .. => true
  | _ => false
/-- puts a value, or puts one and makes one new thing; the same over each heap of that length -/
def PStep (c : Ctx) (env : AEnv) (o : Op) (H : AHeap) (r : ARes) (H' : AHeap) : Prop :=
  ∃ v, r = .val v ∧ ((H' = H ∧ v.low H.length = true ∧ ∀ K, aop c env o K = some (.val v, K)) ∨
    ∃ ob, H' = H ++ [some ob] ∧ v.low (H.length + 1) = true ∧ ob.low (H.length + 1) = true ∧ ∀ K : AHeap, K.length = H.length → aop c env o K = some (.val v, K ++ [some ob]))
theorem own_low : Loc.low (n + 1) (.own n) = true := by simp [Loc.low]
theorem plain_step {env : AEnv} {o : Op} (hp : plainOp o = true) (hl : envLow H.length env) {r : ARes} {H' : AHeap} (e : aop c env o H = some (r, H')) : PStep c env o H r H' := by
  have hl1 : ∀ {x : Operand} {v : AV}, aval env x = some v → v.low H.length = true := aval_low hl
  unfold plainOp at hp
  split at hp
  · rename_i x
    obtain ⟨⟨rfl, v, rfl⟩, _⟩ := isP_still (o := .move x) rfl e []
    refine ⟨v, rfl, .inl ⟨rfl, ?_, fun K => (isP_still (o := .move x) rfl e K).2⟩⟩
    simp only [aop, pair, Option.map_eq_some_iff, Prod.mk.injEq] at e
    obtain ⟨u, hu, hv, _⟩ := e
    cases hv; exact hl1 hu
  · rename_i x
    obtain ⟨⟨rfl, v, rfl⟩, _⟩ := isP_still (o := .assign x) rfl e []
    refine ⟨v, rfl, .inl ⟨rfl, ?_, fun K => (isP_still (o := .assign x) rfl e K).2⟩⟩
    simp only [aop, pair, Option.map_eq_some_iff, Prod.mk.injEq] at e
    obtain ⟨u, hu, hv, _⟩ := e
    cases hv; exact hl1 hu
  · rename_i t ps
    obtain ⟨⟨rfl, v, rfl⟩, _⟩ := isP_still (o := .build t ps) rfl e []
    refine ⟨v, rfl, .inl ⟨rfl, ?_, fun K => (isP_still (o := .build t ps) rfl e K).2⟩⟩
    simp only [aop, pair, Option.bind_eq_some_iff, Option.map_eq_some_iff, Prod.mk.injEq] at e
    obtain ⟨l, hls, u, hu, hv, _⟩ := e
    cases hv
    exact abuild_low (parts_low hl hls) hu
  · rename_i t
    simp only [aop, both, anew, Option.bind_eq_some_iff, Option.map_eq_some_iff] at e
    obtain ⟨z, hz, ⟨u, H1⟩, ⟨m, hm, e⟩, e2⟩ := e
    split at e
    · rename_i hc
      cases e; cases e2
      refine ⟨_, rfl, .inr ⟨.row t m z, rfl, own_low, zeroCells_low hz, fun K hK => ?_⟩⟩
      simp only [aop, both, anew, hz, hm, Option.bind_some, if_pos hc, fresh, hK, hnew, Option.map_some]
    · cases e
  · rename_i t x
    simp only [aop, both, anew, Option.bind_eq_some_iff, Option.map_eq_some_iff] at e
    obtain ⟨z, hz, ⟨u, H1⟩, ⟨m, hm, e⟩, e2⟩ := e
    split at e
    · rename_i hc
      cases e; cases e2
      refine ⟨_, rfl, .inr ⟨.row t m z.cells, rfl, own_low, AV.lows_mono (by omega) (cells_low (hl1 hz)), fun K hK => ?_⟩⟩
      simp only [aop, both, anew, hz, hm, Option.bind_some, if_pos hc, fresh, hK, hnew, Option.map_some]
    · cases e
  · rename_i t k ps
    simp only [aop, both, abuildSlice, Option.bind_eq_some_iff, Option.map_eq_some_iff] at e
    obtain ⟨l, hls, ⟨u, H1⟩, ⟨d, hd, e⟩, e2⟩ := e
    split at e
    · simp only [Option.bind_eq_some_iff] at e
      obtain ⟨m, hm, z, hz, e⟩ := e
      split at e
      · rename_i hc
        simp only [Option.map_eq_some_iff] at e
        obtain ⟨cs, hcs, e⟩ := e
        cases e; cases e2
        refine ⟨_, rfl, .inr ⟨.row _ m cs, rfl, own_low, AV.lows_mono (by omega) (afill_low (reps_low (zeroCells_low hz) _) (parts_low hl hls) hcs), fun K hK => ?_⟩⟩
        simp only [aop, both, abuildSlice, hls, hd, hm, hz, Option.bind_some, if_pos hc, hcs, fresh, hK, hnew, Option.map_some]
      · rename_i hc
        split at e
        · rename_i hc2
          cases e; cases e2
          refine ⟨_, rfl, .inr ⟨.row _ m [], rfl, own_low, rfl, fun K hK => ?_⟩⟩
          simp only [aop, both, abuildSlice, hls, hd, hm, hz, Option.bind_some, if_neg hc, if_pos hc2, fresh, hK, hnew, Option.map_some]
        · cases e
    · cases e
  · rename_i t
    simp only [aop, Option.some.injEq, Prod.mk.injEq] at e
    obtain ⟨rfl, rfl⟩ := e
    exact ⟨_, rfl, .inr ⟨.map [] 0, rfl, own_low, rfl, fun K hK => by simp only [aop, fresh, hK, hnew]⟩⟩
  · rename_i t a b
    simp only [aop, both, Option.bind_eq_some_iff, Option.map_eq_some_iff] at e
    obtain ⟨u, hu, v, hv, ⟨q, H1⟩, e, e2⟩ := e
    unfold amakeSlice at e
    split at e
    · rename_i k1 l k2 m
      simp only [Option.bind_eq_some_iff] at e
      obtain ⟨d, hd, e⟩ := e
      split at e
      · simp only [Option.bind_eq_some_iff] at e
        obtain ⟨i, hi, z, hz, e⟩ := e
        split at e
        · rename_i hc
          cases e; cases e2
          refine ⟨_, rfl, .inr ⟨.row _ i.size (reps m.toNat z), rfl, own_low, reps_low (zeroCells_low hz) _, fun K hK => ?_⟩⟩
          simp only [aop, both, hu, hv, amakeSlice, hd, hi, hz, Option.bind_some, if_pos hc, fresh, hK, hnew, Option.map_some]
        · cases e
      · cases e
    · cases e
  · cases hp

theorem aval_congr {e1 e2 : AEnv} (h : ∀ t, eget e1 t = eget e2 t) (x : Operand) : aval e1 x = aval e2 x := by
  cases x <;> first | exact h _ | rfl
theorem plain_congr {e1 e2 : AEnv} (h : ∀ t, eget e1 t = eget e2 t) {o : Op} (hp : plainOp o = true) (K : AHeap) : aop c e1 o K = aop c e2 o K := by
  unfold plainOp at hp
  split at hp
  case h_9 => cases hp
  all_goals simp only [aop, aval_congr h]

/-! ### the region -/
def plainOper (o : Oper) : Bool := plainOp o.op && o.guard.isNone
def plainOk (ops : List Oper) : Bool := edgesOk ops && (apartOk ops && ops.all plainOper)

theorem stepV_plain {call : Callee} {ops : List Oper} {o : Oper} (ho : plainOper o = true) {env : AEnv} {K : AHeap} : stepV c call ops o env K = (aop c env o.op K).bind fun p => match p.1 with
    | .val v => some (some v, p.2)
    | .skip => some (some .undef, p.2)
    | .call f args => (call f args p.2).bind fun q => some (some q.1, q.2) := by
  simp only [plainOper, Bool.and_eq_true, Option.isNone_iff_eq_none] at ho
  simp only [stepV, awanted, ho.2, Option.bind_some, if_true]
  cases aop c env o.op K with
  | none => rfl
  | some p => obtain ⟨r, K'⟩ := p; cases r <;> rfl

theorem eput_low {env : AEnv} (h : envLow n env) {v : AV} (hv : v.low n = true) (d : Option Tmp) : envLow n (eput env d (some v)) := by
  intro t u e
  cases d with
  | none => exact h t u e
  | some d =>
    by_cases hd : t = d
    · subst hd
      simp only [eput] at e
      split at e
      · simp only [eget] at e
        split at e
        · rw [Tr.get_same] at e
          split at e
          · cases e; exact hv
          · cases e
        · cases e
      · exact h _ _ e
    · rw [eput_ne (fun e' => hd (by cases e'; rfl))] at e
      exact h t u e
theorem trace_at {call : Callee} {ops : List Oper} : ∀ {r : List Oper} {env : AEnv} {H : AHeap} {t : List (Option AV × AHeap)}, trace c call ops r env H = some t → ∀ m o, r[m]? = some o →
    stepV c call ops o (envK (fun i => (r.getD i default).dst) (fun i => (t.getD i dft).1) (fun _ => true) env m) (heapsOf H t m) = some (t.getD m dft)
  | [], env, H, t, e, m, o, ho => by simp at ho
  | o' :: r, env, H, t, e, m, o, ho => by
    simp only [trace, Option.bind_eq_some_iff, Option.some.injEq] at e
    obtain ⟨p, hp, t', ht, rfl⟩ := e
    cases m with
    | zero => cases ho; exact hp
    | succ m =>
      have := trace_at ht m o (by simpa using ho)
      rw [envK_shift]
      simp only [List.getD_cons_succ, List.getD_cons_zero] at this ⊢
      cases m with
      | zero => exact this
      | succ k => exact this
theorem mask_mem {keep : Nat → Bool} {o : AObj} : ∀ {L : AHeap} {i : Nat}, some o ∈ mask keep i L → some o ∈ L
  | [], _, h => by simp [mask] at h
  | x :: r, i, h => by
    simp only [mask, List.mem_cons] at h
    rcases h with h | h
    · split at h
      · exact List.mem_cons.2 (.inl h)
      · cases h
    · exact List.mem_cons.2 (.inr (mask_mem h))
theorem mask_congr {k1 k2 : Nat → Bool} {L : AHeap} (h : ∀ i, i < L.length → k1 i = k2 i) : mask k1 0 L = mask k2 0 L := by
  apply List.ext_getElem?
  intro i
  rw [mask_get, mask_get]
  rcases Nat.lt_or_ge i L.length with hi | hi
  · rw [Nat.zero_add, h i hi]
  · rw [List.getElem?_eq_none hi]; rfl
theorem mask_app {k : Nat → Bool} {x : Option AObj} : ∀ {L : AHeap} {i : Nat}, mask k i (L ++ [x]) = mask k i L ++ [if k (i + L.length) then x else none]
  | [], i => by simp [mask]
  | y :: r, i => by
    simp only [List.cons_append, mask, mask_app (L := r), List.length_cons]
    rw [show i + 1 + r.length = i + (r.length + 1) by omega]

theorem plain_free {call : Callee} {ops : List Oper} (hok : plainOk ops = true) {env : AEnv} {t : List (Option AV × AHeap)} (ht : trace c call ops ops env H = some t) (hH : heapLow H.length H = true) (he : envLow H.length env) :
    freeOk c call ops env H t = true := by
  simp only [plainOk, Bool.and_eq_true, List.all_eq_true] at hok
  obtain ⟨h1, h2, h3⟩ := hok
  have hst := trace_at ht
  generalize hE : envK (fun i => (ops.getD i default).dst) (fun i => (t.getD i dft).1) (fun _ => true) env = ek at hst
  have hat : ∀ j, j < ops.length → ops[j]? = some (opsOf ops j) := fun j hj => by simp [opsOf, List.getD_eq_getElem?_getD, List.getElem?_eq_getElem hj]
  -- each step
  have step : ∀ j, j < ops.length → envLow (heapsOf H t j).length (ek j) → ∃ v, (t.getD j dft).1 = some v ∧ plainOper (opsOf ops j) = true ∧
      (((t.getD j dft).2 = heapsOf H t j ∧ v.low (heapsOf H t j).length = true ∧ ∀ K, aop c (ek j) (opsOf ops j).op K = some (.val v, K)) ∨
       ∃ ob, (t.getD j dft).2 = heapsOf H t j ++ [some ob] ∧ v.low ((heapsOf H t j).length + 1) = true ∧ ob.low ((heapsOf H t j).length + 1) = true ∧ ∀ K : AHeap, K.length = (heapsOf H t j).length → aop c (ek j) (opsOf ops j).op K = some (.val v, K ++ [some ob])) := by
    intro j hj hl
    have hp : plainOper (opsOf ops j) = true := h3 _ (List.mem_of_getElem? (hat j hj))
    have hs := hst j _ (hat j hj)
    rw [stepV_plain hp, Option.bind_eq_some_iff] at hs
    obtain ⟨⟨r, K⟩, ha, hs⟩ := hs
    obtain ⟨v, rfl, hv⟩ := plain_step (by simp only [plainOper, Bool.and_eq_true] at hp; exact hp.1) hl ha
    simp only [Option.some.injEq] at hs
    rw [← hs]
    exact ⟨v, rfl, hp, hv⟩
  have inv : ∀ j, j ≤ ops.length → envLow (heapsOf H t j).length (ek j) ∧ heapLow (heapsOf H t j).length (heapsOf H t j) = true := by
    intro j
    induction j with
    | zero => intro _; subst hE; exact ⟨he, hH⟩
    | succ j ih =>
      intro hj
      obtain ⟨i1, i2⟩ := ih (by omega)
      obtain ⟨v, e1, hp, hs⟩ := step j (by omega) i1
      have hek : ek (j + 1) = eput (ek j) (ops.getD j default).dst (some v) := by subst hE; simp only [envK, if_true, e1]
      have hhe : heapsOf H t (j + 1) = (t.getD j dft).2 := rfl
      rw [hek, hhe]
      rcases hs with ⟨e2, hv, _⟩ | ⟨ob, e2, hv, hob, _⟩
      · rw [e2]
        exact ⟨eput_low i1 hv _, i2⟩
      · rw [e2]
        simp only [List.length_append, List.length_cons, List.length_nil, Nat.zero_add]
        refine ⟨eput_low (fun t v e => AV.low_mono (by omega) (i1 t v e)) hv _, heapLow_iff.2 fun o ho => ?_⟩
        rcases List.mem_append.1 ho with ho | ho
        · exact AObj.low_mono (by omega) (heapLow_iff.1 i2 o ho)
        · simp at ho; subst ho; exact hob
  simp only [freeOk, Bool.and_eq_true, List.all_eq_true, List.mem_range]
  refine ⟨h1, List.all_eq_true.1 h2 |> fun h => by simpa only [apartOk, List.all_eq_true, List.mem_range] using h2, fun j hj => ?_⟩
  obtain ⟨i1, i2⟩ := inv j (by omega)
  obtain ⟨v, e1, hp, hs⟩ := step j hj i1
  have hhe : heapsOf H t (j + 1) = (t.getD j dft).2 := rfl
  have hop : plainOp (opsOf ops j).op = true := by simp only [plainOper, Bool.and_eq_true] at hp; exact hp.1
  have keep : ∀ (B : Nat → Bool) i, i < (heapsOf H t j).length → keepS (fun k => (heapsOf H t k).length) ops.length B i = keepS (fun k => (heapsOf H t k).length) ops.length (fun k => B k || Nat.beq k j) i := by
    intro B i hi
    rw [Bool.eq_iff_iff, keepS_iff, keepS_iff]
    constructor
    · rintro (h | ⟨k, a1, a2, a3⟩)
      · exact .inl h
      · exact .inr ⟨k, a1, by rw [a2]; rfl, a3⟩
    · rintro (h | ⟨k, a1, a2, a3⟩)
      · exact .inl h
      · refine .inr ⟨k, a1, ?_, a3⟩
        rw [Bool.or_eq_true] at a2
        rcases a2 with a2 | a2
        · exact a2
        · have := Nat.eq_of_beq_eq_true a2; subst this; omega
  simp only [freeAt, Bool.and_eq_true, hE]
  refine ⟨?_, ?_, ?_⟩
  · rw [hhe]
    rcases hs with ⟨e2, _, _⟩ | ⟨ob, e2, _, _, _⟩
    · rw [e2, List.take_of_length_le (Nat.le_refl _)]; exact heapEq_refl _
    · rw [e2, List.take_left' rfl]; exact heapEq_refl _
  · exact heapLow_iff.2 fun o ho => heapLow_iff.1 i2 o (mask_mem ho)
  · rw [stepV_plain hp, plain_congr (fun t => i1.eq t) hop, e1, hhe]
    rcases hs with ⟨e2, _, e3⟩ | ⟨ob, e2, _, _, e3⟩
    · rw [e3, e2, mask_congr (keep _)]
      simp only [Option.bind_some, sameStep, AV.beq_refl, heapEq_refl, Bool.and_self]
    · rw [e3 _ mask_len, e2, mask_app, mask_congr (keep _)]
      have : keepS (fun k => (heapsOf H t k).length) ops.length (fun k => ((Region.before ops.toArray).getD j 0).testBit k || Nat.beq k j) (0 + (heapsOf H t j).length) = true := by
        refine keepS_iff.2 (.inr ⟨j, hj, ?_, by omega, ?_⟩)
        · rw [Bool.or_eq_true]; exact .inr (Nat.beq_refl j)
        · rw [hhe, e2]; simp
      rw [this]
      simp only [Option.bind_some, sameStep, AV.beq_refl, heapEq_refl, Bool.and_self, if_true]

variable {κ : Kn} {T : FuncId → Spec} {env : AEnv} {K : AExit → AEnv → AHeap → Prop}
/-- a region that draws its order and only makes new things -/
theorem D.plain {id : Nat} {ops : Array Oper} {env' : AEnv} {H' : AHeap} (hs : plainOk ops.toList = true) (h : asteps κ.c (callT κ T) ops.toList ops.toList env H = some (env', H')) (k : K .normal env' H') : D κ (.region id ops true) env H K := by
  refine ⟨.normal, env', H', k, fun ρ w a hr hf he => ?_⟩
  obtain ⟨t, ht⟩ := trace_of_steps h
  have h2 := endOf_steps ht
  rw [h, Option.some.injEq] at h2
  exact free_sound κ.mixed _ (callT_ok T) id ops env env' H H' t ht (plain_free hs ht (hr.low hf) (he.low hf)) h2.symm ρ w a hr hf he
end Go.AM
