/- Texts of the proof in one file (own work): AmPlain, AmStill, AmGo, B, HeapPure, Hw, Pq, AmFrame, AmKeys, Keys, Sl. -/
import Derived.Test.YtecfofmndpgnjaaM3
import Derived.Test.YtecfofmndpgnjaaProg
import Derived.KernelRfl
import Derived.Test.YtecfofmndpgnjaaM1
import Derived.Shelf.SlIterI.Sorted
import Derived.WalkKit
import Derived.OwnWalkIn
import Derived.TacticsInMore
import Derived.RegionIn
import Derived.LoopNIn
import Derived.LoopIn
import Derived.Shelf.AbstractIn
import Derived.Shelf.SortM.Plain
import Derived.Shelf.SortM.SortNone
/-
  REGIONS THAT DRAW THEIR ORDER AND ONLY MAKE NEW THINGS, OVER ANY HEAP (own work): the check of the free orders holds for each region of moves, builds and new rows, slices and maps.
-/
namespace Go.AM
open Go.RowKit
set_option linter.unusedSimpArgs false
set_option linter.unusedVariables false

variable {c : Ctx} {base : Nat} {w0 w : World} {ρ : Pl} {H : AHeap} {n : Nat}

/-! ### what lies low -/
mutual
theorem VR.lowOf (hρ : ∀ i, n ≤ i → ρ (.own i) = none) : ∀ {v : AV} {x : Value}, VR ρ v x → v.low n = true
  | .bool _, _, _ => rfl
  | .int _ _, _, _ => rfl
  | .str _, _, _ => rfl
  | .nilptr, _, _ => rfl
  | .ptr l _, _, ⟨p, e, hx⟩ => by simpa [AV.low] using lowL hρ e
  | .nilslice, _, _ => rfl
  | .slice l _ _ _, _, ⟨p, e, hx⟩ => by simpa [AV.low] using lowL hρ e
  | .odd _, _, _ => rfl
  | .nilmap, _, _ => rfl
  | .map l, _, ⟨p, e, hx⟩ => by simpa [AV.low] using lowL hρ e
  | .nilfunc, _, _ => rfl
  | .func _ a b, _, ⟨xs, ys, e, f, hx⟩ => by simp [AV.low, VRs.lowOf hρ e, VRs.lowOf hρ f]
  | .niliface, _, _ => rfl
  | .iface _ v, _, ⟨y, e, hx⟩ => by simp [AV.low, VR.lowOf hρ e]
  | .agg l, _, ⟨xs, e, hx⟩ => by simp [AV.low, VRs.lowOf hρ e]
  | .tuple l, _, ⟨xs, e, hx⟩ => by simp [AV.low, VRs.lowOf hρ e]
theorem VRs.lowOf (hρ : ∀ i, n ≤ i → ρ (.own i) = none) : ∀ {v : List AV} {x : List Value}, VRs ρ v x → AV.lows n v = true
  | [], _, _ => rfl
  | v :: r, _, ⟨y, ys, hx, e, f⟩ => by simp [AV.lows, VR.lowOf hρ e, VRs.lowOf hρ f]
theorem lowL (hρ : ∀ i, n ≤ i → ρ (.own i) = none) {l : Loc} {p : Place} (e : ρ l = some p) : l.low n = true := by
  cases l with
  | own i =>
    simp only [Loc.low, decide_eq_true_eq]
    rcases Nat.lt_or_ge i n with h | h
    · exact h
    · rw [hρ i h] at e; cases e
  | ext q => rfl
end

theorem lows_all : ∀ {l : List AV}, AV.lows n l = true ↔ ∀ v ∈ l, v.low n = true
  | [] => by simp [AV.lows]
  | v :: r => by simp [AV.lows, lows_all (l := r)]
mutual
theorem AV.low_mono {m : Nat} (h : n ≤ m) : ∀ {v : AV}, v.low n = true → v.low m = true
  | .bool _, _ => rfl
  | .int _ _, _ => rfl
  | .str _, _ => rfl
  | .nilptr, _ => rfl
  | .ptr l _, e => by simp only [AV.low] at e ⊢; exact lowL_mono h e
  | .nilslice, _ => rfl
  | .slice l _ _ _, e => by simp only [AV.low] at e ⊢; exact lowL_mono h e
  | .odd _, _ => rfl
  | .nilmap, _ => rfl
  | .map l, e => by simp only [AV.low] at e ⊢; exact lowL_mono h e
  | .nilfunc, _ => rfl
  | .func _ a b, e => by simp only [AV.low, Bool.and_eq_true] at e ⊢; exact ⟨AV.lows_mono h e.1, AV.lows_mono h e.2⟩
  | .niliface, _ => rfl
  | .iface _ v, e => by simp only [AV.low] at e ⊢; exact AV.low_mono h e
  | .agg l, e => by simp only [AV.low] at e ⊢; exact AV.lows_mono h e
  | .tuple l, e => by simp only [AV.low] at e ⊢; exact AV.lows_mono h e
theorem AV.lows_mono {m : Nat} (h : n ≤ m) : ∀ {v : List AV}, AV.lows n v = true → AV.lows m v = true
  | [], _ => rfl
  | v :: r, e => by simp only [AV.lows, Bool.and_eq_true] at e ⊢; exact ⟨AV.low_mono h e.1, AV.lows_mono h e.2⟩
theorem lowL_mono {m : Nat} (h : n ≤ m) {l : Loc} (e : l.low n = true) : l.low m = true := by
  cases l with
  | own i => simp only [Loc.low, decide_eq_true_eq] at e ⊢; omega
  | ext q => rfl
end
theorem AObj.low_mono {m : Nat} (h : n ≤ m) {o : AObj} (e : o.low n = true) : o.low m = true := by
  cases o with
  | row _ _ cells => exact AV.lows_mono h e
  | map es _ =>
    simp only [AObj.low, List.all_eq_true, Bool.and_eq_true] at e ⊢
    exact fun x hx => ⟨AV.low_mono h (e x hx).1, AV.low_mono h (e x hx).2⟩
  | empty _ => rfl
  | siter _ _ => rfl
  | miter _ _ _ _ => rfl
theorem heapLow_iff {L : AHeap} : heapLow n L = true ↔ ∀ o, some o ∈ L → o.low n = true := by
  simp only [heapLow, List.all_eq_true]
  constructor
  · intro h o ho; exact h _ ho
  · intro h o ho
    cases o with
    | none => rfl
    | some o => exact h o ho
theorem heapLow_mono {m : Nat} (h : n ≤ m) {L : AHeap} (e : heapLow n L = true) : heapLow m L = true :=
  heapLow_iff.2 fun o ho => AObj.low_mono h (heapLow_iff.1 e o ho)
theorem ents_low (hρ : ∀ i, n ≤ i → ρ (.own i) = none) {es : List (AV × AV × Nat)} {xs : List MapEntry} (k : EntR ρ es xs) : (es.all fun e => AV.low n e.1 && AV.low n e.2.1) = true := by
  induction k with
  | nil => rfl
  | cons hk hv _ ih => simp only [List.all_cons, Bool.and_eq_true]; exact ⟨⟨VR.lowOf hρ hk, VR.lowOf hρ hv⟩, ih⟩
theorem Rel.low (h : Rel c base w0 ρ H w) (hf : Fresh ρ H) : heapLow H.length H = true := by
  rw [heapLow_iff]
  intro o ho
  obtain ⟨i, hi⟩ := List.getElem?_of_mem ho
  obtain ⟨p, _, hp, _⟩ := h.own i o (by simp [hat, hi])
  cases o with
  | row ty esz cells =>
    obtain ⟨cs, _, _, _, h4⟩ := hp
    refine lows_all.2 fun v hv => ?_
    obtain ⟨j, hj⟩ := List.getElem?_of_mem hv
    obtain ⟨x, _, hx, _⟩ := h4 j v hj
    exact VR.lowOf hf hx
  | map es clock =>
    obtain ⟨ents, _, h2⟩ := hp
    exact ents_low hf h2
  | empty _ => rfl
  | siter _ _ => rfl
  | miter _ _ _ _ => rfl
def envLow (n : Nat) (env : AEnv) : Prop := ∀ t v, eget env t = some v → v.low n = true
theorem EnvR.low {env : AEnv} {tmps : Array Value} (hf : Fresh ρ H) (h : EnvR ρ env tmps) : envLow H.length env := by
  intro t v e
  obtain ⟨x, _, hx⟩ := h.2 t v e
  exact VR.lowOf hf hx
theorem envLow.eq {env : AEnv} (h : envLow n env) (t : Tmp) : eget (lowEnv n env) t = eget env t := by
  rw [lowEnv_get]
  cases ht : eget env t with
  | none => rfl
  | some v => simp [lowV, h t v ht]

/-! ### what is told of values made -/
theorem scAV_low {x : Value} {v : AV} (e : scAV x = some v) : v.low n = true := by
  unfold scAV at e
  split at e <;> cases e <;> rfl
theorem mapO_mem {α β : Type} {f : α → Option β} : ∀ {l : List α} {r : List β}, mapO f l = some r → ∀ y ∈ r, ∃ x ∈ l, f x = some y
  | [], r, e => by simp [mapO] at e; subst e; simp
  | x :: l, r, e => by
    simp only [mapO, Option.bind_eq_some_iff, Option.some.injEq] at e
    obtain ⟨y, hy, z, hz, rfl⟩ := e
    intro q hq
    rcases List.mem_cons.1 hq with rfl | hq
    · exact ⟨x, by simp, hy⟩
    · obtain ⟨x', h1, h2⟩ := mapO_mem hz q hq
      exact ⟨x', by simp [h1], h2⟩
theorem scs_low {l : List Value} {r : List AV} (e : mapO scAV l = some r) : AV.lows n r = true :=
  lows_all.2 fun v hv => by obtain ⟨x, _, hx⟩ := mapO_mem e v hv; exact scAV_low hx
theorem constAV_low {x : Value} {v : AV} (e : constAV x = some v) : v.low n = true := by
  unfold constAV at e
  split at e
  · simp only [Option.map_eq_some_iff] at e
    obtain ⟨r, hr, rfl⟩ := e
    exact scs_low hr
  · split at e
    · cases e; rfl
    · cases e
  · exact scAV_low e
theorem zeroCells_low {t : TypeId} {z : List AV} (e : zeroCells c.P t = some z) : AV.lows n z = true := by
  simp only [zeroCells, Option.bind_eq_some_iff] at e
  obtain ⟨_, _, _, _, e⟩ := e
  exact scs_low e
theorem aval_low {env : AEnv} (h : envLow n env) {x : Operand} {v : AV} (e : aval env x = some v) : v.low n = true := by
  cases x with
  | tmp t => exact h t v e
  | const u => exact constAV_low e
  | global g => cases e; rfl
  | func f => cases e; rfl
theorem cells_low {v : AV} (h : v.low n = true) : AV.lows n v.cells = true := by
  cases v <;> first | exact h | simp [AV.cells, AV.lows, h]
theorem lows_app {a b : List AV} (ha : AV.lows n a = true) (hb : AV.lows n b = true) : AV.lows n (a ++ b) = true :=
  lows_all.2 fun v hv => by rcases List.mem_append.1 hv with h | h; exact lows_all.1 ha v h; exact lows_all.1 hb v h
theorem afill_low {place : Nat → Option (Nat × Nat)} : ∀ {parts : List (Nat × AV)} {cells r : List AV}, AV.lows n cells = true → (∀ p ∈ parts, p.2.low n = true) → afill place cells parts = some r → AV.lows n r = true
  | [], cells, r, h, _, e => by simp [afill] at e; subst e; exact h
  | (i, v) :: rest, cells, r, h, hp, e => by
    simp only [afill, Option.bind_eq_some_iff] at e
    obtain ⟨p, _, e⟩ := e
    split at e
    · refine afill_low ?_ (fun q hq => hp q (by simp [hq])) e
      refine lows_all.2 fun u hu => ?_
      simp only [setSeg, List.mem_append, or_assoc] at hu
      rcases hu with hu | hu | hu
      · exact lows_all.1 h u (List.mem_of_mem_take hu)
      · exact lows_all.1 (cells_low (hp (i, v) (by simp))) u hu
      · exact lows_all.1 h u (List.mem_of_mem_drop hu)
    · cases e
theorem reps_low {z : List AV} (h : AV.lows n z = true) : ∀ k, AV.lows n (reps k z) = true
  | 0 => rfl
  | k + 1 => lows_app h (reps_low h k)
theorem parts_low {env : AEnv} (h : envLow n env) {ps : List (Nat × Operand)} {l : List (Nat × AV)} (e : mapO (fun p => (aval env p.2).map fun v => (p.1, v)) ps = some l) : ∀ p ∈ l, p.2.low n = true := by
  intro p hp
  obtain ⟨x, _, hx⟩ := mapO_mem e p hp
  simp only [Option.map_eq_some_iff] at hx
  obtain ⟨v, hv, rfl⟩ := hx
  exact aval_low h hv
theorem abuild_low {t : TypeId} {l : List (Nat × AV)} (h : ∀ p ∈ l, p.2.low n = true) {v : AV} (e : abuild c t l = some v) : v.low n = true := by
  simp only [abuild, Option.bind_eq_some_iff] at e
  obtain ⟨z, hz, d, _, e⟩ := e
  split at e
  · simp only [Option.bind_eq_some_iff, Option.map_eq_some_iff] at e
    obtain ⟨_, _, r, hr, rfl⟩ := e
    exact afill_low (zeroCells_low hz) h hr
  · simp only [Option.bind_eq_some_iff, Option.map_eq_some_iff] at e
    obtain ⟨_, _, r, hr, rfl⟩ := e
    exact afill_low (zeroCells_low hz) h hr
  · cases e

/-! ### one operation -/
def plainOp : Op → Bool
  | .move _ | .assign _ | .build .. | .alloc _ | .box .. | .buildSlice .. | .makeMap _ none | .makeSlice .. => true
  | _ => false
/-- puts a value, or puts one and makes one new thing; the same over each heap of that length -/
def PStep (c : Ctx) (env : AEnv) (o : Op) (H : AHeap) (r : ARes) (H' : AHeap) : Prop :=
  ∃ v, r = .val v ∧ ((H' = H ∧ v.low H.length = true ∧ ∀ K, aop c env o K = some (.val v, K)) ∨
    ∃ ob, H' = H ++ [some ob] ∧ v.low (H.length + 1) = true ∧ ob.low (H.length + 1) = true ∧ ∀ K : AHeap, K.length = H.length → aop c env o K = some (.val v, K ++ [some ob]))
theorem own_low : Loc.low (n + 1) (.own n) = true := by simp [Loc.low]
theorem plain_step {env : AEnv} {o : Op} (hp : plainOp o = true) (hl : envLow H.length env) {r : ARes} {H' : AHeap} (e : aop c env o H = some (r, H')) : PStep c env o H r H' := by
  have hl1 : ∀ {x : Operand} {v : AV}, aval env x = some v → v.low H.length = true := aval_low hl
  unfold plainOp at hp
  split at hp
  · rename_i x
    obtain ⟨⟨rfl, v, rfl⟩, _⟩ := isP_still (o := .move x) rfl e []
    refine ⟨v, rfl, .inl ⟨rfl, ?_, fun K => (isP_still (o := .move x) rfl e K).2⟩⟩
    simp only [aop, pair, Option.map_eq_some_iff, Prod.mk.injEq] at e
    obtain ⟨u, hu, hv, _⟩ := e
    cases hv; exact hl1 hu
  · rename_i x
    obtain ⟨⟨rfl, v, rfl⟩, _⟩ := isP_still (o := .assign x) rfl e []
    refine ⟨v, rfl, .inl ⟨rfl, ?_, fun K => (isP_still (o := .assign x) rfl e K).2⟩⟩
    simp only [aop, pair, Option.map_eq_some_iff, Prod.mk.injEq] at e
    obtain ⟨u, hu, hv, _⟩ := e
    cases hv; exact hl1 hu
  · rename_i t ps
    obtain ⟨⟨rfl, v, rfl⟩, _⟩ := isP_still (o := .build t ps) rfl e []
    refine ⟨v, rfl, .inl ⟨rfl, ?_, fun K => (isP_still (o := .build t ps) rfl e K).2⟩⟩
    simp only [aop, pair, Option.bind_eq_some_iff, Option.map_eq_some_iff, Prod.mk.injEq] at e
    obtain ⟨l, hls, u, hu, hv, _⟩ := e
    cases hv
    exact abuild_low (parts_low hl hls) hu
  · rename_i t
    simp only [aop, both, anew, Option.bind_eq_some_iff, Option.map_eq_some_iff] at e
    obtain ⟨z, hz, ⟨u, H1⟩, ⟨m, hm, e⟩, e2⟩ := e
    split at e
    · rename_i hc
      cases e; cases e2
      refine ⟨_, rfl, .inr ⟨.row t m z, rfl, own_low, zeroCells_low hz, fun K hK => ?_⟩⟩
      simp only [aop, both, anew, hz, hm, Option.bind_some, if_pos hc, fresh, hK, hnew, Option.map_some]
    · cases e
  · rename_i t x
    simp only [aop, both, anew, Option.bind_eq_some_iff, Option.map_eq_some_iff] at e
    obtain ⟨z, hz, ⟨u, H1⟩, ⟨m, hm, e⟩, e2⟩ := e
    split at e
    · rename_i hc
      cases e; cases e2
      refine ⟨_, rfl, .inr ⟨.row t m z.cells, rfl, own_low, AV.lows_mono (by omega) (cells_low (hl1 hz)), fun K hK => ?_⟩⟩
      simp only [aop, both, anew, hz, hm, Option.bind_some, if_pos hc, fresh, hK, hnew, Option.map_some]
    · cases e
  · rename_i t k ps
    simp only [aop, both, abuildSlice, Option.bind_eq_some_iff, Option.map_eq_some_iff] at e
    obtain ⟨l, hls, ⟨u, H1⟩, ⟨d, hd, e⟩, e2⟩ := e
    split at e
    · simp only [Option.bind_eq_some_iff] at e
      obtain ⟨m, hm, z, hz, e⟩ := e
      split at e
      · rename_i hc
        simp only [Option.map_eq_some_iff] at e
        obtain ⟨cs, hcs, e⟩ := e
        cases e; cases e2
        refine ⟨_, rfl, .inr ⟨.row _ m cs, rfl, own_low, AV.lows_mono (by omega) (afill_low (reps_low (zeroCells_low hz) _) (parts_low hl hls) hcs), fun K hK => ?_⟩⟩
        simp only [aop, both, abuildSlice, hls, hd, hm, hz, Option.bind_some, if_pos hc, hcs, fresh, hK, hnew, Option.map_some]
      · rename_i hc
        split at e
        · rename_i hc2
          cases e; cases e2
          refine ⟨_, rfl, .inr ⟨.row _ m [], rfl, own_low, rfl, fun K hK => ?_⟩⟩
          simp only [aop, both, abuildSlice, hls, hd, hm, hz, Option.bind_some, if_neg hc, if_pos hc2, fresh, hK, hnew, Option.map_some]
        · cases e
    · cases e
  · rename_i t
    simp only [aop, Option.some.injEq, Prod.mk.injEq] at e
    obtain ⟨rfl, rfl⟩ := e
    exact ⟨_, rfl, .inr ⟨.map [] 0, rfl, own_low, rfl, fun K hK => by simp only [aop, fresh, hK, hnew]⟩⟩
  · rename_i t a b
    simp only [aop, both, Option.bind_eq_some_iff, Option.map_eq_some_iff] at e
    obtain ⟨u, hu, v, hv, ⟨q, H1⟩, e, e2⟩ := e
    unfold amakeSlice at e
    split at e
    · rename_i k1 l k2 m
      simp only [Option.bind_eq_some_iff] at e
      obtain ⟨d, hd, e⟩ := e
      split at e
      · simp only [Option.bind_eq_some_iff] at e
        obtain ⟨i, hi, z, hz, e⟩ := e
        split at e
        · rename_i hc
          cases e; cases e2
          refine ⟨_, rfl, .inr ⟨.row _ i.size (reps m.toNat z), rfl, own_low, reps_low (zeroCells_low hz) _, fun K hK => ?_⟩⟩
          simp only [aop, both, hu, hv, amakeSlice, hd, hi, hz, Option.bind_some, if_pos hc, fresh, hK, hnew, Option.map_some]
        · cases e
      · cases e
    · cases e
  · cases hp

theorem aval_congr {e1 e2 : AEnv} (h : ∀ t, eget e1 t = eget e2 t) (x : Operand) : aval e1 x = aval e2 x := by
  cases x <;> first | exact h _ | rfl
theorem plain_congr {e1 e2 : AEnv} (h : ∀ t, eget e1 t = eget e2 t) {o : Op} (hp : plainOp o = true) (K : AHeap) : aop c e1 o K = aop c e2 o K := by
  unfold plainOp at hp
  split at hp
  case h_9 => cases hp
  all_goals simp only [aop, aval_congr h]

/-! ### the region -/
def plainOper (o : Oper) : Bool := plainOp o.op && o.guard.isNone
def plainOk (ops : List Oper) : Bool := edgesOk ops && (apartOk ops && ops.all plainOper)

theorem stepV_plain {call : Callee} {ops : List Oper} {o : Oper} (ho : plainOper o = true) {env : AEnv} {K : AHeap} : stepV c call ops o env K = (aop c env o.op K).bind fun p => match p.1 with
    | .val v => some (some v, p.2)
    | .skip => some (some .undef, p.2)
    | .call f args => (call f args p.2).bind fun q => some (some q.1, q.2) := by
  simp only [plainOper, Bool.and_eq_true, Option.isNone_iff_eq_none] at ho
  simp only [stepV, awanted, ho.2, Option.bind_some, if_true]
  cases aop c env o.op K with
  | none => rfl
  | some p => obtain ⟨r, K'⟩ := p; cases r <;> rfl

theorem eput_low {env : AEnv} (h : envLow n env) {v : AV} (hv : v.low n = true) (d : Option Tmp) : envLow n (eput env d (some v)) := by
  intro t u e
  cases d with
  | none => exact h t u e
  | some d =>
    by_cases hd : t = d
    · subst hd
      simp only [eput] at e
      split at e
      · simp only [eget] at e
        split at e
        · rw [Tr.get_same] at e
          split at e
          · cases e; exact hv
          · cases e
        · cases e
      · exact h _ _ e
    · rw [eput_ne (fun e' => hd (by cases e'; rfl))] at e
      exact h t u e
theorem trace_at {call : Callee} {ops : List Oper} : ∀ {r : List Oper} {env : AEnv} {H : AHeap} {t : List (Option AV × AHeap)}, trace c call ops r env H = some t → ∀ m o, r[m]? = some o →
    stepV c call ops o (envK (fun i => (r.getD i default).dst) (fun i => (t.getD i dft).1) (fun _ => true) env m) (heapsOf H t m) = some (t.getD m dft)
  | [], env, H, t, e, m, o, ho => by simp at ho
  | o' :: r, env, H, t, e, m, o, ho => by
    simp only [trace, Option.bind_eq_some_iff, Option.some.injEq] at e
    obtain ⟨p, hp, t', ht, rfl⟩ := e
    cases m with
    | zero => cases ho; exact hp
    | succ m =>
      have := trace_at ht m o (by simpa using ho)
      rw [envK_shift]
      simp only [List.getD_cons_succ, List.getD_cons_zero] at this ⊢
      cases m with
      | zero => exact this
      | succ k => exact this
theorem mask_mem {keep : Nat → Bool} {o : AObj} : ∀ {L : AHeap} {i : Nat}, some o ∈ mask keep i L → some o ∈ L
  | [], _, h => by simp [mask] at h
  | x :: r, i, h => by
    simp only [mask, List.mem_cons] at h
    rcases h with h | h
    · split at h
      · exact List.mem_cons.2 (.inl h)
      · cases h
    · exact List.mem_cons.2 (.inr (mask_mem h))
theorem mask_congr {k1 k2 : Nat → Bool} {L : AHeap} (h : ∀ i, i < L.length → k1 i = k2 i) : mask k1 0 L = mask k2 0 L := by
  apply List.ext_getElem?
  intro i
  rw [mask_get, mask_get]
  rcases Nat.lt_or_ge i L.length with hi | hi
  · rw [Nat.zero_add, h i hi]
  · rw [List.getElem?_eq_none hi]; rfl
theorem mask_app {k : Nat → Bool} {x : Option AObj} : ∀ {L : AHeap} {i : Nat}, mask k i (L ++ [x]) = mask k i L ++ [if k (i + L.length) then x else none]
  | [], i => by simp [mask]
  | y :: r, i => by
    simp only [List.cons_append, mask, mask_app (L := r), List.length_cons]
    rw [show i + 1 + r.length = i + (r.length + 1) by omega]

theorem plain_free {call : Callee} {ops : List Oper} (hok : plainOk ops = true) {env : AEnv} {t : List (Option AV × AHeap)} (ht : trace c call ops ops env H = some t) (hH : heapLow H.length H = true) (he : envLow H.length env) :
    freeOk c call ops env H t = true := by
  simp only [plainOk, Bool.and_eq_true, List.all_eq_true] at hok
  obtain ⟨h1, h2, h3⟩ := hok
  have hst := trace_at ht
  generalize hE : envK (fun i => (ops.getD i default).dst) (fun i => (t.getD i dft).1) (fun _ => true) env = ek at hst
  have hat : ∀ j, j < ops.length → ops[j]? = some (opsOf ops j) := fun j hj => by simp [opsOf, List.getD_eq_getElem?_getD, List.getElem?_eq_getElem hj]
  -- each step
  have step : ∀ j, j < ops.length → envLow (heapsOf H t j).length (ek j) → ∃ v, (t.getD j dft).1 = some v ∧ plainOper (opsOf ops j) = true ∧
      (((t.getD j dft).2 = heapsOf H t j ∧ v.low (heapsOf H t j).length = true ∧ ∀ K, aop c (ek j) (opsOf ops j).op K = some (.val v, K)) ∨
       ∃ ob, (t.getD j dft).2 = heapsOf H t j ++ [some ob] ∧ v.low ((heapsOf H t j).length + 1) = true ∧ ob.low ((heapsOf H t j).length + 1) = true ∧ ∀ K : AHeap, K.length = (heapsOf H t j).length → aop c (ek j) (opsOf ops j).op K = some (.val v, K ++ [some ob])) := by
    intro j hj hl
    have hp : plainOper (opsOf ops j) = true := h3 _ (List.mem_of_getElem? (hat j hj))
    have hs := hst j _ (hat j hj)
    rw [stepV_plain hp, Option.bind_eq_some_iff] at hs
    obtain ⟨⟨r, K⟩, ha, hs⟩ := hs
    obtain ⟨v, rfl, hv⟩ := plain_step (by simp only [plainOper, Bool.and_eq_true] at hp; exact hp.1) hl ha
    simp only [Option.some.injEq] at hs
    rw [← hs]
    exact ⟨v, rfl, hp, hv⟩
  have inv : ∀ j, j ≤ ops.length → envLow (heapsOf H t j).length (ek j) ∧ heapLow (heapsOf H t j).length (heapsOf H t j) = true := by
    intro j
    induction j with
    | zero => intro _; subst hE; exact ⟨he, hH⟩
    | succ j ih =>
      intro hj
      obtain ⟨i1, i2⟩ := ih (by omega)
      obtain ⟨v, e1, hp, hs⟩ := step j (by omega) i1
      have hek : ek (j + 1) = eput (ek j) (ops.getD j default).dst (some v) := by subst hE; simp only [envK, if_true, e1]
      have hhe : heapsOf H t (j + 1) = (t.getD j dft).2 := rfl
      rw [hek, hhe]
      rcases hs with ⟨e2, hv, _⟩ | ⟨ob, e2, hv, hob, _⟩
      · rw [e2]
        exact ⟨eput_low i1 hv _, i2⟩
      · rw [e2]
        simp only [List.length_append, List.length_cons, List.length_nil, Nat.zero_add]
        refine ⟨eput_low (fun t v e => AV.low_mono (by omega) (i1 t v e)) hv _, heapLow_iff.2 fun o ho => ?_⟩
        rcases List.mem_append.1 ho with ho | ho
        · exact AObj.low_mono (by omega) (heapLow_iff.1 i2 o ho)
        · simp at ho; subst ho; exact hob
  simp only [freeOk, Bool.and_eq_true, List.all_eq_true, List.mem_range]
  refine ⟨h1, List.all_eq_true.1 h2 |> fun h => by simpa only [apartOk, List.all_eq_true, List.mem_range] using h2, fun j hj => ?_⟩
  obtain ⟨i1, i2⟩ := inv j (by omega)
  obtain ⟨v, e1, hp, hs⟩ := step j hj i1
  have hhe : heapsOf H t (j + 1) = (t.getD j dft).2 := rfl
  have hop : plainOp (opsOf ops j).op = true := by simp only [plainOper, Bool.and_eq_true] at hp; exact hp.1
  have keep : ∀ (B : Nat → Bool) i, i < (heapsOf H t j).length → keepS (fun k => (heapsOf H t k).length) ops.length B i = keepS (fun k => (heapsOf H t k).length) ops.length (fun k => B k || Nat.beq k j) i := by
    intro B i hi
    rw [Bool.eq_iff_iff, keepS_iff, keepS_iff]
    constructor
    · rintro (h | ⟨k, a1, a2, a3⟩)
      · exact .inl h
      · exact .inr ⟨k, a1, by rw [a2]; rfl, a3⟩
    · rintro (h | ⟨k, a1, a2, a3⟩)
      · exact .inl h
      · refine .inr ⟨k, a1, ?_, a3⟩
        rw [Bool.or_eq_true] at a2
        rcases a2 with a2 | a2
        · exact a2
        · have := Nat.eq_of_beq_eq_true a2; subst this; omega
  simp only [freeAt, Bool.and_eq_true, hE]
  refine ⟨?_, ?_, ?_⟩
  · rw [hhe]
    rcases hs with ⟨e2, _, _⟩ | ⟨ob, e2, _, _, _⟩
    · rw [e2, List.take_of_length_le (Nat.le_refl _)]; exact heapEq_refl _
    · rw [e2, List.take_left' rfl]; exact heapEq_refl _
  · exact heapLow_iff.2 fun o ho => heapLow_iff.1 i2 o (mask_mem ho)
  · rw [stepV_plain hp, plain_congr (fun t => i1.eq t) hop, e1, hhe]
    rcases hs with ⟨e2, _, e3⟩ | ⟨ob, e2, _, _, e3⟩
    · rw [e3, e2, mask_congr (keep _)]
      simp only [Option.bind_some, sameStep, AV.beq_refl, heapEq_refl, Bool.and_self]
    · rw [e3 _ mask_len, e2, mask_app, mask_congr (keep _)]
      have : keepS (fun k => (heapsOf H t k).length) ops.length (fun k => ((Region.before ops.toArray).getD j 0).testBit k || Nat.beq k j) (0 + (heapsOf H t j).length) = true := by
        refine keepS_iff.2 (.inr ⟨j, hj, ?_, by omega, ?_⟩)
        · rw [Bool.or_eq_true]; exact .inr (Nat.beq_refl j)
        · rw [hhe, e2]; simp
      rw [this]
      simp only [Option.bind_some, sameStep, AV.beq_refl, heapEq_refl, Bool.and_self, if_true]

variable {κ : Kn} {T : FuncId → Spec} {env : AEnv} {K : AExit → AEnv → AHeap → Prop}
/-- a region that draws its order and only makes new things -/
theorem D.plain {id : Nat} {ops : Array Oper} {env' : AEnv} {H' : AHeap} (hs : plainOk ops.toList = true) (h : asteps κ.c (callT κ T) ops.toList ops.toList env H = some (env', H')) (k : K .normal env' H') : D κ (.region id ops true) env H K := by
  refine ⟨.normal, env', H', k, fun ρ w a hr hf he => ?_⟩
  obtain ⟨t, ht⟩ := trace_of_steps h
  have h2 := endOf_steps ht
  rw [h, Option.some.injEq] at h2
  exact free_sound κ.mixed _ (callT_ok T) id ops env env' H H' t ht (plain_free hs ht (hr.low hf) (he.low hf)) h2.symm ρ w a hr hf he
end Go.AM

/-
  REGIONS THAT DRAW THEIR ORDER, OVER ANY HEAP, WITH MOVERS IN THE TEXT'S ORDER (own work): what looks and is not ordered against a mover tells the same on each heap that comes up.
-/
namespace Go.AM
open Go.RowKit
set_option linter.unusedSimpArgs false
set_option linter.unusedVariables false

variable {c : Ctx} {base : Nat} {w0 w : World} {ρ : Pl} {H : AHeap} {n : Nat}

/-- what an operation reads is never put again behind it -/
def fixO (ops : List Oper) (j : Nat) (x : Operand) : Bool := match x with
  | .tmp a => (List.range ops.length).all fun i => Nat.blt i j || !((opsOf ops i).dst == some a)
  | _ => true
def freeJ (ops : List Oper) (j : Nat) : Bool := (opsOf ops j).guard.isNone && match (opsOf ops j).op with
  | .load _ x => fixO ops j x
  | .call { callee := .value (.func _), args := as_, .. } => as_.toList.all (fixO ops j)
  | _ => false
/-- F: who looks freely; ks: who may move -/
def chainOk (ops : List Oper) (F ks : List Nat) : Bool :=
  edgesOk ops && (apartOk ops && (F.all (freeJ ops) && (List.range ops.length).all fun i => quiet (opsOf ops i).op || (ks.contains i && (List.range ops.length).all fun j => Nat.beq i j || (inOrder (Region.before ops.toArray) i j || (isP (opsOf ops j).op || F.contains j)))))

theorem envK_after {dst : Nat → Option Tmp} {vals : Nat → Option AV} {env : AEnv} {a : Tmp} {j : Nat} : ∀ m, j ≤ m → (∀ i, j ≤ i → i < m → dst i ≠ some a) → eget (envK dst vals (fun _ => true) env m) a = eget (envK dst vals (fun _ => true) env j) a
  | 0, h, _ => by obtain rfl : j = 0 := by omega
                  rfl
  | m + 1, h, hd => by
    by_cases e : j = m + 1
    · subst e; rfl
    · rw [← envK_after (j := j) m (by omega) (fun i h1 h2 => hd i h1 (by omega))]
      simp only [envK, if_true]
      exact eput_ne (hd m (by omega) (by omega))
theorem avals_same {e1 e2 : AEnv} : ∀ {xs : List Operand}, (∀ x ∈ xs, aval e1 x = aval e2 x) → avals e1 xs = avals e2 xs
  | [], _ => rfl
  | x :: r, h => by
    have := avals_same (xs := r) (fun y hy => h y (by simp [hy]))
    simp only [avals, mapO] at this ⊢
    rw [h x (by simp), this]
theorem fix_eq {ops : List Oper} {vals : Nat → Option AV} {env : AEnv} {j : Nat} (hj : j < ops.length) {x : Operand} (h : fixO ops j x = true) :
    aval (envK (fun i => (ops.getD i default).dst) vals (fun _ => true) env ops.length) x = aval (envK (fun i => (ops.getD i default).dst) vals (fun _ => true) env j) x := by
  cases x with
  | tmp a =>
    simp only [fixO, List.all_eq_true, List.mem_range, Bool.or_eq_true, Bool.not_eq_true', beq_eq_false_iff_ne] at h
    refine envK_after ops.length (by omega) fun i h1 h2 => ?_
    rcases h i h2 with h3 | h3
    · rw [Nat.blt_eq] at h3; omega
    · exact h3
  | const v => rfl
  | global g => rfl
  | func f => rfl
theorem free_env {call : Callee} {ops : List Oper} {vals : Nat → Option AV} {env : AEnv} {j : Nat} (hj : j < ops.length) (h : freeJ ops j = true) (K : AHeap) :
    stepV c call ops (opsOf ops j) (envK (fun i => (ops.getD i default).dst) vals (fun _ => true) env ops.length) K = stepV c call ops (opsOf ops j) (envK (fun i => (ops.getD i default).dst) vals (fun _ => true) env j) K := by
  simp only [freeJ, Bool.and_eq_true, Option.isNone_iff_eq_none] at h
  obtain ⟨hg, h⟩ := h
  simp only [stepV, awanted, hg]
  congr 2
  funext w
  cases w with
  | false => rfl
  | true =>
    simp only [if_true]
    congr 1
    split at h
    · rename_i t x hop
      rw [hop]; simp only [aop, fix_eq hj h]
    · rename_i f as_ ts hop
      rw [hop]
      simp only [List.all_eq_true] at h
      simp only [aop, acallee, aval, Option.bind_some, List.nil_append, List.append_nil]
      rw [avals_same fun x hx => fix_eq hj (h x hx)]
    · cases h
theorem heap_trace {call : Callee} {ops : List Oper} {env : AEnv} {t : List (Option AV × AHeap)} (ht : trace c call ops ops env H = some t) : ∀ m, m ≤ ops.length → heapK (fun i => (t.getD i dft).2) (fun i => (moves ops H t).getD i false) (fun _ => true) H m = heapsOf H t m := by
  obtain ⟨f1, f2, _⟩ := trace_facts ht
  intro m
  induction m with
  | zero => intro _; rfl
  | succ m ih =>
    intro hm
    have hlt : m < ops.length := by omega
    have hst := f1 m (opsOf ops m) (by simp [opsOf, List.getD_eq_getElem?_getD, List.getElem?_eq_getElem hlt])
    have hmv := f2 m hlt
    simp only [heapK, Bool.true_and]
    split
    · rfl
    · rename_i hq
      have hq' : mvOf (ops.getD m default).op (heapK (fun i => (t.getD i dft).2) (fun i => (moves ops H t).getD i false) (fun _ => true) H m) (t.getD m dft).2 = false := by rw [← hmv]; simpa using hq
      exact (mvOf_same hq' hst).symm
theorem take_trace {call : Callee} {ops : List Oper} : ∀ {r : List Oper} {env : AEnv} {H : AHeap} {t : List (Option AV × AHeap)}, trace c call ops r env H = some t → ∀ m, m ≤ r.length → ∃ e, asteps c call ops (r.take m) env H = some (e, heapsOf H t m)
  | r, env, H, t, ht, 0, _ => ⟨env, rfl⟩
  | [], env, H, t, ht, m + 1, h => by simp at h
  | o :: r, env, H, t, ht, m + 1, h => by
    simp only [trace, Option.bind_eq_some_iff, Option.some.injEq] at ht
    obtain ⟨p, hp, t', ht, rfl⟩ := ht
    obtain ⟨e, he⟩ := take_trace ht m (by simpa using h)
    refine ⟨e, ?_⟩
    simp only [List.take_succ_cons, asteps, astep_stepV, hp, Option.map_some, Option.bind_some]
    rw [he]
    cases m <;> rfl

variable {κ : Kn} {T : FuncId → Spec} {env : AEnv} {K : AExit → AEnv → AHeap → Prop}
/-- a region that draws its order: Hs are the heaps behind those that may move -/
theorem D.chain {id : Nat} {ops : Array Oper} {env' : AEnv} {H' : AHeap} (F : List Nat) (ks : List (Nat × AHeap)) (hs : chainOk ops.toList F (ks.map (·.1)) = true)
    (h : asteps κ.c (callT κ T) ops.toList ops.toList env H = some (env', H'))
    (hk : ∀ p ∈ ks, ∃ e, asteps κ.c (callT κ T) ops.toList (ops.toList.take (p.1 + 1)) env H = some (e, p.2))
    (hF : ∀ j ∈ F, ∃ v, ∀ X ∈ H :: ks.map (·.2), stepV κ.c (callT κ T) ops.toList (opsOf ops.toList j) env' X = some (v, X))
    (k : K .normal env' H') : D κ (.region id ops true) env H K := by
  refine ⟨.normal, env', H', k, fun ρ w a hr hf he => ?_⟩
  obtain ⟨t, ht⟩ := trace_of_steps h
  refine order_sound κ.mixed _ (callT_ok T) id ops env env' H H' ?_ h ρ w a hr hf he
  simp only [drawOk, ht]
  generalize ops.toList = os at *
  simp only [chainOk, Bool.and_eq_true, List.all_eq_true, List.mem_range] at hs
  obtain ⟨h1, h2, h3, h4⟩ := hs
  obtain ⟨f1, f2, f3⟩ := trace_facts ht
  have hE : envK (fun i => (os.getD i default).dst) (fun i => (t.getD i dft).1) (fun _ => true) env os.length = env' := by
    rw [f3, Option.some.injEq, Prod.mk.injEq] at h; exact h.1
  have hheap := heap_trace ht
  have hat : ∀ j, j < os.length → os[j]? = some (opsOf os j) := fun j hj => by simp [opsOf, List.getD_eq_getElem?_getD, List.getElem?_eq_getElem hj]
  -- each heap that comes up is one of those
  have hin : ∀ m, m ≤ os.length → heapsOf H t m ∈ H :: ks.map (·.2) := by
    intro m
    induction m with
    | zero => intro _; exact List.mem_cons_self
    | succ m ih =>
      intro hm
      have hq := h4 m (by omega)
      simp only [Bool.or_eq_true, Bool.and_eq_true] at hq
      rcases hq with hq | ⟨hq, _⟩
      · have hst := f1 m _ (hat m (by omega))
        rw [hheap m (by omega)] at hst
        have : mvOf (opsOf os m).op (heapsOf H t m) (t.getD m dft).2 = false := by simp [mvOf, hq]
        have := mvOf_same this hst
        show (t.getD m dft).2 ∈ _
        rw [this]; exact ih (by omega)
      · have hq' : m ∈ ks.map (·.1) := by simpa using hq
        obtain ⟨p, hp, rfl⟩ := List.mem_map.1 hq'
        obtain ⟨e, hpre⟩ := hk p hp
        obtain ⟨e2, hpre2⟩ := take_trace ht (p.1 + 1) hm
        rw [hpre, Option.some.injEq, Prod.mk.injEq] at hpre2
        rw [← hpre2.2]
        exact List.mem_cons_of_mem _ (List.mem_map_of_mem hp)
  simp only [regOk, Bool.and_eq_true]
  refine ⟨h1, h2, List.all_eq_true.2 fun i hi => ?_⟩
  rw [List.mem_range] at hi
  have hq := h4 i hi
  simp only [Bool.or_eq_true, Bool.and_eq_true] at hq ⊢
  rcases hq with hq | ⟨_, hq⟩
  · exact .inl (by rw [moves_quiet os H t i hq]; rfl)
  · refine .inr (List.all_eq_true.2 fun j hj => ?_)
    have hj' := List.mem_range.1 hj
    have hq := List.all_eq_true.1 hq j hj
    simp only [Bool.or_eq_true] at hq ⊢
    rcases hq with e | e | e | e
    · exact .inl e
    · exact .inr (.inl e)
    · refine .inr (.inr ?_)
      simp only [still, moves_quiet os H t j (isP_quiet e), e, Bool.not_false, Bool.true_or, Bool.true_and]
    · refine .inr (.inr ?_)
      have hjF : j ∈ F := by simpa using e
      obtain ⟨v, hv⟩ := hF j hjF
      have hv2 : ∀ X ∈ H :: ks.map (·.2), stepV κ.c (callT κ T) os (opsOf os j) (envK (fun i => (os.getD i default).dst) (fun i => (t.getD i dft).1) (fun _ => true) env j) X = some (v, X) := by
        intro X hX
        rw [← free_env hj' (h3 j hjF) X, hE]
        exact hv X hX
      have hst := f1 j _ (hat j hj')
      rw [hheap j (by omega), hv2 _ (hin j (by omega)), Option.some.injEq] at hst
      have hmv : (moves os H t).getD j false = false := by
        rw [f2 j hj', hheap j (by omega), ← hst]
        exact mvOf_self _ _
      simp only [still, hmv, Bool.not_false, Bool.true_and]
      rw [Bool.or_eq_true]
      refine .inr (List.all_eq_true.2 fun k hk' => ?_)
      rw [List.mem_range] at hk'
      have hsame : sameStep (some (v, heapsOf H t k)) v (heapsOf H t k) = true := by cases v <;> simp [sameStep, AV.beq_refl]
      rw [Bool.or_eq_true]
      refine .inr ?_
      rw [hheap k (by omega), hv2 _ (hin k (by omega)), ← hst]
      exact hsame
end Go.AM

/-
  WALKS THAT GO BY THEMSELVES (own work): one rule for regions of each plain kind, conditions that are settled, arithmetic that omega settles.
-/
namespace Go.AM
open Go.RowKit
set_option linter.unusedSimpArgs false
set_option linter.unusedVariables false
variable {κ : Kn} {T : FuncId → Spec} {env : AEnv} {H : AHeap} {K : AExit → AEnv → AHeap → Prop} {c : Ctx}

/-- may a region be run in the text's order? -/
def easy (ops : List Oper) (dr : Bool) : Bool := !dr || (staticOk ops || plainOk ops)
theorem D.rg {id : Nat} {ops : Array Oper} {dr : Bool} {env' : AEnv} {H' : AHeap} (hs : easy ops.toList dr = true) (h : asteps κ.c (callT κ T) ops.toList ops.toList env H = some (env', H')) (k : K .normal env' H') : D κ (.region id ops dr) env H K := by
  cases dr with
  | false => exact D.region h k
  | true =>
    simp only [easy, Bool.not_true, Bool.false_or, Bool.or_eq_true] at hs
    rcases hs with hs | hs
    · exact D.draw hs h k
    · exact D.plain hs h k
theorem D.rgC {id : Nat} {ops : Array Oper} {dr : Bool} {env' : AEnv} {H' : AHeap} {f : FuncId} {as_ : List AV} {H0 : AHeap} {r : AV × AHeap} (_ : callT κ T f as_ H0 = some r) (hs : easy ops.toList dr = true) (h : asteps κ.c (callT κ T) ops.toList ops.toList env H = some (env', H')) (k : K .normal env' H') : D κ (.region id ops dr) env H K := D.rg hs h k
theorem D.ct {q : Operand} {a b : Code} (hq : aval env q = some (.bool true)) (h : D κ a env H K) : D κ (.cond q a b) env H K := D.cond hq (fun _ => h) (fun e => by cases e)
theorem D.cf {q : Operand} {a b : Code} (hq : aval env q = some (.bool false)) (h : D κ b env H K) : D κ (.cond q a b) env H K := D.cond hq (fun e => by cases e) (fun _ => h)
theorem D.ct2 {q : Operand} {a b : Code} {t : Bool} (hq : aval env q = some (.bool t)) (ht : t = true) (h : D κ a env H K) : D κ (.cond q a b) env H K := D.ct (ht ▸ hq) h
theorem D.cf2 {q : Operand} {a b : Code} {t : Bool} (hq : aval env q = some (.bool t)) (ht : t = false) (h : D κ b env H K) : D κ (.cond q a b) env H K := D.cf (ht ▸ hq) h
/-- the same as 'cut', where the code has been opened already -/
theorem D.cut2 {a b : Code} (P : AEnv → AHeap → Prop) (h : D κ a env H (Ks κ b (Kc P))) (k : ∀ env' H', P env' H' → K .normal env' H') : D κ a env H (Ks κ b K) :=
  h.mono fun e env' H' hp => by
    cases e with
    | normal => exact D.cut P hp k
    | _ => exact hp.elim
theorem Kf_ret {rs : List ResultVar} {Q : AV → AHeap → Prop} {v : AV} (h : resOf c rs env H = some v) (hq : Q v H) : Kf c rs Q .ret env H := ⟨v, h, hq⟩
theorem Kf_nrm {rs : List ResultVar} {Q : AV → AHeap → Prop} {v : AV} (h : resOf c rs env H = some v) (hq : Q v H) : Kf c rs Q .normal env H := ⟨v, h, hq⟩
/-- arithmetic, by its bounds -/
theorem wrap_in {x : Int} (h1 : -9223372036854775808 ≤ x) (h2 : x < 9223372036854775808) : IntKind.i64.wrap x = x := by
  unfold IntKind.wrap
  simp only [IntKind.bits, IntKind.signed, Bool.true_and]
  split <;> rename_i h <;> simp at h <;> omega
theorem beq_yes {a b : Int} (h : a = b) : (a == b) = true := by simpa using h
theorem beq_no {a b : Int} (h : ¬ a = b) : (a == b) = false := by simpa using h
theorem bne_yes {a b : Int} (h : ¬ a = b) : (a != b) = true := by simpa using h
theorem bne_no {a b : Int} (h : a = b) : (a != b) = false := by simpa using h
theorem lt_yes {a b : Int} (h : a < b) : decide (a < b) = true := decide_eq_true h
theorem lt_no {a b : Int} (h : ¬ a < b) : decide (a < b) = false := decide_eq_false h
theorem le_yes {a b : Int} (h : a ≤ b) : decide (a ≤ b) = true := decide_eq_true h
theorem le_no {a b : Int} (h : ¬ a ≤ b) : decide (a ≤ b) = false := decide_eq_false h
theorem ld_own {i off : Nat} {t t' e : Nat} {cs : List AV} {v : AV} (h : hat H i = some (.row t' e cs)) (hv : cs[off]? = some v) (ha : isAggT c.P t = some false) : aload c H t (.ptr (.own i) off) = some v := by
  simp only [aload, ha, Option.bind_some, rd_own h, hv, Option.map_some]
  rfl
theorem ix_own {c : Ctx} {t e : TypeId} {b n i z : Nat} {k : IntKind} (ht : c.P.underlying t = some (.slice e)) (hs : szOf c.P e = some z) (hz : 0 < z) (hi : i < n) : aindexAddr c t (.slice (.own b) z 0 n) (.int k (i : Int)) = some (.ptr (.own b) (i * z)) := by
  simp only [aindexAddr, ht, Option.bind_some, hs]
  rw [if_pos ⟨by simp, by omega, by omega⟩]
  simp
/-- all rules for operations in one -/
theorem rulesA : type_of% (And.intro @s_nil <| And.intro @s_go <| And.intro @s_if <| And.intro @n_val <| And.intro @n_skip <| And.intro @n_call <| And.intro @n_back <| And.intro @i_tt <| And.intro @i_ff <| And.intro @i_tf <| And.intro @i_ft <| And.intro @i_n <| And.intro @p_some <| And.intro @b_some <| And.intro @d_some <| And.intro @v_tmp <| And.intro @v_const <| And.intro @v_func <| And.intro @v_glob <| And.intro @vs_nil <| And.intro @vs_cons <| And.intro @o_move <| And.intro @o_assign <| And.intro @o_pick <| And.intro @o_alloc <| And.intro @o_box <| And.intro @o_build <| And.intro @o_bslice <| And.intro @o_load <| And.intro @o_store <| And.intro @o_nil <| And.intro @o_bin <| And.intro @o_un <| And.intro @o_conv <| And.intro @o_mkfn <| And.intro @o_mkmap <| And.intro @o_mksl <| And.intro @o_slice <| And.intro @o_fa <| And.intro @o_field <| And.intro @o_ia <| And.intro @o_idx <| And.intro @o_look <| And.intro @o_mapup <| And.intro @o_ext <| And.intro @o_call <| And.intro @o_built <| And.intro @o_inv <| And.intro @o_mkif <| And.intro @o_ta <| And.intro @o_ment <| And.intro @o_est <| And.intro @bu_len <| And.intro @bu_app <| And.intro @app_sl <| And.intro @bu_copy <| And.intro @bu_del <| And.intro @bu_max <| And.intro @bu_min <| And.intro @E_put <| And.intro @E_put0 <| And.intro @E_get <| And.intro @hat_nn <| And.intro @cells_bool <| And.intro @one_bool <| And.intro @cells_int <| And.intro @one_int <| And.intro @cells_str <| And.intro @one_str <| And.intro @cells_nilptr <| And.intro @one_nilptr <| And.intro @cells_ptr <| And.intro @one_ptr <| And.intro @cells_nilslice <| And.intro @one_nilslice <| And.intro @cells_slice <| And.intro @one_slice <| And.intro @cells_nilmap <| And.intro @one_nilmap <| And.intro @cells_map <| And.intro @one_map <| And.intro @cells_nilfunc <| And.intro @one_nilfunc <| And.intro @cells_func <| And.intro @one_func <| And.intro @cells_niliface <| And.intro @one_niliface <| And.intro @cells_iface <| And.intro @one_iface <| And.intro @cells_agg <| And.intro @ob_ft <| And.intro @ob_tf @ob_n) := And.intro @s_nil <| And.intro @s_go <| And.intro @s_if <| And.intro @n_val <| And.intro @n_skip <| And.intro @n_call <| And.intro @n_back <| And.intro @i_tt <| And.intro @i_ff <| And.intro @i_tf <| And.intro @i_ft <| And.intro @i_n <| And.intro @p_some <| And.intro @b_some <| And.intro @d_some <| And.intro @v_tmp <| And.intro @v_const <| And.intro @v_func <| And.intro @v_glob <| And.intro @vs_nil <| And.intro @vs_cons <| And.intro @o_move <| And.intro @o_assign <| And.intro @o_pick <| And.intro @o_alloc <| And.intro @o_box <| And.intro @o_build <| And.intro @o_bslice <| And.intro @o_load <| And.intro @o_store <| And.intro @o_nil <| And.intro @o_bin <| And.intro @o_un <| And.intro @o_conv <| And.intro @o_mkfn <| And.intro @o_mkmap <| And.intro @o_mksl <| And.intro @o_slice <| And.intro @o_fa <| And.intro @o_field <| And.intro @o_ia <| And.intro @o_idx <| And.intro @o_look <| And.intro @o_mapup <| And.intro @o_ext <| And.intro @o_call <| And.intro @o_built <| And.intro @o_inv <| And.intro @o_mkif <| And.intro @o_ta <| And.intro @o_ment <| And.intro @o_est <| And.intro @bu_len <| And.intro @bu_app <| And.intro @app_sl <| And.intro @bu_copy <| And.intro @bu_del <| And.intro @bu_max <| And.intro @bu_min <| And.intro @E_put <| And.intro @E_put0 <| And.intro @E_get <| And.intro @hat_nn <| And.intro @cells_bool <| And.intro @one_bool <| And.intro @cells_int <| And.intro @one_int <| And.intro @cells_str <| And.intro @one_str <| And.intro @cells_nilptr <| And.intro @one_nilptr <| And.intro @cells_ptr <| And.intro @one_ptr <| And.intro @cells_nilslice <| And.intro @one_nilslice <| And.intro @cells_slice <| And.intro @one_slice <| And.intro @cells_nilmap <| And.intro @one_nilmap <| And.intro @cells_map <| And.intro @one_map <| And.intro @cells_nilfunc <| And.intro @one_nilfunc <| And.intro @cells_func <| And.intro @one_func <| And.intro @cells_niliface <| And.intro @one_niliface <| And.intro @cells_iface <| And.intro @one_iface <| And.intro @cells_agg <| And.intro @ob_ft <| And.intro @ob_tf @ob_n
/-- rules on lists, truth values -/
theorem rulesB : type_of% (And.intro @Option.bind_some.{0,0} <| And.intro @Option.bind_none.{0,0} <| And.intro @Option.map_some.{0,0} <| And.intro @Option.isSome_some.{0} <| And.intro @if_true.{1} <| And.intro @if_false.{1} <| And.intro @List.getElem?_toArray.{0} <| And.intro @List.getElem?_cons_zero.{0} <| And.intro @List.getElem?_cons_succ.{0} <| And.intro @beq_self_eq_true.{0} <| And.intro @Bool.not_true <| And.intro @Bool.not_false <| And.intro @List.length_cons.{0} <| And.intro @List.length_nil.{0} <| And.intro @Bool.false_eq_true <| And.intro @decide_true <| And.intro @decide_false <| And.intro @and_self <| And.intro @and_true <| And.intro @true_and <| And.intro @List.all_cons.{0} <| And.intro @List.all_nil.{0} <| And.intro @Bool.and_self <| And.intro @Bool.and_true <| And.intro @List.take_zero.{0} <| And.intro @List.take_succ_cons.{0} <| And.intro @List.drop_zero.{0} <| And.intro @List.drop_succ_cons.{0} <| And.intro @List.nil_append.{0} <| And.intro @List.cons_append.{0} <| And.intro @Nat.zero_add <| And.intro @Nat.le_refl @bne_self_eq_false.{0}) := And.intro @Option.bind_some.{0,0} <| And.intro @Option.bind_none.{0,0} <| And.intro @Option.map_some.{0,0} <| And.intro @Option.isSome_some.{0} <| And.intro @if_true.{1} <| And.intro @if_false.{1} <| And.intro @List.getElem?_toArray.{0} <| And.intro @List.getElem?_cons_zero.{0} <| And.intro @List.getElem?_cons_succ.{0} <| And.intro @beq_self_eq_true.{0} <| And.intro @Bool.not_true <| And.intro @Bool.not_false <| And.intro @List.length_cons.{0} <| And.intro @List.length_nil.{0} <| And.intro @Bool.false_eq_true <| And.intro @decide_true <| And.intro @decide_false <| And.intro @and_self <| And.intro @and_true <| And.intro @true_and <| And.intro @List.all_cons.{0} <| And.intro @List.all_nil.{0} <| And.intro @Bool.and_self <| And.intro @Bool.and_true <| And.intro @List.take_zero.{0} <| And.intro @List.take_succ_cons.{0} <| And.intro @List.drop_zero.{0} <| And.intro @List.drop_succ_cons.{0} <| And.intro @List.nil_append.{0} <| And.intro @List.cons_append.{0} <| And.intro @Nat.zero_add <| And.intro @Nat.le_refl @bne_self_eq_false
/-- rules on numbers, by their bounds -/
theorem rulesC : type_of% (And.intro @wrap_in <| And.intro @beq_yes <| And.intro @beq_no <| And.intro @bne_yes <| And.intro @bne_no <| And.intro @lt_yes <| And.intro @lt_no <| And.intro @le_yes <| And.intro @le_no <| And.intro @gt_iff_lt.{0} @ge_iff_le.{0}) := And.intro @wrap_in <| And.intro @beq_yes <| And.intro @beq_no <| And.intro @bne_yes <| And.intro @bne_no <| And.intro @lt_yes <| And.intro @lt_no <| And.intro @le_yes <| And.intro @le_no <| And.intro @gt_iff_lt.{0} @ge_iff_le
/-- where code goes on -/
theorem rulesK : type_of% (And.intro @Ks_n <| And.intro @Ks_e <| And.intro @Ks_r <| And.intro @Kb_n <| And.intro @Kb_e <| And.intro @Kb_r <| And.intro @Kl_n <| And.intro @Kl_e <| And.intro @Kl_r <| And.intro @Kf_r <| And.intro @Kf_n <| And.intro @Kc_n <| And.intro @Kx_n <| And.intro @Kx_e <| And.intro @Kx_r <| And.intro @Kb_ne <| And.intro @ne_eq.{1} @not_false_eq_true) := And.intro @Ks_n <| And.intro @Ks_e <| And.intro @Ks_r <| And.intro @Kb_n <| And.intro @Kb_e <| And.intro @Kb_r <| And.intro @Kl_n <| And.intro @Kl_e <| And.intro @Kl_r <| And.intro @Kf_r <| And.intro @Kf_n <| And.intro @Kc_n <| And.intro @Kx_n <| And.intro @Kx_e <| And.intro @Kx_r <| And.intro @Kb_ne <| And.intro @ne_eq.{1} @not_false_eq_true
/-- rules on values -/
theorem rulesV : type_of% (And.intro @v_tmp <| And.intro @v_const <| And.intro @E_get <| And.intro @if_true.{1} @if_false.{1}) := And.intro @v_tmp <| And.intro @v_const <| And.intro @E_get <| And.intro @if_true.{1} @if_false
end Go.AM

/- Facts on the types of this program, and the place where a walk stands (own work). -/
namespace Go.Proofs.Ytecfofmndpgnjaa.sy
open Go.AM
theorem mixed : Try.prog.follows .mixedOrders = true := by kernel_rfl
noncomputable def kn (G : List Nat → Option (List AV)) (base : Nat) (w0 : World) : Kn := ⟨⟨Try.prog, G⟩, base, w0, mixed⟩
theorem kn_P (G : List Nat → Option (List AV)) (base : Nat) (w0 : World) : (kn G base w0).c.P = Try.prog := rfl
theorem sz3 : szOf Try.prog 3 = some 1 := by kernel_rfl
theorem ag3 : isAggT Try.prog 3 = some false := by kernel_rfl
theorem zc3 : zeroCells Try.prog 3 = some [.int .i64 0] := by kernel_rfl
theorem za3 : zeroAV Try.prog 3 = some (.int .i64 0) := by kernel_rfl
theorem in3 : infoSB Try.prog 3 = some (1, 8) := by kernel_rfl
theorem sz4 : szOf Try.prog 4 = some 1 := by kernel_rfl
theorem ag4 : isAggT Try.prog 4 = some false := by kernel_rfl
theorem zc4 : zeroCells Try.prog 4 = some [.bool false] := by kernel_rfl
theorem za4 : zeroAV Try.prog 4 = some (.bool false) := by kernel_rfl
theorem in4 : infoSB Try.prog 4 = some (1, 1) := by kernel_rfl
theorem sz5 : szOf Try.prog 5 = some 1 := by kernel_rfl
theorem ag5 : isAggT Try.prog 5 = some false := by kernel_rfl
theorem zc5 : zeroCells Try.prog 5 = some [.int .u8 0] := by kernel_rfl
theorem za5 : zeroAV Try.prog 5 = some (.int .u8 0) := by kernel_rfl
theorem in5 : infoSB Try.prog 5 = some (1, 1) := by kernel_rfl
theorem sz20 : szOf Try.prog 20 = some 1 := by kernel_rfl
theorem ag20 : isAggT Try.prog 20 = some false := by kernel_rfl
theorem zc20 : zeroCells Try.prog 20 = some [.niliface] := by kernel_rfl
theorem za20 : zeroAV Try.prog 20 = some (.niliface) := by kernel_rfl
theorem in20 : infoSB Try.prog 20 = some (1, 16) := by kernel_rfl
theorem sz22 : szOf Try.prog 22 = some 2 := by kernel_rfl
theorem ag22 : isAggT Try.prog 22 = some true := by kernel_rfl
theorem zc22 : zeroCells Try.prog 22 = some [.int .u8 0, .int .u8 0] := by kernel_rfl
theorem za22 : zeroAV Try.prog 22 = some (.agg [.int .u8 0, .int .u8 0]) := by kernel_rfl
theorem in22 : infoSB Try.prog 22 = some (2, 2) := by kernel_rfl
theorem sz24 : szOf Try.prog 24 = some 1 := by kernel_rfl
theorem ag24 : isAggT Try.prog 24 = some false := by kernel_rfl
theorem zc24 : zeroCells Try.prog 24 = some [.nilptr] := by kernel_rfl
theorem za24 : zeroAV Try.prog 24 = some (.nilptr) := by kernel_rfl
theorem in24 : infoSB Try.prog 24 = some (1, 8) := by kernel_rfl
theorem sz26 : szOf Try.prog 26 = some 1 := by kernel_rfl
theorem ag26 : isAggT Try.prog 26 = some false := by kernel_rfl
theorem zc26 : zeroCells Try.prog 26 = some [.int .i64 0] := by kernel_rfl
theorem za26 : zeroAV Try.prog 26 = some (.int .i64 0) := by kernel_rfl
theorem in26 : infoSB Try.prog 26 = some (1, 8) := by kernel_rfl
theorem sz28 : szOf Try.prog 28 = some 1 := by kernel_rfl
theorem ag28 : isAggT Try.prog 28 = some false := by kernel_rfl
theorem zc28 : zeroCells Try.prog 28 = some [.nilslice] := by kernel_rfl
theorem za28 : zeroAV Try.prog 28 = some (.nilslice) := by kernel_rfl
theorem in28 : infoSB Try.prog 28 = some (1, 24) := by kernel_rfl
theorem sz35 : szOf Try.prog 35 = some 11 := by kernel_rfl
theorem ag35 : isAggT Try.prog 35 = some true := by kernel_rfl
theorem zc35 : zeroCells Try.prog 35 = some [.int .i64 0, .int .i64 0, .int .i64 0, .bool false, .bool false, .bool false, .bool false, .int .i64 0, .int .i64 0, .bool false, .int .i64 0] := by kernel_rfl
theorem za35 : zeroAV Try.prog 35 = some (.agg [.int .i64 0, .int .i64 0, .int .i64 0, .bool false, .bool false, .bool false, .bool false, .int .i64 0, .int .i64 0, .bool false, .int .i64 0]) := by kernel_rfl
theorem in35 : infoSB Try.prog 35 = some (11, 64) := by kernel_rfl
theorem sz40 : szOf Try.prog 40 = some 1 := by kernel_rfl
theorem ag40 : isAggT Try.prog 40 = some false := by kernel_rfl
theorem zc40 : zeroCells Try.prog 40 = some [.nilslice] := by kernel_rfl
theorem za40 : zeroAV Try.prog 40 = some (.nilslice) := by kernel_rfl
theorem in40 : infoSB Try.prog 40 = some (1, 24) := by kernel_rfl
theorem sz43 : szOf Try.prog 43 = some 1 := by kernel_rfl
theorem ag43 : isAggT Try.prog 43 = some false := by kernel_rfl
theorem zc43 : zeroCells Try.prog 43 = some [.nilslice] := by kernel_rfl
theorem za43 : zeroAV Try.prog 43 = some (.nilslice) := by kernel_rfl
theorem in43 : infoSB Try.prog 43 = some (1, 24) := by kernel_rfl
theorem sz44 : szOf Try.prog 44 = some 1 := by kernel_rfl
theorem ag44 : isAggT Try.prog 44 = some false := by kernel_rfl
theorem zc44 : zeroCells Try.prog 44 = some [.nilptr] := by kernel_rfl
theorem za44 : zeroAV Try.prog 44 = some (.nilptr) := by kernel_rfl
theorem in44 : infoSB Try.prog 44 = some (1, 8) := by kernel_rfl
theorem sz45 : szOf Try.prog 45 = some 1 := by kernel_rfl
theorem ag45 : isAggT Try.prog 45 = some false := by kernel_rfl
theorem zc45 : zeroCells Try.prog 45 = some [.nilslice] := by kernel_rfl
theorem za45 : zeroAV Try.prog 45 = some (.nilslice) := by kernel_rfl
theorem in45 : infoSB Try.prog 45 = some (1, 24) := by kernel_rfl
theorem sz47 : szOf Try.prog 47 = some 2 := by kernel_rfl
theorem ag47 : isAggT Try.prog 47 = some true := by kernel_rfl
theorem zc47 : zeroCells Try.prog 47 = some [.int .i64 0, .nilslice] := by kernel_rfl
theorem za47 : zeroAV Try.prog 47 = some (.agg [.int .i64 0, .nilslice]) := by kernel_rfl
theorem in47 : infoSB Try.prog 47 = some (2, 32) := by kernel_rfl
theorem sz49 : szOf Try.prog 49 = some 5 := by kernel_rfl
theorem ag49 : isAggT Try.prog 49 = some true := by kernel_rfl
theorem zc49 : zeroCells Try.prog 49 = some [.int .i64 0, .int .i64 0, .int .i64 0, .int .i64 0, .bool false] := by kernel_rfl
theorem za49 : zeroAV Try.prog 49 = some (.agg [.int .i64 0, .int .i64 0, .int .i64 0, .int .i64 0, .bool false]) := by kernel_rfl
theorem in49 : infoSB Try.prog 49 = some (5, 40) := by kernel_rfl
theorem sz54 : szOf Try.prog 54 = some 11 := by kernel_rfl
theorem ag54 : isAggT Try.prog 54 = some true := by kernel_rfl
theorem zc54 : zeroCells Try.prog 54 = some [.int .i64 0, .int .i64 0, .int .i64 0, .bool false, .bool false, .bool false, .bool false, .int .i64 0, .int .i64 0, .bool false, .int .i64 0] := by kernel_rfl
theorem za54 : zeroAV Try.prog 54 = some (.agg [.int .i64 0, .int .i64 0, .int .i64 0, .bool false, .bool false, .bool false, .bool false, .int .i64 0, .int .i64 0, .bool false, .int .i64 0]) := by kernel_rfl
theorem in54 : infoSB Try.prog 54 = some (11, 64) := by kernel_rfl
theorem sz58 : szOf Try.prog 58 = some 1 := by kernel_rfl
theorem ag58 : isAggT Try.prog 58 = some false := by kernel_rfl
theorem zc58 : zeroCells Try.prog 58 = some [.nilslice] := by kernel_rfl
theorem za58 : zeroAV Try.prog 58 = some (.nilslice) := by kernel_rfl
theorem in58 : infoSB Try.prog 58 = some (1, 24) := by kernel_rfl
theorem sz59 : szOf Try.prog 59 = some 1 := by kernel_rfl
theorem ag59 : isAggT Try.prog 59 = some false := by kernel_rfl
theorem zc59 : zeroCells Try.prog 59 = some [.nilslice] := by kernel_rfl
theorem za59 : zeroAV Try.prog 59 = some (.nilslice) := by kernel_rfl
theorem in59 : infoSB Try.prog 59 = some (1, 24) := by kernel_rfl
theorem sz62 : szOf Try.prog 62 = some 1 := by kernel_rfl
theorem ag62 : isAggT Try.prog 62 = some false := by kernel_rfl
theorem zc62 : zeroCells Try.prog 62 = some [.nilptr] := by kernel_rfl
theorem za62 : zeroAV Try.prog 62 = some (.nilptr) := by kernel_rfl
theorem in62 : infoSB Try.prog 62 = some (1, 8) := by kernel_rfl
theorem sz64 : szOf Try.prog 64 = some 1 := by kernel_rfl
theorem ag64 : isAggT Try.prog 64 = some false := by kernel_rfl
theorem zc64 : zeroCells Try.prog 64 = some [.nilslice] := by kernel_rfl
theorem za64 : zeroAV Try.prog 64 = some (.nilslice) := by kernel_rfl
theorem in64 : infoSB Try.prog 64 = some (1, 24) := by kernel_rfl
theorem sz66 : szOf Try.prog 66 = some 2 := by kernel_rfl
theorem ag66 : isAggT Try.prog 66 = some true := by kernel_rfl
theorem zc66 : zeroCells Try.prog 66 = some [.nilptr, .nilslice] := by kernel_rfl
theorem za66 : zeroAV Try.prog 66 = some (.agg [.nilptr, .nilslice]) := by kernel_rfl
theorem in66 : infoSB Try.prog 66 = some (2, 32) := by kernel_rfl
theorem sz69 : szOf Try.prog 69 = some 1 := by kernel_rfl
theorem ag69 : isAggT Try.prog 69 = some false := by kernel_rfl
theorem zc69 : zeroCells Try.prog 69 = some [.nilptr] := by kernel_rfl
theorem za69 : zeroAV Try.prog 69 = some (.nilptr) := by kernel_rfl
theorem in69 : infoSB Try.prog 69 = some (1, 8) := by kernel_rfl
theorem sz75 : szOf Try.prog 75 = some 1 := by kernel_rfl
theorem ag75 : isAggT Try.prog 75 = some false := by kernel_rfl
theorem zc75 : zeroCells Try.prog 75 = some [.nilmap] := by kernel_rfl
theorem za75 : zeroAV Try.prog 75 = some (.nilmap) := by kernel_rfl
theorem in75 : infoSB Try.prog 75 = some (1, 8) := by kernel_rfl
theorem sz76 : szOf Try.prog 76 = some 1 := by kernel_rfl
theorem ag76 : isAggT Try.prog 76 = some false := by kernel_rfl
theorem zc76 : zeroCells Try.prog 76 = some [.nilptr] := by kernel_rfl
theorem za76 : zeroAV Try.prog 76 = some (.nilptr) := by kernel_rfl
theorem in76 : infoSB Try.prog 76 = some (1, 8) := by kernel_rfl
theorem sz77 : szOf Try.prog 77 = some 1 := by kernel_rfl
theorem ag77 : isAggT Try.prog 77 = some false := by kernel_rfl
theorem zc77 : zeroCells Try.prog 77 = some [.nilslice] := by kernel_rfl
theorem za77 : zeroAV Try.prog 77 = some (.nilslice) := by kernel_rfl
theorem in77 : infoSB Try.prog 77 = some (1, 24) := by kernel_rfl
theorem sz79 : szOf Try.prog 79 = some 4 := by kernel_rfl
theorem ag79 : isAggT Try.prog 79 = some true := by kernel_rfl
theorem zc79 : zeroCells Try.prog 79 = some [.nilslice, .nilslice, .nilmap, .nilptr] := by kernel_rfl
theorem za79 : zeroAV Try.prog 79 = some (.agg [.nilslice, .nilslice, .nilmap, .nilptr]) := by kernel_rfl
theorem in79 : infoSB Try.prog 79 = some (4, 64) := by kernel_rfl
theorem sz87 : szOf Try.prog 87 = some 1 := by kernel_rfl
theorem ag87 : isAggT Try.prog 87 = some false := by kernel_rfl
theorem zc87 : zeroCells Try.prog 87 = some [.nilfunc] := by kernel_rfl
theorem za87 : zeroAV Try.prog 87 = some (.nilfunc) := by kernel_rfl
theorem in87 : infoSB Try.prog 87 = some (1, 8) := by kernel_rfl
theorem sz90 : szOf Try.prog 90 = some 1 := by kernel_rfl
theorem ag90 : isAggT Try.prog 90 = some false := by kernel_rfl
theorem zc90 : zeroCells Try.prog 90 = some [.niliface] := by kernel_rfl
theorem za90 : zeroAV Try.prog 90 = some (.niliface) := by kernel_rfl
theorem in90 : infoSB Try.prog 90 = some (1, 16) := by kernel_rfl
/-- all facts on types in one -/
theorem tyR : type_of% (And.intro @sz3 <| And.intro @ag3 <| And.intro @zc3 <| And.intro @za3 <| And.intro @in3 <| And.intro @Try.underlying3 <| And.intro @sz4 <| And.intro @ag4 <| And.intro @zc4 <| And.intro @za4 <| And.intro @in4 <| And.intro @Try.underlying4 <| And.intro @sz5 <| And.intro @ag5 <| And.intro @zc5 <| And.intro @za5 <| And.intro @in5 <| And.intro @Try.underlying5 <| And.intro @sz20 <| And.intro @ag20 <| And.intro @zc20 <| And.intro @za20 <| And.intro @in20 <| And.intro @Try.underlying20 <| And.intro @sz22 <| And.intro @ag22 <| And.intro @zc22 <| And.intro @za22 <| And.intro @in22 <| And.intro @Try.underlying22 <| And.intro @sz24 <| And.intro @ag24 <| And.intro @zc24 <| And.intro @za24 <| And.intro @in24 <| And.intro @Try.underlying24 <| And.intro @sz26 <| And.intro @ag26 <| And.intro @zc26 <| And.intro @za26 <| And.intro @in26 <| And.intro @Try.underlying26 <| And.intro @sz28 <| And.intro @ag28 <| And.intro @zc28 <| And.intro @za28 <| And.intro @in28 <| And.intro @Try.underlying28 <| And.intro @sz35 <| And.intro @ag35 <| And.intro @zc35 <| And.intro @za35 <| And.intro @in35 <| And.intro @Try.underlying35 <| And.intro @sz40 <| And.intro @ag40 <| And.intro @zc40 <| And.intro @za40 <| And.intro @in40 <| And.intro @Try.underlying40 <| And.intro @sz43 <| And.intro @ag43 <| And.intro @zc43 <| And.intro @za43 <| And.intro @in43 <| And.intro @Try.underlying43 <| And.intro @sz44 <| And.intro @ag44 <| And.intro @zc44 <| And.intro @za44 <| And.intro @in44 <| And.intro @Try.underlying44 <| And.intro @sz45 <| And.intro @ag45 <| And.intro @zc45 <| And.intro @za45 <| And.intro @in45 <| And.intro @Try.underlying45 <| And.intro @sz47 <| And.intro @ag47 <| And.intro @zc47 <| And.intro @za47 <| And.intro @in47 <| And.intro @Try.underlying47 <| And.intro @sz49 <| And.intro @ag49 <| And.intro @zc49 <| And.intro @za49 <| And.intro @in49 <| And.intro @Try.underlying49 <| And.intro @sz54 <| And.intro @ag54 <| And.intro @zc54 <| And.intro @za54 <| And.intro @in54 <| And.intro @Try.underlying54 <| And.intro @sz58 <| And.intro @ag58 <| And.intro @zc58 <| And.intro @za58 <| And.intro @in58 <| And.intro @Try.underlying58 <| And.intro @sz59 <| And.intro @ag59 <| And.intro @zc59 <| And.intro @za59 <| And.intro @in59 <| And.intro @Try.underlying59 <| And.intro @sz62 <| And.intro @ag62 <| And.intro @zc62 <| And.intro @za62 <| And.intro @in62 <| And.intro @Try.underlying62 <| And.intro @sz64 <| And.intro @ag64 <| And.intro @zc64 <| And.intro @za64 <| And.intro @in64 <| And.intro @Try.underlying64 <| And.intro @sz66 <| And.intro @ag66 <| And.intro @zc66 <| And.intro @za66 <| And.intro @in66 <| And.intro @Try.underlying66 <| And.intro @sz69 <| And.intro @ag69 <| And.intro @zc69 <| And.intro @za69 <| And.intro @in69 <| And.intro @Try.underlying69 <| And.intro @sz75 <| And.intro @ag75 <| And.intro @zc75 <| And.intro @za75 <| And.intro @in75 <| And.intro @Try.underlying75 <| And.intro @sz76 <| And.intro @ag76 <| And.intro @zc76 <| And.intro @za76 <| And.intro @in76 <| And.intro @Try.underlying76 <| And.intro @sz77 <| And.intro @ag77 <| And.intro @zc77 <| And.intro @za77 <| And.intro @in77 <| And.intro @Try.underlying77 <| And.intro @sz79 <| And.intro @ag79 <| And.intro @zc79 <| And.intro @za79 <| And.intro @in79 <| And.intro @Try.underlying79 <| And.intro @sz87 <| And.intro @ag87 <| And.intro @zc87 <| And.intro @za87 <| And.intro @in87 <| And.intro @Try.underlying87 <| And.intro @sz90 <| And.intro @ag90 <| And.intro @zc90 <| And.intro @za90 <| And.intro @in90 @Try.underlying90) := And.intro @sz3 <| And.intro @ag3 <| And.intro @zc3 <| And.intro @za3 <| And.intro @in3 <| And.intro @Try.underlying3 <| And.intro @sz4 <| And.intro @ag4 <| And.intro @zc4 <| And.intro @za4 <| And.intro @in4 <| And.intro @Try.underlying4 <| And.intro @sz5 <| And.intro @ag5 <| And.intro @zc5 <| And.intro @za5 <| And.intro @in5 <| And.intro @Try.underlying5 <| And.intro @sz20 <| And.intro @ag20 <| And.intro @zc20 <| And.intro @za20 <| And.intro @in20 <| And.intro @Try.underlying20 <| And.intro @sz22 <| And.intro @ag22 <| And.intro @zc22 <| And.intro @za22 <| And.intro @in22 <| And.intro @Try.underlying22 <| And.intro @sz24 <| And.intro @ag24 <| And.intro @zc24 <| And.intro @za24 <| And.intro @in24 <| And.intro @Try.underlying24 <| And.intro @sz26 <| And.intro @ag26 <| And.intro @zc26 <| And.intro @za26 <| And.intro @in26 <| And.intro @Try.underlying26 <| And.intro @sz28 <| And.intro @ag28 <| And.intro @zc28 <| And.intro @za28 <| And.intro @in28 <| And.intro @Try.underlying28 <| And.intro @sz35 <| And.intro @ag35 <| And.intro @zc35 <| And.intro @za35 <| And.intro @in35 <| And.intro @Try.underlying35 <| And.intro @sz40 <| And.intro @ag40 <| And.intro @zc40 <| And.intro @za40 <| And.intro @in40 <| And.intro @Try.underlying40 <| And.intro @sz43 <| And.intro @ag43 <| And.intro @zc43 <| And.intro @za43 <| And.intro @in43 <| And.intro @Try.underlying43 <| And.intro @sz44 <| And.intro @ag44 <| And.intro @zc44 <| And.intro @za44 <| And.intro @in44 <| And.intro @Try.underlying44 <| And.intro @sz45 <| And.intro @ag45 <| And.intro @zc45 <| And.intro @za45 <| And.intro @in45 <| And.intro @Try.underlying45 <| And.intro @sz47 <| And.intro @ag47 <| And.intro @zc47 <| And.intro @za47 <| And.intro @in47 <| And.intro @Try.underlying47 <| And.intro @sz49 <| And.intro @ag49 <| And.intro @zc49 <| And.intro @za49 <| And.intro @in49 <| And.intro @Try.underlying49 <| And.intro @sz54 <| And.intro @ag54 <| And.intro @zc54 <| And.intro @za54 <| And.intro @in54 <| And.intro @Try.underlying54 <| And.intro @sz58 <| And.intro @ag58 <| And.intro @zc58 <| And.intro @za58 <| And.intro @in58 <| And.intro @Try.underlying58 <| And.intro @sz59 <| And.intro @ag59 <| And.intro @zc59 <| And.intro @za59 <| And.intro @in59 <| And.intro @Try.underlying59 <| And.intro @sz62 <| And.intro @ag62 <| And.intro @zc62 <| And.intro @za62 <| And.intro @in62 <| And.intro @Try.underlying62 <| And.intro @sz64 <| And.intro @ag64 <| And.intro @zc64 <| And.intro @za64 <| And.intro @in64 <| And.intro @Try.underlying64 <| And.intro @sz66 <| And.intro @ag66 <| And.intro @zc66 <| And.intro @za66 <| And.intro @in66 <| And.intro @Try.underlying66 <| And.intro @sz69 <| And.intro @ag69 <| And.intro @zc69 <| And.intro @za69 <| And.intro @in69 <| And.intro @Try.underlying69 <| And.intro @sz75 <| And.intro @ag75 <| And.intro @zc75 <| And.intro @za75 <| And.intro @in75 <| And.intro @Try.underlying75 <| And.intro @sz76 <| And.intro @ag76 <| And.intro @zc76 <| And.intro @za76 <| And.intro @in76 <| And.intro @Try.underlying76 <| And.intro @sz77 <| And.intro @ag77 <| And.intro @zc77 <| And.intro @za77 <| And.intro @in77 <| And.intro @Try.underlying77 <| And.intro @sz79 <| And.intro @ag79 <| And.intro @zc79 <| And.intro @za79 <| And.intro @in79 <| And.intro @Try.underlying79 <| And.intro @sz87 <| And.intro @ag87 <| And.intro @zc87 <| And.intro @za87 <| And.intro @in87 <| And.intro @Try.underlying87 <| And.intro @sz90 <| And.intro @ag90 <| And.intro @zc90 <| And.intro @za90 <| And.intro @in90 @Try.underlying90

end Go.Proofs.Ytecfofmndpgnjaa.sy

/- A heap of whole numbers in plain Lean (own work): what container/heap's up and down do to a list. -/
namespace Go.AM.Hp
set_option linter.unusedVariables false
set_option linter.unusedSimpArgs false
def at_ (a : List Int) (i : Nat) : Int := a.getD i 0
def swp (a : List Int) (i k : Nat) : List Int := (a.set i (at_ a k)).set k (at_ a i)
theorem swp_len (a : List Int) (i k : Nat) : (swp a i k).length = a.length := by simp [swp]
theorem at_swp {a : List Int} {i k : Nat} (hi : i < a.length) (hk : k < a.length) (j : Nat) : at_ (swp a i k) j = if j = i then at_ a k else if j = k then at_ a i else at_ a j := by
  simp only [at_, swp, List.getD_eq_getElem?_getD, List.getElem?_set, List.length_set]
  by_cases h1 : k = j
  · subst h1
    rw [if_pos rfl, if_pos hk]
    by_cases h2 : k = i
    · subst h2; rw [if_pos rfl]; rfl
    · rw [if_neg h2, if_pos rfl]; rfl
  · rw [if_neg h1]
    by_cases h2 : i = j
    · subst h2
      rw [if_pos rfl, if_pos hi, if_pos rfl]; rfl
    · rw [if_neg h2, if_neg (fun e => h2 e.symm), if_neg (fun e => h1 e.symm)]
theorem swp_perm {a : List Int} {i k : Nat} (hi : i < a.length) (hk : k < a.length) : (swp a i k).Perm a := by
  rw [List.perm_iff_count]
  intro x
  simp only [swp, at_, List.getD_eq_getElem?_getD, List.getElem?_eq_getElem hi, List.getElem?_eq_getElem hk, Option.getD_some]
  rw [List.count_set (by simpa using hk), List.count_set hi]
  rw [List.getElem_set]
  have c1 : 0 < List.count a[i] a := List.count_pos_iff.2 (List.getElem_mem hi)
  by_cases h : i = k
  · subst h
    simp only [if_true, beq_iff_eq]
    by_cases hx : a[i] = x
    · subst hx; simp
    · simp [hx]
  · simp only [if_neg h, beq_iff_eq]
    have c2 : 0 < List.count a[k] a := List.count_pos_iff.2 (List.getElem_mem hk)
    by_cases h1 : a[i] = x
    · subst h1
      by_cases h2 : a[k] = a[i]
      · simp [h2]
      · simp [h2]
    · by_cases h2 : a[k] = x
      · subst h2; simp [h1]
      · simp [h1, h2]

/-- each is not below the one above it -/
def Heap (a : List Int) (n : Nat) : Prop := ∀ i, 0 < i → i < n → at_ a ((i - 1) / 2) ≤ at_ a i
/-- but at j, perhaps -/
def UpTo (a : List Int) (n j : Nat) : Prop := (∀ i, 0 < i → i < n → i ≠ j → at_ a ((i - 1) / 2) ≤ at_ a i) ∧ (∀ i, 0 < i → i < n → (i - 1) / 2 = j → 0 < j → at_ a ((j - 1) / 2) ≤ at_ a i)
theorem UpTo.stop {a : List Int} {n j : Nat} (h : UpTo a n j) (hj : j = 0 ∨ at_ a ((j - 1) / 2) ≤ at_ a j) : Heap a n := by
  intro i h0 hi
  by_cases e : i = j
  · subst e
    rcases hj with hj | hj
    · omega
    · exact hj
  · exact h.1 i h0 hi e
theorem UpTo.step {a : List Int} {n j : Nat} (h : UpTo a n j) (hn : n ≤ a.length) (hj : j < n) (h0 : 0 < j) (hl : at_ a j < at_ a ((j - 1) / 2)) : UpTo (swp a ((j - 1) / 2) j) n ((j - 1) / 2) := by
  have hp : (j - 1) / 2 < j := by omega
  have e := at_swp (a := a) (i := (j - 1) / 2) (k := j) (by omega) (by omega)
  refine ⟨fun i hi0 hin hne => ?_, fun i hi0 hin hpi hpp => ?_⟩
  · rw [e, e]
    by_cases h1 : i = j
    · subst h1
      rw [if_pos rfl, if_neg (by omega), if_pos rfl]; omega
    · rw [if_neg hne, if_neg h1]
      by_cases h2 : (i - 1) / 2 = (j - 1) / 2
      · rw [if_pos h2]
        have := h.1 i hi0 hin h1
        rw [h2] at this; omega
      · rw [if_neg h2]
        by_cases h3 : (i - 1) / 2 = j
        · rw [if_pos h3]
          exact h.2 i hi0 hin h3 h0
        · rw [if_neg h3]
          exact h.1 i hi0 hin h1
  · rw [e, e]
    have hpar : at_ a (((j - 1) / 2 - 1) / 2) ≤ at_ a ((j - 1) / 2) := h.1 ((j - 1) / 2) hpp (by omega) (by omega)
    rw [if_neg (by omega), if_neg (by omega)]
    by_cases h1 : i = j
    · subst h1; rw [if_neg (by omega), if_pos rfl]; exact hpar
    · rw [if_neg (by omega), if_neg h1]
      have := h.1 i hi0 hin h1
      rw [hpi] at this; omega
/-- below j each may be out of order -/
def DownTo (a : List Int) (n j : Nat) : Prop := (∀ i, 0 < i → i < n → (i - 1) / 2 ≠ j → at_ a ((i - 1) / 2) ≤ at_ a i) ∧ (∀ i, 0 < i → i < n → (i - 1) / 2 = j → 0 < j → at_ a ((j - 1) / 2) ≤ at_ a i)
theorem DownTo.stop {a : List Int} {n j : Nat} (h : DownTo a n j) (hj : ∀ i, 0 < i → i < n → (i - 1) / 2 = j → at_ a j ≤ at_ a i) : Heap a n := by
  intro i h0 hi
  by_cases e : (i - 1) / 2 = j
  · rw [e]; exact hj i h0 hi e
  · exact h.1 i h0 hi e
/-- the lesser child, k, is put above -/
theorem DownTo.step {a : List Int} {n j k : Nat} (h : DownTo a n j) (hn : n ≤ a.length) (hk : k < n) (hk0 : 0 < k) (hp : (k - 1) / 2 = j) (hl : at_ a k < at_ a j) (hm : ∀ i, 0 < i → i < n → (i - 1) / 2 = j → at_ a k ≤ at_ a i) : DownTo (swp a j k) n k := by
  have e := at_swp (a := a) (i := j) (k := k) (by omega) (by omega)
  refine ⟨fun i hi0 hin hne => ?_, fun i hi0 hin hpi hpp => ?_⟩
  · rw [e, e]
    by_cases h1 : i = k
    · subst h1
      rw [if_pos hp, if_neg (by omega), if_pos rfl]; omega
    · by_cases h2 : i = j
      · subst h2
        rw [if_pos rfl, if_neg (by omega), if_neg hne]
        exact h.2 k hk0 hk hp hi0
      · rw [if_neg h2, if_neg h1]
        by_cases h3 : (i - 1) / 2 = j
        · rw [if_pos h3]; exact hm i hi0 hin h3
        · rw [if_neg h3, if_neg hne]
          exact h.1 i hi0 hin h3
  · rw [e, e, hp, if_pos rfl, if_neg (by omega), if_neg (by omega)]
    have := h.1 i hi0 hin (by omega)
    rw [hpi] at this; exact this
theorem heap_min {a : List Int} {n : Nat} (h : Heap a n) : ∀ i, i < n → at_ a 0 ≤ at_ a i := by
  intro i
  induction i using Nat.strongRecOn with
  | ind i ih =>
    intro hi
    rcases Nat.eq_zero_or_pos i with h0 | h0
    · subst h0; omega
    · have := ih ((i - 1) / 2) (by omega) (by omega)
      have := h i h0 hi
      omega
theorem at_get {a : List Int} {i : Nat} (h : i < a.length) : at_ a i = a[i] := by simp [at_, List.getD_eq_getElem?_getD, h]
theorem heap_least {a : List Int} (h : Heap a a.length) : ∀ x ∈ a, at_ a 0 ≤ x := by
  intro x hx
  obtain ⟨i, hi, rfl⟩ := List.getElem_of_mem hx
  rw [← at_get hi]
  exact heap_min h i hi
end Go.AM.Hp

/- container/heap over slots.free (own work): the walks of its methods, of up and down, of Push and Pop. -/
namespace Go.Proofs.Ytecfofmndpgnjaa.sy
open Go.AM Go.AM.Hp
set_option linter.unusedSimpArgs false
set_option linter.unusedVariables false
theorem wrapI {x : Int} (h1 : -9223372036854775808 ≤ x) (h2 : x < 9223372036854775808) : IntKind.i64.wrap x = x := by
  unfold IntKind.wrap
  simp only [IntKind.bits, IntKind.signed, Bool.true_and]
  split <;> rename_i h <;> simp at h <;> omega
theorem wrapN {x : Int} (n : Nat) (h : x = n) (h2 : n < 9223372036854775808) : IntKind.i64.wrap x = n := by subst h; exact wrapI (by omega) (by omega)
theorem tmodN (a b : Nat) : (a : Int).tmod (b : Int) = ((a % b : Nat) : Int) := rfl
variable {G : List Nat → Option (List AV)} {base : Nat} {w0 : World}
abbrev ints (zs : List Int) : List AV := zs.map (AV.int .i64)
theorem ints_len (zs : List Int) : (ints zs).length = zs.length := by simp
set_option maxRecDepth 100000

/-- the slots that are free, behind a pointer: the variable, its row, the numbers -/
structure Fr (H : AHeap) (pf bf : Nat) (a : List Int) : Prop where
  var : hat H pf = some (.row 77 1 [.slice (.own bf) 1 0 a.length])
  row : ∃ cells, hat H bf = some (.row 3 1 cells) ∧ a.length ≤ cells.length ∧ cells.take a.length = ints a
  ne : pf ≠ bf
theorem Fr.sl {H : AHeap} {pf bf : Nat} {a : List Int} (h : Fr H pf bf a) : Sl (kn G base w0).c H (.slice (.own bf) 1 0 a.length) (ints a) := by
  obtain ⟨cells, h1, h2, h3⟩ := h.row
  exact .inr ⟨.own bf, 0, by simp, fun _ => ⟨cells, by simp only [rowOf, h1], by rw [List.drop_zero, ints_len]; exact h3⟩⟩
theorem Fr.keep {H H' : AHeap} {pf bf : Nat} {a : List Int} (h : Fr H pf bf a) (h1 : hat H' pf = hat H pf) (h2 : hat H' bf = hat H bf) : Fr H' pf bf a :=
  ⟨by rw [h1]; exact h.var, by rw [h2]; exact h.row, h.ne⟩
theorem Fr.lt {H : AHeap} {pf bf : Nat} {a : List Int} (h : Fr H pf bf a) : pf < H.length ∧ bf < H.length := by
  obtain ⟨cells, h1, _⟩ := h.row
  exact ⟨hat_lt h.var, hat_lt h1⟩

theorem own_ia {bf n i : Nat} (hi : i < n) : aindexAddr (kn G base w0).c 77 (.slice (.own bf) 1 0 n) (.int .i64 (i : Int)) = some (.ptr (.own bf) i) := by
  simp only [aindexAddr, kn_P, Try.underlying77, Option.bind_some, sz3]
  rw [if_pos ⟨by trivial, by omega, by omega⟩]
  simp
theorem Fr.ld {H : AHeap} {pf bf : Nat} {a : List Int} (h : Fr H pf bf a) {i : Nat} (hi : i < a.length) : aload (kn G base w0).c H 3 (.ptr (.own bf) i) = some (.int .i64 (at_ a i)) := by
  have := (h.sl (G := G) (base := base) (w0 := w0)).ld ag3 (i := i) (by simpa using hi)
  rw [List.getElem_map, ← at_get hi] at this
  simpa [ptrAt] using this
/-- f.Len() -/
theorem flen_ok {H : AHeap} {v : AV} {a : List Int} (hv : Sl (kn G base w0).c H v (ints a)) : ∃ r H', Pt (kn G base w0) 37 [v] H r H' ∧ (r = .int .i64 a.length ∧ H' = H) := by
  refine Pt.fn (n := 5) (rs := [.tmp 2]) Try.func37 (b := _) rfl rfl rfl (by decide) ?_
  refine D.sq (D.region (T := none_) (by simp only [rulesA, rulesB, numbered, ayield, mapO, constAV, scAV, optval, abin, aint, acmp, aconv, aun, aeq, aminmax, afieldAddr, abuild, anew, fieldPlaces, afill, setSeg, kn_P, Nat.reduceAdd, Nat.reduceMul, Nat.reducePow, Nat.reduceSub, Nat.reduceEqDiff, Nat.reduceLT, Nat.reduceLeDiff, Int.reduceEq, Int.reduceNe, Int.reduceLT, Int.reduceLE, Int.reduceAdd, Int.reduceSub, Int.reduceToNat, Int.reduceBNe, Int.reduceBEq, tyR]; with_reducible rfl) ?_)
  simp only [rulesK, Nat.reduceEqDiff]
  refine D.sq (D.region (T := none_) (by simp only [rulesA, rulesB, numbered, ayield, mapO, constAV, scAV, optval, abin, aint, acmp, aconv, aun, aeq, aminmax, afieldAddr, abuild, anew, fieldPlaces, afill, setSeg, kn_P, Nat.reduceAdd, Nat.reduceMul, Nat.reducePow, Nat.reduceSub, Nat.reduceEqDiff, Nat.reduceLT, Nat.reduceLeDiff, Int.reduceEq, Int.reduceNe, Int.reduceLT, Int.reduceLE, Int.reduceAdd, Int.reduceSub, Int.reduceToNat, Int.reduceBNe, Int.reduceBEq, tyR, hv.len Try.underlying77, ints_len]; with_reducible rfl) ?_)
  simp only [rulesK, Nat.reduceEqDiff]
  refine D.ret ?_
  simp only [rulesK, Nat.reduceEqDiff]
  refine ⟨_, by simp only [resOf, aresult, rulesA, rulesB, numbered, ayield, mapO, constAV, scAV, optval, abin, aint, acmp, aconv, aun, aeq, aminmax, afieldAddr, abuild, anew, fieldPlaces, afill, setSeg, kn_P, Nat.reduceAdd, Nat.reduceMul, Nat.reducePow, Nat.reduceSub, Nat.reduceEqDiff, Nat.reduceLT, Nat.reduceLeDiff, Int.reduceEq, Int.reduceNe, Int.reduceLT, Int.reduceLE, Int.reduceAdd, Int.reduceSub, Int.reduceToNat, Int.reduceBNe, Int.reduceBEq, tyR]; with_reducible rfl, ?_⟩
  exact ⟨(by first | exact rfl | exact True.intro), (by first | exact rfl | exact True.intro)⟩
/-- f.Less(i, k) -/
theorem fless_ok {H : AHeap} {v : AV} {a : List Int} (hv : Sl (kn G base w0).c H v (ints a)) {i k : Nat} (hi : i < a.length) (hk : k < a.length) : ∃ r H', Pt (kn G base w0) 87 [v, .int .i64 i, .int .i64 k] H r H' ∧ (r = .bool (decide (at_ a i < at_ a k)) ∧ H' = H) := by
  refine Pt.fn (n := 16) (rs := [.tmp 6]) Try.func87 (b := _) rfl rfl rfl (by decide) ?_
  refine D.sq (D.region (T := none_) (by simp only [rulesA, rulesB, numbered, ayield, mapO, constAV, scAV, optval, abin, aint, acmp, aconv, aun, aeq, aminmax, afieldAddr, abuild, anew, fieldPlaces, afill, setSeg, kn_P, Nat.reduceAdd, Nat.reduceMul, Nat.reducePow, Nat.reduceSub, Nat.reduceEqDiff, Nat.reduceLT, Nat.reduceLeDiff, Int.reduceEq, Int.reduceNe, Int.reduceLT, Int.reduceLE, Int.reduceAdd, Int.reduceSub, Int.reduceToNat, Int.reduceBNe, Int.reduceBEq, tyR]; with_reducible rfl) ?_)
  simp only [rulesK, Nat.reduceEqDiff]
  refine D.sq (D.draw (T := none_) (by kernel_rfl) (by simp only [rulesA, rulesB, numbered, ayield, mapO, constAV, scAV, optval, abin, aint, acmp, aconv, aun, aeq, aminmax, afieldAddr, abuild, anew, fieldPlaces, afill, setSeg, kn_P, Nat.reduceAdd, Nat.reduceMul, Nat.reducePow, Nat.reduceSub, Nat.reduceEqDiff, Nat.reduceLT, Nat.reduceLeDiff, Int.reduceEq, Int.reduceNe, Int.reduceLT, Int.reduceLE, Int.reduceAdd, Int.reduceSub, Int.reduceToNat, Int.reduceBNe, Int.reduceBEq, tyR, hv.ia Try.underlying77 sz3 (i := i) (by simpa using hi), hv.ld ag3 (i := i) (by simpa using hi), hv.ia Try.underlying77 sz3 (i := k) (by simpa using hk), hv.ld ag3 (i := k) (by simpa using hk), List.getElem_map]; with_reducible rfl) ?_)
  simp only [rulesK, Nat.reduceEqDiff]
  refine D.ret ?_
  simp only [rulesK, Nat.reduceEqDiff]
  refine ⟨_, by simp only [resOf, aresult, rulesA, rulesB, numbered, ayield, mapO, constAV, scAV, optval, abin, aint, acmp, aconv, aun, aeq, aminmax, afieldAddr, abuild, anew, fieldPlaces, afill, setSeg, kn_P, Nat.reduceAdd, Nat.reduceMul, Nat.reducePow, Nat.reduceSub, Nat.reduceEqDiff, Nat.reduceLT, Nat.reduceLeDiff, Int.reduceEq, Int.reduceNe, Int.reduceLT, Int.reduceLE, Int.reduceAdd, Int.reduceSub, Int.reduceToNat, Int.reduceBNe, Int.reduceBEq, tyR]; with_reducible rfl, ?_⟩
  rw [at_get hi, at_get hk]
  exact ⟨(by first | exact rfl | exact True.intro), (by first | exact rfl | exact True.intro)⟩
theorem take_set {cells : List AV} {a : List Int} (h1 : a.length ≤ cells.length) (h2 : cells.take a.length = ints a) {i : Nat} (hi : i < a.length) (x : Int) : (cells.set i (.int .i64 x)).take (a.set i x).length = ints (a.set i x) := by
  rw [List.length_set, List.take_set, h2]
  simp [ints]
/-- f.Swap(i, k) -/
theorem fswap_ok {H : AHeap} {pf bf : Nat} {a : List Int} (hF : Fr H pf bf a) {i k : Nat} (hi : i < a.length) (hk : k < a.length) :
    ∃ r H', Pt (kn G base w0) 90 [.slice (.own bf) 1 0 a.length, .int .i64 i, .int .i64 k] H r H' ∧ (r = .tuple [] ∧ Fr H' pf bf (swp a i k) ∧ Keep H H' (fun j => j = bf)) := by
  have hv := hF.sl (G := G) (base := base) (w0 := w0)
  obtain ⟨cells, c1, c2, c3⟩ := hF.row
  have hbl := hat_lt c1
  have w1 := wr_own c1 (off := i) (v := .int .i64 (at_ a k)) (by omega) rfl
  have c4 : hat (H.set bf (some (.row 3 1 (cells.set i (.int .i64 (at_ a k)))))) bf = some (.row 3 1 (cells.set i (.int .i64 (at_ a k)))) := hat_eq _ hbl
  have w2 := wr_own c4 (off := k) (v := .int .i64 (at_ a i)) (by simp; omega) rfl
  refine Pt.fn (n := 20) (rs := []) Try.func90 (b := _) rfl rfl rfl (by decide) ?_
  refine D.draw (T := none_) (by kernel_rfl) (by simp only [rulesA, rulesB, numbered, ayield, mapO, constAV, scAV, optval, abin, aint, acmp, aconv, aun, aeq, aminmax, afieldAddr, abuild, anew, fieldPlaces, afill, setSeg, kn_P, Nat.reduceAdd, Nat.reduceMul, Nat.reducePow, Nat.reduceSub, Nat.reduceEqDiff, Nat.reduceLT, Nat.reduceLeDiff, Int.reduceEq, Int.reduceNe, Int.reduceLT, Int.reduceLE, Int.reduceAdd, Int.reduceSub, Int.reduceToNat, Int.reduceBNe, Int.reduceBEq, tyR, own_ia hi, own_ia hk, hF.ld hi, hF.ld hk, astore, w1, w2]; with_reducible rfl) ?_
  simp only [rulesK, Nat.reduceEqDiff]
  refine ⟨_, rfl, rfl, ⟨?_, ⟨(cells.set i (.int .i64 (at_ a k))).set k (.int .i64 (at_ a i)), ?_, ?_, ?_⟩, hF.ne⟩, ?_⟩
  · rw [hat_ne _ hF.ne, hat_ne _ hF.ne, swp_len]; exact hF.var
  · exact hat_eq _ (by simpa using hbl)
  · rw [swp_len]; simpa using c2
  · have e1 := take_set c2 c3 hi (at_ a k)
    have e2 := take_set (cells := cells.set i (.int .i64 (at_ a k))) (a := a.set i (at_ a k)) (by simpa using c2) e1 (i := k) (by simpa using hk) (at_ a i)
    exact e2
  · exact (Keep.set bf _).trans (Keep.set bf _)

theorem am_len {H : AHeap} (v : AV) : amethod (kn G base w0).c H 76 v "Len" = (aload (kn G base w0).c H 77 v).map fun x => (37, x) := by kernel_rfl
theorem am_less {H : AHeap} (v : AV) : amethod (kn G base w0).c H 76 v "Less" = (aload (kn G base w0).c H 77 v).map fun x => (87, x) := by kernel_rfl
theorem am_swap {H : AHeap} (v : AV) : amethod (kn G base w0).c H 76 v "Swap" = (aload (kn G base w0).c H 77 v).map fun x => (90, x) := by kernel_rfl
theorem am_push {H : AHeap} (v : AV) : amethod (kn G base w0).c H 76 v "Push" = some (89, v) := by kernel_rfl
theorem am_pop {H : AHeap} (v : AV) : amethod (kn G base w0).c H 76 v "Pop" = some (88, v) := by kernel_rfl
theorem hb16 : hasBody Try.prog 37 = true := by kernel_rfl
theorem hb63 : hasBody Try.prog 87 = true := by kernel_rfl
theorem hb66 : hasBody Try.prog 90 = true := by kernel_rfl
theorem hb65 : hasBody Try.prog 89 = true := by kernel_rfl
theorem hb64 : hasBody Try.prog 88 = true := by kernel_rfl
theorem hb20 : hasBody Try.prog 43 = true := by kernel_rfl
theorem hb21 : hasBody Try.prog 44 = true := by kernel_rfl
theorem Fr.ldv {H : AHeap} {pf bf : Nat} {a : List Int} (h : Fr H pf bf a) : aload (kn G base w0).c H 77 (.ptr (.own pf) 0) = some (.slice (.own bf) 1 0 a.length) := by
  simp only [aload, kn_P, ag77, Option.bind_some, rd_own h.var]
  rfl
/-- the heap behind up: the same numbers, no other row touched -/
def UpS (pf bf : Nat) (a : List Int) (P : List Int → Prop) (H : AHeap) : AHeap → Prop := fun H' => ∃ a', Fr H' pf bf a' ∧ a'.Perm a ∧ P a' ∧ Keep H H' (fun j => j = bf)
set_option maxHeartbeats 4000000
/-- heap.up -/
theorem up_ok {H : AHeap} {pf bf : Nat} {a : List Int} (hF : Fr H pf bf a) {j : Nat} (hj : j < a.length) (hl : a.length < 1000000) (hu : UpTo a a.length j) :
    ∃ r H', Pt (kn G base w0) 43 [.iface 76 (.ptr (.own pf) 0), .int .i64 j] H r H' ∧ (r = .tuple [] ∧ UpS pf bf a (fun a' => Heap a' a'.length) H H') := by
  refine Pt.fn (n := 23) (rs := []) Try.func43 (b := _) rfl rfl rfl (by decide) ?_
  refine D.bl ?_
  refine D.lp (fun q env H' => ∃ (b : List Int), q < b.length ∧ Fr H' pf bf b ∧ b.Perm a ∧ UpTo b b.length q ∧ Keep H H' (fun j => j = bf) ∧ ELe (E 23 [(0, .iface 76 (.ptr (.own pf) 0)), (1, .int .i64 q)]) env) j
    ⟨a, hj, hF, List.Perm.refl _, hu, Keep.refl _, by exact E_le (by decide) (E_size _ _) (by simp only [List.forall_mem_cons, List.not_mem_nil, false_implies, implies_true, and_true, E_get, Nat.reduceEqDiff, Nat.reduceLT, Nat.reduceLeDiff, if_true, if_false, and_self, true_and] <;> first | rfl | exact ⟨rfl, rfl⟩)⟩ ?_
  rintro q env H' ⟨b, hq, hFb, hp, hub, hk, he⟩
  refine D.forget he ?_
  clear he
  have hbl : b.length < 1000000 := by rw [hp.length_eq]; exact hl
  have hw1 : IntKind.i64.wrap ((q : Int) - 1) = (q : Int) - 1 := wrapI (by omega) (by omega)
  have hw2 : IntKind.i64.wrap (((q : Int) - 1).tdiv 2) = (((q - 1) / 2 : Nat) : Int) := by
    rcases Nat.eq_zero_or_pos q with h0 | h0
    · subst h0; rfl
    · have : (q : Int) - 1 = ((q - 1 : Nat) : Int) := by omega
      rw [this]
      exact wrapN _ rfl (by omega)
  refine D.bl (D.sq (D.region (T := none_) (by simp only [rulesA, rulesB, numbered, ayield, mapO, constAV, scAV, optval, abin, aint, acmp, aconv, aun, aeq, aminmax, afieldAddr, abuild, anew, fieldPlaces, afill, setSeg, kn_P, Nat.reduceAdd, Nat.reduceMul, Nat.reducePow, Nat.reduceSub, Nat.reduceEqDiff, Nat.reduceLT, Nat.reduceLeDiff, Int.reduceEq, Int.reduceNe, Int.reduceLT, Int.reduceLE, Int.reduceAdd, Int.reduceSub, Int.reduceToNat, Int.reduceBNe, Int.reduceBEq, tyR, hw1, hw2]; with_reducible rfl) ?_))
  simp only [rulesK, Nat.reduceEqDiff]
  rcases Nat.eq_zero_or_pos q with h0 | h0
  · have hb1 : ((((q - 1) / 2 : Nat) : Int) == (q : Int)) = true := by subst h0; rfl
    refine D.sq (D.sq (D.region (T := none_) (by simp only [rulesA, rulesB, numbered, ayield, mapO, constAV, scAV, optval, abin, aint, acmp, aconv, aun, aeq, aminmax, afieldAddr, abuild, anew, fieldPlaces, afill, setSeg, kn_P, Nat.reduceAdd, Nat.reduceMul, Nat.reducePow, Nat.reduceSub, Nat.reduceEqDiff, Nat.reduceLT, Nat.reduceLeDiff, Int.reduceEq, Int.reduceNe, Int.reduceLT, Int.reduceLE, Int.reduceAdd, Int.reduceSub, Int.reduceToNat, Int.reduceBNe, Int.reduceBEq, tyR, hb1]; with_reducible rfl) ?_))
    simp only [rulesK, Nat.reduceEqDiff]
    refine D.cond (by simp only [rulesA, rulesB, numbered, ayield, mapO, constAV, scAV, optval, abin, aint, acmp, aconv, aun, aeq, aminmax, afieldAddr, abuild, anew, fieldPlaces, afill, setSeg, kn_P, Nat.reduceAdd, Nat.reduceMul, Nat.reducePow, Nat.reduceSub, Nat.reduceEqDiff, Nat.reduceLT, Nat.reduceLeDiff, Int.reduceEq, Int.reduceNe, Int.reduceLT, Int.reduceLE, Int.reduceAdd, Int.reduceSub, Int.reduceToNat, Int.reduceBNe, Int.reduceBEq, tyR]; with_reducible rfl) (fun h => ?_) (fun h => ?_)
    · refine D.exit ?_
      simp only [rulesK, Nat.reduceEqDiff]
      exact ⟨_, rfl, rfl, b, hFb, hp, hub.stop (.inl h0), hk⟩
    · cases h
  · have hb1 : ((((q - 1) / 2 : Nat) : Int) == (q : Int)) = false := by simp; omega
    have hpq : (q - 1) / 2 < b.length := by omega
    obtain ⟨rl, Hl, hcl, rfl, rfl⟩ := call_only (κ := kn G base w0) (f := 87) (args := [.slice (.own bf) 1 0 b.length, .int .i64 q, .int .i64 ((q - 1) / 2 : Nat)]) (H := H') (fun _ H r H' => r = .bool (decide (at_ b q < at_ b ((q - 1) / 2))) ∧ H' = H) (fless_ok hFb.sl hq hpq)
    refine D.sq (D.sq (D.regC hcl (by simp only [rulesA, rulesB, numbered, ayield, mapO, constAV, scAV, optval, abin, aint, acmp, aconv, aun, aeq, aminmax, afieldAddr, abuild, anew, fieldPlaces, afill, setSeg, kn_P, Nat.reduceAdd, Nat.reduceMul, Nat.reducePow, Nat.reduceSub, Nat.reduceEqDiff, Nat.reduceLT, Nat.reduceLeDiff, Int.reduceEq, Int.reduceNe, Int.reduceLT, Int.reduceLE, Int.reduceAdd, Int.reduceSub, Int.reduceToNat, Int.reduceBNe, Int.reduceBEq, tyR, hcl, hb1, am_less, hFb.ldv, hb63]; with_reducible rfl) ?_))
    simp only [rulesK, Nat.reduceEqDiff]
    refine D.cond (by simp only [rulesA, rulesB, numbered, ayield, mapO, constAV, scAV, optval, abin, aint, acmp, aconv, aun, aeq, aminmax, afieldAddr, abuild, anew, fieldPlaces, afill, setSeg, kn_P, Nat.reduceAdd, Nat.reduceMul, Nat.reducePow, Nat.reduceSub, Nat.reduceEqDiff, Nat.reduceLT, Nat.reduceLeDiff, Int.reduceEq, Int.reduceNe, Int.reduceLT, Int.reduceLE, Int.reduceAdd, Int.reduceSub, Int.reduceToNat, Int.reduceBNe, Int.reduceBEq, tyR]; with_reducible rfl) (fun h => ?_) (fun h => ?_)
    · simp only [Bool.not_eq_true', decide_eq_false_iff_not, Int.not_lt] at h
      refine D.exit ?_
      simp only [rulesK, Nat.reduceEqDiff]
      exact ⟨_, rfl, rfl, b, hFb, hp, hub.stop (.inr h), hk⟩
    simp only [Bool.not_eq_false', decide_eq_true_eq] at h
    refine D.skip ?_
    simp only [rulesK, Nat.reduceEqDiff]
    obtain ⟨rs, Hs, hcs, rfl, hFs, hks⟩ := call_only (κ := kn G base w0) (f := 90) (args := [.slice (.own bf) 1 0 b.length, .int .i64 ((q - 1) / 2 : Nat), .int .i64 q]) (H := Hl) (fun _ H r H' => r = .tuple [] ∧ Fr H' pf bf (swp b ((q - 1) / 2) q) ∧ Keep H H' (fun j => j = bf)) (fswap_ok hFb hpq hq)
    refine D.sq (D.regC hcs (by simp only [rulesA, rulesB, numbered, ayield, mapO, constAV, scAV, optval, abin, aint, acmp, aconv, aun, aeq, aminmax, afieldAddr, abuild, anew, fieldPlaces, afill, setSeg, kn_P, Nat.reduceAdd, Nat.reduceMul, Nat.reducePow, Nat.reduceSub, Nat.reduceEqDiff, Nat.reduceLT, Nat.reduceLeDiff, Int.reduceEq, Int.reduceNe, Int.reduceLT, Int.reduceLE, Int.reduceAdd, Int.reduceSub, Int.reduceToNat, Int.reduceBNe, Int.reduceBEq, tyR, hcs, am_swap, hFb.ldv, hb66]; with_reducible rfl) ?_)
    simp only [rulesK, Nat.reduceEqDiff]
    refine D.region (T := none_) (by simp only [rulesA, rulesB, numbered, ayield, mapO, constAV, scAV, optval, abin, aint, acmp, aconv, aun, aeq, aminmax, afieldAddr, abuild, anew, fieldPlaces, afill, setSeg, kn_P, Nat.reduceAdd, Nat.reduceMul, Nat.reducePow, Nat.reduceSub, Nat.reduceEqDiff, Nat.reduceLT, Nat.reduceLeDiff, Int.reduceEq, Int.reduceNe, Int.reduceLT, Int.reduceLE, Int.reduceAdd, Int.reduceSub, Int.reduceToNat, Int.reduceBNe, Int.reduceBEq, tyR]; with_reducible rfl) ?_
    simp only [rulesK, Nat.reduceEqDiff]
    refine ⟨(q - 1) / 2, by omega, swp b ((q - 1) / 2) q, by rw [swp_len]; exact hpq, hFs, (swp_perm hpq hq).trans hp, ?_, hk.trans hks, by exact E_le (by decide) (E_size _ _) (by simp only [List.forall_mem_cons, List.not_mem_nil, false_implies, implies_true, and_true, E_get, Nat.reduceEqDiff, Nat.reduceLT, Nat.reduceLeDiff, if_true, if_false, and_self, true_and] <;> first | rfl | exact ⟨rfl, rfl⟩)⟩
    rw [swp_len]
    exact hub.step (Nat.le_refl _) hq h0 h

/-- heap.down -/
theorem down_ok {H : AHeap} {pf bf : Nat} {a : List Int} (hF : Fr H pf bf a) {n : Nat} (hn : n ≤ a.length) (hl : a.length < 1000000) (hu : DownTo a n 0) :
    ∃ r H', Pt (kn G base w0) 44 [.iface 76 (.ptr (.own pf) 0), .int .i64 0, .int .i64 n] H r H' ∧ UpS pf bf a (fun a' => Heap a' n ∧ ∀ i, n ≤ i → at_ a' i = at_ a i) H H' := by
  refine Pt.fn (n := 48) (rs := [.tmp 6]) Try.func44 (b := _) rfl rfl rfl (by decide) ?_
  refine D.sq (D.region (T := none_) (by simp only [rulesA, rulesB, numbered, ayield, mapO, constAV, scAV, optval, abin, aint, acmp, aconv, aun, aeq, aminmax, afieldAddr, abuild, anew, fieldPlaces, afill, setSeg, kn_P, Nat.reduceAdd, Nat.reduceMul, Nat.reducePow, Nat.reduceSub, Nat.reduceEqDiff, Nat.reduceLT, Nat.reduceLeDiff, Int.reduceEq, Int.reduceNe, Int.reduceLT, Int.reduceLE, Int.reduceAdd, Int.reduceSub, Int.reduceToNat, Int.reduceBNe, Int.reduceBEq, tyR]; with_reducible rfl) ?_)
  simp only [rulesK, Nat.reduceEqDiff]
  refine D.sq (D.region (T := none_) (by simp only [rulesA, rulesB, numbered, ayield, mapO, constAV, scAV, optval, abin, aint, acmp, aconv, aun, aeq, aminmax, afieldAddr, abuild, anew, fieldPlaces, afill, setSeg, kn_P, Nat.reduceAdd, Nat.reduceMul, Nat.reducePow, Nat.reduceSub, Nat.reduceEqDiff, Nat.reduceLT, Nat.reduceLeDiff, Int.reduceEq, Int.reduceNe, Int.reduceLT, Int.reduceLE, Int.reduceAdd, Int.reduceSub, Int.reduceToNat, Int.reduceBNe, Int.reduceBEq, tyR]; with_reducible rfl) ?_)
  simp only [rulesK, Nat.reduceEqDiff]
  refine D.sq (D.bl ?_)
  refine D.lp (fun m env H' => ∃ (q : Nat) (b : List Int), m = n - q ∧ q ≤ n ∧ Fr H' pf bf b ∧ b.Perm a ∧ DownTo b n q ∧ (∀ i, n ≤ i → at_ b i = at_ a i) ∧ Keep H H' (fun j => j = bf) ∧ ELe (E 48 [(0, .iface 76 (.ptr (.own pf) 0)), (1, .int .i64 0), (2, .int .i64 n), (7, .int .i64 q)]) env) n
    ⟨0, a, by omega, by omega, hF, List.Perm.refl _, hu, fun _ _ => rfl, Keep.refl _, by exact E_le (by decide) (E_size _ _) (by simp only [List.forall_mem_cons, List.not_mem_nil, false_implies, implies_true, and_true, E_get, Nat.reduceEqDiff, Nat.reduceLT, Nat.reduceLeDiff, if_true, if_false, and_self, true_and] <;> first | rfl | exact ⟨rfl, rfl⟩)⟩ ?_
  rintro m env H' ⟨q, b, rfl, hq, hFb, hp, hub, hrest, hk, he⟩
  refine D.forget he ?_
  clear he
  have hbl : b.length = a.length := hp.length_eq
  have hw1 : IntKind.i64.wrap (2 * (q : Int)) = ((2 * q : Nat) : Int) := wrapN _ (by omega) (by omega)
  have hw2 : IntKind.i64.wrap (((2 * q : Nat) : Int) + 1) = ((2 * q + 1 : Nat) : Int) := wrapN _ (by omega) (by omega)
  have hw3 : IntKind.i64.wrap (((2 * q + 1 : Nat) : Int) + 1) = ((2 * q + 2 : Nat) : Int) := wrapN _ (by omega) (by omega)
  refine D.bl (D.sq (D.region (T := none_) (by simp only [rulesA, rulesB, numbered, ayield, mapO, constAV, scAV, optval, abin, aint, acmp, aconv, aun, aeq, aminmax, afieldAddr, abuild, anew, fieldPlaces, afill, setSeg, kn_P, Nat.reduceAdd, Nat.reduceMul, Nat.reducePow, Nat.reduceSub, Nat.reduceEqDiff, Nat.reduceLT, Nat.reduceLeDiff, Int.reduceEq, Int.reduceNe, Int.reduceLT, Int.reduceLE, Int.reduceAdd, Int.reduceSub, Int.reduceToNat, Int.reduceBNe, Int.reduceBEq, tyR, hw1, hw2]; with_reducible rfl) ?_))
  simp only [rulesK, Nat.reduceEqDiff]
  have fin : ∀ {env' : AEnv} {H'' : AHeap} {b : List Int}, Fr H'' pf bf b → b.Perm a → Heap b n → (∀ i, n ≤ i → at_ b i = at_ a i) → Keep H H'' (fun j => j = bf) → UpS pf bf a (fun a' => Heap a' n ∧ ∀ i, n ≤ i → at_ a' i = at_ a i) H H'' := fun h1 h2 h3 h4 h5 => ⟨_, h1, h2, ⟨h3, h4⟩, h5⟩
  rcases Nat.lt_or_ge (2 * q + 1) n with h0 | h0
  rotate_left
  · have hd : decide (((2 * q + 1 : Nat) : Int) ≥ (n : Int)) = true := by simp; omega
    refine D.sq (D.sq (D.region (T := none_) (by simp only [rulesA, rulesB, numbered, ayield, mapO, constAV, scAV, optval, abin, aint, acmp, aconv, aun, aeq, aminmax, afieldAddr, abuild, anew, fieldPlaces, afill, setSeg, kn_P, Nat.reduceAdd, Nat.reduceMul, Nat.reducePow, Nat.reduceSub, Nat.reduceEqDiff, Nat.reduceLT, Nat.reduceLeDiff, Int.reduceEq, Int.reduceNe, Int.reduceLT, Int.reduceLE, Int.reduceAdd, Int.reduceSub, Int.reduceToNat, Int.reduceBNe, Int.reduceBEq, tyR, hd]; with_reducible rfl) ?_))
    simp only [rulesK, Nat.reduceEqDiff]
    refine D.cond (by simp only [rulesA, rulesB, numbered, ayield, mapO, constAV, scAV, optval, abin, aint, acmp, aconv, aun, aeq, aminmax, afieldAddr, abuild, anew, fieldPlaces, afill, setSeg, kn_P, Nat.reduceAdd, Nat.reduceMul, Nat.reducePow, Nat.reduceSub, Nat.reduceEqDiff, Nat.reduceLT, Nat.reduceLeDiff, Int.reduceEq, Int.reduceNe, Int.reduceLT, Int.reduceLE, Int.reduceAdd, Int.reduceSub, Int.reduceToNat, Int.reduceBNe, Int.reduceBEq, tyR]; with_reducible rfl) (fun h => ?_) (fun h => ?_)
    · refine D.exit ?_
      simp only [rulesK, Nat.reduceEqDiff]
      refine D.sq (D.region (T := none_) (by simp only [rulesA, rulesB, numbered, ayield, mapO, constAV, scAV, optval, abin, aint, acmp, aconv, aun, aeq, aminmax, afieldAddr, abuild, anew, fieldPlaces, afill, setSeg, kn_P, Nat.reduceAdd, Nat.reduceMul, Nat.reducePow, Nat.reduceSub, Nat.reduceEqDiff, Nat.reduceLT, Nat.reduceLeDiff, Int.reduceEq, Int.reduceNe, Int.reduceLT, Int.reduceLE, Int.reduceAdd, Int.reduceSub, Int.reduceToNat, Int.reduceBNe, Int.reduceBEq, tyR]; with_reducible rfl) ?_)
      simp only [rulesK, Nat.reduceEqDiff]
      refine D.ret ?_
      simp only [rulesK, Nat.reduceEqDiff]
      refine ⟨_, by simp only [resOf, aresult, rulesA, rulesB, numbered, ayield, mapO, constAV, scAV, optval, abin, aint, acmp, aconv, aun, aeq, aminmax, afieldAddr, abuild, anew, fieldPlaces, afill, setSeg, kn_P, Nat.reduceAdd, Nat.reduceMul, Nat.reducePow, Nat.reduceSub, Nat.reduceEqDiff, Nat.reduceLT, Nat.reduceLeDiff, Int.reduceEq, Int.reduceNe, Int.reduceLT, Int.reduceLE, Int.reduceAdd, Int.reduceSub, Int.reduceToNat, Int.reduceBNe, Int.reduceBEq, tyR]; with_reducible rfl, ?_⟩
      exact fin (env' := env) hFb hp (hub.stop (fun i h1 h2 h3 => by omega)) hrest hk
    · cases h
  have hd : decide (((2 * q + 1 : Nat) : Int) ≥ (n : Int)) = false := by simp; omega
  have hd2 : decide (((2 * q + 1 : Nat) : Int) < 0) = false := by simp; omega
  refine D.sq (D.sq (D.region (T := none_) (by simp only [rulesA, rulesB, numbered, ayield, mapO, constAV, scAV, optval, abin, aint, acmp, aconv, aun, aeq, aminmax, afieldAddr, abuild, anew, fieldPlaces, afill, setSeg, kn_P, Nat.reduceAdd, Nat.reduceMul, Nat.reducePow, Nat.reduceSub, Nat.reduceEqDiff, Nat.reduceLT, Nat.reduceLeDiff, Int.reduceEq, Int.reduceNe, Int.reduceLT, Int.reduceLE, Int.reduceAdd, Int.reduceSub, Int.reduceToNat, Int.reduceBNe, Int.reduceBEq, tyR, hd, hd2]; with_reducible rfl) ?_))
  simp only [rulesK, Nat.reduceEqDiff]
  refine D.cond (by simp only [rulesA, rulesB, numbered, ayield, mapO, constAV, scAV, optval, abin, aint, acmp, aconv, aun, aeq, aminmax, afieldAddr, abuild, anew, fieldPlaces, afill, setSeg, kn_P, Nat.reduceAdd, Nat.reduceMul, Nat.reducePow, Nat.reduceSub, Nat.reduceEqDiff, Nat.reduceLT, Nat.reduceLeDiff, Int.reduceEq, Int.reduceNe, Int.reduceLT, Int.reduceLE, Int.reduceAdd, Int.reduceSub, Int.reduceToNat, Int.reduceBNe, Int.reduceBEq, tyR]; with_reducible rfl) (fun h => ?_) (fun h => ?_)
  · cases h
  clear h
  refine D.skip ?_
  simp only [rulesK, Nat.reduceEqDiff]
  refine D.sq (D.region (T := none_) (by simp only [rulesA, rulesB, numbered, ayield, mapO, constAV, scAV, optval, abin, aint, acmp, aconv, aun, aeq, aminmax, afieldAddr, abuild, anew, fieldPlaces, afill, setSeg, kn_P, Nat.reduceAdd, Nat.reduceMul, Nat.reducePow, Nat.reduceSub, Nat.reduceEqDiff, Nat.reduceLT, Nat.reduceLeDiff, Int.reduceEq, Int.reduceNe, Int.reduceLT, Int.reduceLE, Int.reduceAdd, Int.reduceSub, Int.reduceToNat, Int.reduceBNe, Int.reduceBEq, tyR]; with_reducible rfl) ?_)
  simp only [rulesK, Nat.reduceEqDiff]
  refine D.forget (env0 := E 48 [(9, .int .i64 ((2 * q + 1 : Nat) : Int)), (8, .int .i64 ((2 * q + 1 : Nat) : Int)), (0, .iface 76 (.ptr (.own pf) 0)), (1, .int .i64 0), (2, .int .i64 n), (7, .int .i64 q)]) (by exact E_le (by decide) (E_size _ _) (by simp only [List.forall_mem_cons, List.not_mem_nil, false_implies, implies_true, and_true, E_get, Nat.reduceEqDiff, Nat.reduceLT, Nat.reduceLeDiff, if_true, if_false, and_self, true_and] <;> first | rfl | exact ⟨rfl, rfl⟩)) ?_
  refine D.sq (D.cutx (fun env' H'' => ∃ k : Nat, H'' = H' ∧ k < n ∧ 0 < k ∧ (k - 1) / 2 = q ∧ (∀ i, 0 < i → i < n → (i - 1) / 2 = q → at_ b k ≤ at_ b i) ∧ ELe (E 48 [(9, .int .i64 k), (0, .iface 76 (.ptr (.own pf) 0)), (1, .int .i64 0), (2, .int .i64 n), (7, .int .i64 q)]) env') ?_ ?_)
  · refine D.sq (D.region (T := none_) (by simp only [rulesA, rulesB, numbered, ayield, mapO, constAV, scAV, optval, abin, aint, acmp, aconv, aun, aeq, aminmax, afieldAddr, abuild, anew, fieldPlaces, afill, setSeg, kn_P, Nat.reduceAdd, Nat.reduceMul, Nat.reducePow, Nat.reduceSub, Nat.reduceEqDiff, Nat.reduceLT, Nat.reduceLeDiff, Int.reduceEq, Int.reduceNe, Int.reduceLT, Int.reduceLE, Int.reduceAdd, Int.reduceSub, Int.reduceToNat, Int.reduceBNe, Int.reduceBEq, tyR, hw3]; with_reducible rfl) ?_)
    simp only [rulesK, Nat.reduceEqDiff]
    rcases Nat.lt_or_ge (2 * q + 2) n with h2 | h2
    · have hd3 : decide (((2 * q + 2 : Nat) : Int) < (n : Int)) = true := by simp; omega
      obtain ⟨rl, Hl, hcl, rfl, rfl⟩ := call_only (κ := kn G base w0) (f := 87) (args := [.slice (.own bf) 1 0 b.length, .int .i64 ((2 * q + 2 : Nat) : Int), .int .i64 ((2 * q + 1 : Nat) : Int)]) (H := H') (fun _ H r H' => r = .bool (decide (at_ b (2 * q + 2) < at_ b (2 * q + 1))) ∧ H' = H) (fless_ok hFb.sl (by omega) (by omega))
      refine D.sq (D.regC hcl (by simp only [rulesA, rulesB, numbered, ayield, mapO, constAV, scAV, optval, abin, aint, acmp, aconv, aun, aeq, aminmax, afieldAddr, abuild, anew, fieldPlaces, afill, setSeg, kn_P, Nat.reduceAdd, Nat.reduceMul, Nat.reducePow, Nat.reduceSub, Nat.reduceEqDiff, Nat.reduceLT, Nat.reduceLeDiff, Int.reduceEq, Int.reduceNe, Int.reduceLT, Int.reduceLE, Int.reduceAdd, Int.reduceSub, Int.reduceToNat, Int.reduceBNe, Int.reduceBEq, tyR, hcl, hd3, am_less, hFb.ldv, hb63]; with_reducible rfl) ?_)
      simp only [rulesK, Nat.reduceEqDiff]
      refine D.cond (by simp only [rulesA, rulesB, numbered, ayield, mapO, constAV, scAV, optval, abin, aint, acmp, aconv, aun, aeq, aminmax, afieldAddr, abuild, anew, fieldPlaces, afill, setSeg, kn_P, Nat.reduceAdd, Nat.reduceMul, Nat.reducePow, Nat.reduceSub, Nat.reduceEqDiff, Nat.reduceLT, Nat.reduceLeDiff, Int.reduceEq, Int.reduceNe, Int.reduceLT, Int.reduceLE, Int.reduceAdd, Int.reduceSub, Int.reduceToNat, Int.reduceBNe, Int.reduceBEq, tyR]; with_reducible rfl) (fun h => ?_) (fun h => ?_)
      · simp only [decide_eq_true_eq] at h
        refine D.region (T := none_) (by simp only [rulesA, rulesB, numbered, ayield, mapO, constAV, scAV, optval, abin, aint, acmp, aconv, aun, aeq, aminmax, afieldAddr, abuild, anew, fieldPlaces, afill, setSeg, kn_P, Nat.reduceAdd, Nat.reduceMul, Nat.reducePow, Nat.reduceSub, Nat.reduceEqDiff, Nat.reduceLT, Nat.reduceLeDiff, Int.reduceEq, Int.reduceNe, Int.reduceLT, Int.reduceLE, Int.reduceAdd, Int.reduceSub, Int.reduceToNat, Int.reduceBNe, Int.reduceBEq, tyR]; with_reducible rfl) ?_
        simp only [rulesK, Nat.reduceEqDiff]
        refine ⟨2 * q + 2, (by first | exact rfl | exact True.intro), h2, by omega, by omega, fun i i1 i2 i3 => ?_, by exact E_le (by decide) (E_size _ _) (by simp only [List.forall_mem_cons, List.not_mem_nil, false_implies, implies_true, and_true, E_get, Nat.reduceEqDiff, Nat.reduceLT, Nat.reduceLeDiff, if_true, if_false, and_self, true_and] <;> first | rfl | exact ⟨rfl, rfl⟩)⟩
        rcases (show i = 2 * q + 1 ∨ i = 2 * q + 2 by omega) with e | e <;> subst e <;> omega
      · simp only [decide_eq_false_iff_not] at h
        refine D.skip ?_
        simp only [rulesK, Nat.reduceEqDiff]
        refine ⟨2 * q + 1, (by first | exact rfl | exact True.intro), h0, by omega, by omega, fun i i1 i2 i3 => ?_, by exact E_le (by decide) (E_size _ _) (by simp only [List.forall_mem_cons, List.not_mem_nil, false_implies, implies_true, and_true, E_get, Nat.reduceEqDiff, Nat.reduceLT, Nat.reduceLeDiff, if_true, if_false, and_self, true_and] <;> first | rfl | exact ⟨rfl, rfl⟩)⟩
        rcases (show i = 2 * q + 1 ∨ i = 2 * q + 2 by omega) with e | e <;> subst e <;> omega
    · have hd3 : decide (((2 * q + 2 : Nat) : Int) < (n : Int)) = false := by simp; omega
      refine D.sq (D.region (T := none_) (by simp only [rulesA, rulesB, numbered, ayield, mapO, constAV, scAV, optval, abin, aint, acmp, aconv, aun, aeq, aminmax, afieldAddr, abuild, anew, fieldPlaces, afill, setSeg, kn_P, Nat.reduceAdd, Nat.reduceMul, Nat.reducePow, Nat.reduceSub, Nat.reduceEqDiff, Nat.reduceLT, Nat.reduceLeDiff, Int.reduceEq, Int.reduceNe, Int.reduceLT, Int.reduceLE, Int.reduceAdd, Int.reduceSub, Int.reduceToNat, Int.reduceBNe, Int.reduceBEq, tyR, hd3]; with_reducible rfl) ?_)
      simp only [rulesK, Nat.reduceEqDiff]
      refine D.cond (by simp only [rulesA, rulesB, numbered, ayield, mapO, constAV, scAV, optval, abin, aint, acmp, aconv, aun, aeq, aminmax, afieldAddr, abuild, anew, fieldPlaces, afill, setSeg, kn_P, Nat.reduceAdd, Nat.reduceMul, Nat.reducePow, Nat.reduceSub, Nat.reduceEqDiff, Nat.reduceLT, Nat.reduceLeDiff, Int.reduceEq, Int.reduceNe, Int.reduceLT, Int.reduceLE, Int.reduceAdd, Int.reduceSub, Int.reduceToNat, Int.reduceBNe, Int.reduceBEq, tyR]; with_reducible rfl) (fun h => ?_) (fun h => ?_)
      · cases h
      refine D.skip ?_
      simp only [rulesK, Nat.reduceEqDiff]
      refine ⟨2 * q + 1, (by first | exact rfl | exact True.intro), h0, by omega, by omega, fun i i1 i2 i3 => ?_, by exact E_le (by decide) (E_size _ _) (by simp only [List.forall_mem_cons, List.not_mem_nil, false_implies, implies_true, and_true, E_get, Nat.reduceEqDiff, Nat.reduceLT, Nat.reduceLeDiff, if_true, if_false, and_self, true_and] <;> first | rfl | exact ⟨rfl, rfl⟩)⟩
      have e : i = 2 * q + 1 := by omega
      subst e; omega
  rintro env' H'' ⟨k, rfl, hkn, hk0, hkp, hkm, he⟩
  refine D.forget he ?_
  obtain ⟨rl, Hl, hcl, rfl, rfl⟩ := call_only (κ := kn G base w0) (f := 87) (args := [.slice (.own bf) 1 0 b.length, .int .i64 k, .int .i64 q]) (H := H'') (fun _ H r H' => r = .bool (decide (at_ b k < at_ b q)) ∧ H' = H) (fless_ok hFb.sl (by omega) (by omega))
  refine D.sq (D.sq (D.regC hcl (by simp only [rulesA, rulesB, numbered, ayield, mapO, constAV, scAV, optval, abin, aint, acmp, aconv, aun, aeq, aminmax, afieldAddr, abuild, anew, fieldPlaces, afill, setSeg, kn_P, Nat.reduceAdd, Nat.reduceMul, Nat.reducePow, Nat.reduceSub, Nat.reduceEqDiff, Nat.reduceLT, Nat.reduceLeDiff, Int.reduceEq, Int.reduceNe, Int.reduceLT, Int.reduceLE, Int.reduceAdd, Int.reduceSub, Int.reduceToNat, Int.reduceBNe, Int.reduceBEq, tyR, hcl, am_less, hFb.ldv, hb63]; with_reducible rfl) ?_))
  simp only [rulesK, Nat.reduceEqDiff]
  refine D.cond (by simp only [rulesA, rulesB, numbered, ayield, mapO, constAV, scAV, optval, abin, aint, acmp, aconv, aun, aeq, aminmax, afieldAddr, abuild, anew, fieldPlaces, afill, setSeg, kn_P, Nat.reduceAdd, Nat.reduceMul, Nat.reducePow, Nat.reduceSub, Nat.reduceEqDiff, Nat.reduceLT, Nat.reduceLeDiff, Int.reduceEq, Int.reduceNe, Int.reduceLT, Int.reduceLE, Int.reduceAdd, Int.reduceSub, Int.reduceToNat, Int.reduceBNe, Int.reduceBEq, tyR]; with_reducible rfl) (fun h => ?_) (fun h => ?_)
  · simp only [Bool.not_eq_true', decide_eq_false_iff_not, Int.not_lt] at h
    refine D.exit ?_
    simp only [rulesK, Nat.reduceEqDiff]
    refine D.sq (D.region (T := none_) (by simp only [rulesA, rulesB, numbered, ayield, mapO, constAV, scAV, optval, abin, aint, acmp, aconv, aun, aeq, aminmax, afieldAddr, abuild, anew, fieldPlaces, afill, setSeg, kn_P, Nat.reduceAdd, Nat.reduceMul, Nat.reducePow, Nat.reduceSub, Nat.reduceEqDiff, Nat.reduceLT, Nat.reduceLeDiff, Int.reduceEq, Int.reduceNe, Int.reduceLT, Int.reduceLE, Int.reduceAdd, Int.reduceSub, Int.reduceToNat, Int.reduceBNe, Int.reduceBEq, tyR]; with_reducible rfl) ?_)
    simp only [rulesK, Nat.reduceEqDiff]
    refine D.ret ?_
    simp only [rulesK, Nat.reduceEqDiff]
    refine ⟨_, by simp only [resOf, aresult, rulesA, rulesB, numbered, ayield, mapO, constAV, scAV, optval, abin, aint, acmp, aconv, aun, aeq, aminmax, afieldAddr, abuild, anew, fieldPlaces, afill, setSeg, kn_P, Nat.reduceAdd, Nat.reduceMul, Nat.reducePow, Nat.reduceSub, Nat.reduceEqDiff, Nat.reduceLT, Nat.reduceLeDiff, Int.reduceEq, Int.reduceNe, Int.reduceLT, Int.reduceLE, Int.reduceAdd, Int.reduceSub, Int.reduceToNat, Int.reduceBNe, Int.reduceBEq, tyR]; with_reducible rfl, ?_⟩
    exact fin (env' := env) hFb hp (hub.stop (fun i h1 h2 h3 => by have := hkm i h1 h2 h3; omega)) hrest hk
  simp only [Bool.not_eq_false', decide_eq_true_eq] at h
  refine D.skip ?_
  simp only [rulesK, Nat.reduceEqDiff]
  obtain ⟨rs, Hs, hcs, rfl, hFs, hks⟩ := call_only (κ := kn G base w0) (f := 90) (args := [.slice (.own bf) 1 0 b.length, .int .i64 q, .int .i64 k]) (H := Hl) (fun _ H r H' => r = .tuple [] ∧ Fr H' pf bf (swp b q k) ∧ Keep H H' (fun j => j = bf)) (fswap_ok hFb (by omega) (by omega))
  refine D.sq (D.regC hcs (by simp only [rulesA, rulesB, numbered, ayield, mapO, constAV, scAV, optval, abin, aint, acmp, aconv, aun, aeq, aminmax, afieldAddr, abuild, anew, fieldPlaces, afill, setSeg, kn_P, Nat.reduceAdd, Nat.reduceMul, Nat.reducePow, Nat.reduceSub, Nat.reduceEqDiff, Nat.reduceLT, Nat.reduceLeDiff, Int.reduceEq, Int.reduceNe, Int.reduceLT, Int.reduceLE, Int.reduceAdd, Int.reduceSub, Int.reduceToNat, Int.reduceBNe, Int.reduceBEq, tyR, hcs, am_swap, hFb.ldv, hb66]; with_reducible rfl) ?_)
  simp only [rulesK, Nat.reduceEqDiff]
  refine D.region (T := none_) (by simp only [rulesA, rulesB, numbered, ayield, mapO, constAV, scAV, optval, abin, aint, acmp, aconv, aun, aeq, aminmax, afieldAddr, abuild, anew, fieldPlaces, afill, setSeg, kn_P, Nat.reduceAdd, Nat.reduceMul, Nat.reducePow, Nat.reduceSub, Nat.reduceEqDiff, Nat.reduceLT, Nat.reduceLeDiff, Int.reduceEq, Int.reduceNe, Int.reduceLT, Int.reduceLE, Int.reduceAdd, Int.reduceSub, Int.reduceToNat, Int.reduceBNe, Int.reduceBEq, tyR]; with_reducible rfl) ?_
  simp only [rulesK, Nat.reduceEqDiff]
  refine ⟨n - k, by omega, k, swp b q k, (by first | exact rfl | exact True.intro), by omega, hFs, (swp_perm (by omega) (by omega)).trans hp, hub.step (by omega) hkn hk0 hkp h hkm, fun i hi => ?_, hk.trans hks, by exact E_le (by decide) (E_size _ _) (by simp only [List.forall_mem_cons, List.not_mem_nil, false_implies, implies_true, and_true, E_get, Nat.reduceEqDiff, Nat.reduceLT, Nat.reduceLeDiff, if_true, if_false, and_self, true_and] <;> first | rfl | exact ⟨rfl, rfl⟩)⟩
  rw [at_swp (by omega) (by omega), if_neg (by omega), if_neg (by omega)]
  exact hrest i hi
end Go.Proofs.Ytecfofmndpgnjaa.sy

/- container/heap's Push and Pop over slots.free (own work). -/
namespace Go.Proofs.Ytecfofmndpgnjaa.sy
open Go.AM Go.AM.Hp
set_option linter.unusedSimpArgs false
set_option linter.unusedVariables false
variable {G : List Nat → Option (List AV)} {base : Nat} {w0 : World}
set_option maxRecDepth 100000
theorem app_fr {H : AHeap} {pf bf : Nat} {a : List Int} (h : Fr H pf bf a) (x : Int) (hl : a.length < 1000000) :
    ∃ b' H', aappend (kn G base w0).c (hnew H (.row 3 1 [.int .i64 x])) 77 (.slice (.own bf) 1 0 a.length) (.slice (.own H.length) 1 0 1) = some (.slice (.own b') 1 0 (a.length + 1), H') ∧
      (∃ cells, hat H' b' = some (.row 3 1 cells) ∧ a.length + 1 ≤ cells.length ∧ cells.take (a.length + 1) = ints (a ++ [x])) ∧ Keep H H' (fun j => j = bf) ∧ (b' = bf ∨ H.length ≤ b') := by
  obtain ⟨cells, c1, c2, c3⟩ := h.row
  have hb := hat_lt c1
  have hb' : hat (hnew H (.row 3 1 [.int .i64 x])) bf = some (.row 3 1 cells) := by rw [hat_nw _ hb]; exact c1
  have hsrc : source (kn G base w0).c (hnew H (.row 3 1 [.int .i64 x])) 1 (.slice (.own H.length) 1 0 1) = some (1, [.int .i64 x]) := by
    simp [source, rd_own (hat_nn _)]
  have e1 : ints (a ++ [x]) = ints a ++ [.int .i64 x] := by simp
  rw [aappend_eq]
  simp only [aappend2, kn_P, Try.underlying77, Option.bind_some, in3, zc3, hsrc]
  rw [if_pos ⟨by omega, by omega, by trivial⟩, if_neg (by omega), if_pos ⟨by trivial, by simp [AV.one]⟩, hb']
  simp only []
  rw [if_pos ⟨by trivial, by trivial, by omega⟩]
  by_cases hc : (0 + a.length + 1) * 1 ≤ cells.length
  · rw [if_pos hc]
    refine ⟨bf, _, rfl, ⟨setSeg cells ((0 + a.length) * 1) [.int .i64 x], hat_eq _ (by rw [len_new]; omega), by simp [setSeg]; omega, ?_⟩, ⟨by simp [hnew], fun j hj hne => ?_⟩, .inl rfl⟩
    · rw [e1, ← c3]
      simp only [setSeg, Nat.zero_add, Nat.mul_one]
      rw [List.take_append, List.length_take, Nat.min_eq_left c2]
      rw [List.take_of_length_le (by simp; omega)]
      congr 1
      rw [show a.length + 1 - a.length = 1 by omega]
      rfl
    · rw [hat_ne _ hne, hat_nw _ hj]
  · rw [if_neg hc, if_pos (by omega)]
    have hcl : cells.length = a.length := by omega
    refine ⟨H.length + 1, hnew ((hnew H (.row 3 1 [.int .i64 x])).set bf none) (.row 3 1 ((cells.drop (0 * 1)).take (a.length * 1) ++ [.int .i64 x])), by simp [fresh, len_new], ⟨(cells.drop (0 * 1)).take (a.length * 1) ++ [.int .i64 x], ?_, by simp; omega, ?_⟩, ⟨by simp [hnew] <;> omega, fun j hj hne => ?_⟩, .inr (by omega)⟩
    · have := hat_nn (H := (hnew H (.row 3 1 [.int .i64 x])).set bf none) (.row 3 1 ((cells.drop (0 * 1)).take (a.length * 1) ++ [.int .i64 x]))
      rw [List.length_set, len_new] at this
      exact this
    · rw [e1, ← c3]
      simp only [Nat.zero_mul, List.drop_zero, Nat.mul_one]
      rw [List.take_of_length_le (by simp; omega)]
    · rw [hat_nw _ (by rw [List.length_set, len_new]; omega), hat_ne _ hne, hat_nw _ hj]
/-- f.Push(x) -/
theorem fpush_ok {H : AHeap} {pf bf : Nat} {a : List Int} (hF : Fr H pf bf a) (x : Int) (hl : a.length < 1000000) :
    ∃ r H', Pt (kn G base w0) 89 [.ptr (.own pf) 0, .iface 3 (.int .i64 x)] H r H' ∧ (r = .tuple [] ∧ ∃ b', Fr H' pf b' (a ++ [x]) ∧ Keep H H' (fun j => j = pf ∨ j = bf) ∧ (b' = bf ∨ H.length ≤ b')) := by
  obtain ⟨b', H2, h1, ⟨cells, c1, c2, c3⟩, hk, hb⟩ := app_fr (G := G) (base := base) (w0 := w0) hF x hl
  obtain ⟨hpl, hbl⟩ := hF.lt
  have hv2 : hat H2 pf = some (.row 77 1 [.slice (.own bf) 1 0 a.length]) := by rw [hk.2 pf hpl hF.ne]; exact hF.var
  have hp2 := hat_lt hv2
  have hne : pf ≠ b' := by rcases hb with rfl | hb; exact hF.ne; omega
  have w1 := wr_own hv2 (off := 0) (v := .slice (.own b') 1 0 (a.length + 1)) (by simp) rfl
  refine Pt.fn (n := 20) (rs := []) Try.func89 (b := _) rfl rfl rfl (by decide) ?_
  refine D.sq (D.region (T := none_) (by simp only [rulesA, rulesB, numbered, ayield, mapO, constAV, scAV, optval, abin, aint, acmp, aconv, aun, aeq, aminmax, afieldAddr, abuild, anew, fieldPlaces, afill, setSeg, kn_P, Nat.reduceAdd, Nat.reduceMul, Nat.reducePow, Nat.reduceSub, Nat.reduceEqDiff, Nat.reduceLT, Nat.reduceLeDiff, Int.reduceEq, Int.reduceNe, Int.reduceLT, Int.reduceLE, Int.reduceAdd, Int.reduceSub, Int.reduceToNat, Int.reduceBNe, Int.reduceBEq, tyR]; with_reducible rfl) ?_)
  simp only [rulesK, Nat.reduceEqDiff]
  refine D.sq (D.region (T := none_) (by simp only [rulesA, rulesB, numbered, ayield, mapO, constAV, scAV, optval, abin, aint, acmp, aconv, aun, aeq, aminmax, afieldAddr, abuild, anew, fieldPlaces, afill, setSeg, kn_P, Nat.reduceAdd, Nat.reduceMul, Nat.reducePow, Nat.reduceSub, Nat.reduceEqDiff, Nat.reduceLT, Nat.reduceLeDiff, Int.reduceEq, Int.reduceNe, Int.reduceLT, Int.reduceLE, Int.reduceAdd, Int.reduceSub, Int.reduceToNat, Int.reduceBNe, Int.reduceBEq, tyR]; with_reducible rfl) ?_)
  simp only [rulesK, Nat.reduceEqDiff]
  refine D.cond (by simp only [rulesA, rulesB, numbered, ayield, mapO, constAV, scAV, optval, abin, aint, acmp, aconv, aun, aeq, aminmax, afieldAddr, abuild, anew, fieldPlaces, afill, setSeg, kn_P, Nat.reduceAdd, Nat.reduceMul, Nat.reducePow, Nat.reduceSub, Nat.reduceEqDiff, Nat.reduceLT, Nat.reduceLeDiff, Int.reduceEq, Int.reduceNe, Int.reduceLT, Int.reduceLE, Int.reduceAdd, Int.reduceSub, Int.reduceToNat, Int.reduceBNe, Int.reduceBEq, tyR]; with_reducible rfl) (fun h => ?_) (fun h => ?_)
  rotate_left
  · cases h
  refine D.region (T := none_) (by simp only [rulesA, rulesB, numbered, ayield, mapO, constAV, scAV, optval, abin, aint, acmp, aconv, aun, aeq, aminmax, afieldAddr, abuild, anew, fieldPlaces, afill, setSeg, kn_P, Nat.reduceAdd, Nat.reduceMul, Nat.reducePow, Nat.reduceSub, Nat.reduceEqDiff, Nat.reduceLT, Nat.reduceLeDiff, Int.reduceEq, Int.reduceNe, Int.reduceLT, Int.reduceLE, Int.reduceAdd, Int.reduceSub, Int.reduceToNat, Int.reduceBNe, Int.reduceBEq, tyR, hF.ldv, abuildSlice, reps, fresh, h1, astore, w1, List.set_cons_zero]; with_reducible rfl) ?_
  refine ⟨_, rfl, rfl, b', ⟨?_, ⟨cells, ?_, by simpa using c2, by simpa using c3⟩, hne⟩, ?_, hb⟩
  · rw [hat_eq _ hp2]; simp
  · rw [hat_ne _ (fun e => hne e.symm)]; exact c1
  · exact (hk.mono (fun _ _ e => .inr e)).trans' (Keep.set pf _) (fun _ _ e => .inl e)
/-- f.Pop() -/
theorem fpop_ok {H : AHeap} {pf bf : Nat} {a : List Int} (hF : Fr H pf bf a) {n : Nat} (hn : a.length = n + 1) (hl : a.length < 1000000) :
    ∃ r H', Pt (kn G base w0) 88 [.ptr (.own pf) 0] H r H' ∧ (r = .iface 3 (.int .i64 (at_ a n)) ∧ Fr H' pf bf (a.take n) ∧ Keep H H' (fun j => j = pf)) := by
  obtain ⟨hpl, hbl⟩ := hF.lt
  have hw : IntKind.i64.wrap ((a.length : Int) - 1) = (n : Int) := wrapN n (by omega) (by omega)
  have hsl : aslice (kn G base w0).c H 77 (.slice (.own bf) 1 0 a.length) none (some (.int .i64 n)) none = some (.slice (.own bf) 1 0 n, H) := by
    simp only [aslice, kn_P, Try.underlying77, Option.bind_some, sz3, abound]
    rw [if_neg (by simp)]
    try simp only [Option.bind_some]
    rw [if_pos (by omega)]
    try simp only [Option.bind_some, Int.toNat_natCast]
    rw [if_pos ⟨by omega, .inl (by omega)⟩]
    rfl
  have w1 := wr_own hF.var (off := 0) (v := .slice (.own bf) 1 0 n) (by simp) rfl
  refine Pt.fn (n := 25) (rs := [.tmp 2]) Try.func88 (b := _) rfl rfl rfl (by decide) ?_
  refine D.sq (D.region (T := none_) (by simp only [rulesA, rulesB, numbered, ayield, mapO, constAV, scAV, optval, abin, aint, acmp, aconv, aun, aeq, aminmax, afieldAddr, abuild, anew, fieldPlaces, afill, setSeg, kn_P, Nat.reduceAdd, Nat.reduceMul, Nat.reducePow, Nat.reduceSub, Nat.reduceEqDiff, Nat.reduceLT, Nat.reduceLeDiff, Int.reduceEq, Int.reduceNe, Int.reduceLT, Int.reduceLE, Int.reduceAdd, Int.reduceSub, Int.reduceToNat, Int.reduceBNe, Int.reduceBEq, tyR]; with_reducible rfl) ?_)
  simp only [rulesK, Nat.reduceEqDiff]
  refine D.sq (D.region (T := none_) (by simp only [rulesA, rulesB, numbered, ayield, mapO, constAV, scAV, optval, abin, aint, acmp, aconv, aun, aeq, aminmax, afieldAddr, abuild, anew, fieldPlaces, afill, setSeg, kn_P, Nat.reduceAdd, Nat.reduceMul, Nat.reducePow, Nat.reduceSub, Nat.reduceEqDiff, Nat.reduceLT, Nat.reduceLeDiff, Int.reduceEq, Int.reduceNe, Int.reduceLT, Int.reduceLE, Int.reduceAdd, Int.reduceSub, Int.reduceToNat, Int.reduceBNe, Int.reduceBEq, tyR, hF.ldv, hF.sl.len Try.underlying77, ints_len, hw, alen]; with_reducible rfl) ?_)
  simp only [rulesK, Nat.reduceEqDiff]
  refine D.sq (D.region (T := none_) (by simp only [rulesA, rulesB, numbered, ayield, mapO, constAV, scAV, optval, abin, aint, acmp, aconv, aun, aeq, aminmax, afieldAddr, abuild, anew, fieldPlaces, afill, setSeg, kn_P, Nat.reduceAdd, Nat.reduceMul, Nat.reducePow, Nat.reduceSub, Nat.reduceEqDiff, Nat.reduceLT, Nat.reduceLeDiff, Int.reduceEq, Int.reduceNe, Int.reduceLT, Int.reduceLE, Int.reduceAdd, Int.reduceSub, Int.reduceToNat, Int.reduceBNe, Int.reduceBEq, tyR, hF.ldv, own_ia (show n < a.length by omega), hF.ld (show n < a.length by omega)]; with_reducible rfl) ?_)
  simp only [rulesK, Nat.reduceEqDiff]
  refine D.sq (D.region (T := none_) (by simp only [rulesA, rulesB, numbered, ayield, mapO, constAV, scAV, optval, abin, aint, acmp, aconv, aun, aeq, aminmax, afieldAddr, abuild, anew, fieldPlaces, afill, setSeg, kn_P, Nat.reduceAdd, Nat.reduceMul, Nat.reducePow, Nat.reduceSub, Nat.reduceEqDiff, Nat.reduceLT, Nat.reduceLeDiff, Int.reduceEq, Int.reduceNe, Int.reduceLT, Int.reduceLE, Int.reduceAdd, Int.reduceSub, Int.reduceToNat, Int.reduceBNe, Int.reduceBEq, tyR, hF.ldv, hsl, astore, w1, List.set_cons_zero]; with_reducible rfl) ?_)
  simp only [rulesK, Nat.reduceEqDiff]
  refine D.sq (D.region (T := none_) (by simp only [rulesA, rulesB, numbered, ayield, mapO, constAV, scAV, optval, abin, aint, acmp, aconv, aun, aeq, aminmax, afieldAddr, abuild, anew, fieldPlaces, afill, setSeg, kn_P, Nat.reduceAdd, Nat.reduceMul, Nat.reducePow, Nat.reduceSub, Nat.reduceEqDiff, Nat.reduceLT, Nat.reduceLeDiff, Int.reduceEq, Int.reduceNe, Int.reduceLT, Int.reduceLE, Int.reduceAdd, Int.reduceSub, Int.reduceToNat, Int.reduceBNe, Int.reduceBEq, tyR]; with_reducible rfl) ?_)
  simp only [rulesK, Nat.reduceEqDiff]
  refine D.ret ?_
  simp only [rulesK, Nat.reduceEqDiff]
  refine ⟨_, by simp only [resOf, aresult, rulesA, rulesB, numbered, ayield, mapO, constAV, scAV, optval, abin, aint, acmp, aconv, aun, aeq, aminmax, afieldAddr, abuild, anew, fieldPlaces, afill, setSeg, kn_P, Nat.reduceAdd, Nat.reduceMul, Nat.reducePow, Nat.reduceSub, Nat.reduceEqDiff, Nat.reduceLT, Nat.reduceLeDiff, Int.reduceEq, Int.reduceNe, Int.reduceLT, Int.reduceLE, Int.reduceAdd, Int.reduceSub, Int.reduceToNat, Int.reduceBNe, Int.reduceBEq, tyR]; with_reducible rfl, ?_⟩
  obtain ⟨cells, c1, c2, c3⟩ := hF.row
  have htl : (a.take n).length = n := by simp; omega
  refine ⟨(by first | exact rfl | exact True.intro), ⟨?_, ⟨cells, ?_, by rw [htl]; omega, ?_⟩, hF.ne⟩, Keep.set pf _⟩
  · rw [hat_eq _ hpl, htl]
  · rw [hat_ne _ (fun e => hF.ne e.symm)]; exact c1
  · rw [htl]
    have : ints (a.take n) = (ints a).take n := by simp [ints]
    rw [this, ← c3, List.take_take, Nat.min_eq_left (by omega)]
theorem upto_push {a : List Int} (h : Heap a a.length) (x : Int) : UpTo (a ++ [x]) (a ++ [x]).length a.length := by
  have e : ∀ i, i < a.length → at_ (a ++ [x]) i = at_ a i := by
    intro i hi
    simp [at_, List.getD_eq_getElem?_getD, List.getElem?_append_left hi]
  refine ⟨fun i h0 hi hne => ?_, fun i h0 hi hp hj => ?_⟩
  · simp at hi
    rw [e _ (by omega), e _ (by omega)]
    exact h i h0 (by omega)
  · simp at hi; omega
/-- what is told behind heap.Push -/
def PushS (pf bf : Nat) (a : List Int) (x : Int) (H : AHeap) : AV → AHeap → Prop := fun r H' => ∃ b' a', Fr H' pf b' a' ∧ a'.Perm (a ++ [x]) ∧ Heap a' a'.length ∧ Keep H H' (fun j => j = pf ∨ j = bf) ∧ (b' = bf ∨ H.length ≤ b')
theorem hpush_ok {H : AHeap} {pf bf : Nat} {a : List Int} (hF : Fr H pf bf a) (x : Int) (hl : a.length < 100000) (hh : Heap a a.length) :
    ∃ r H', Pt (kn G base w0) 36 [.iface 76 (.ptr (.own pf) 0), .iface 3 (.int .i64 x)] H r H' ∧ PushS pf bf a x H r H' := by
  refine Pt.fn (n := 12) (rs := []) Try.func36 (b := _) rfl rfl rfl (by decide) ?_
  obtain ⟨r1, H1, hc1, rfl, b', hF1, hk1, hb1⟩ := call_only (κ := kn G base w0) (f := 89) (args := [.ptr (.own pf) 0, .iface 3 (.int .i64 x)]) (H := H) (fun _ H r H' => r = .tuple [] ∧ ∃ b', Fr H' pf b' (a ++ [x]) ∧ Keep H H' (fun j => j = pf ∨ j = bf) ∧ (b' = bf ∨ H.length ≤ b')) (fpush_ok hF x (by omega))
  refine D.sq (D.regC hc1 (by simp only [rulesA, rulesB, numbered, ayield, mapO, constAV, scAV, optval, abin, aint, acmp, aconv, aun, aeq, aminmax, afieldAddr, abuild, anew, fieldPlaces, afill, setSeg, kn_P, Nat.reduceAdd, Nat.reduceMul, Nat.reducePow, Nat.reduceSub, Nat.reduceEqDiff, Nat.reduceLT, Nat.reduceLeDiff, Int.reduceEq, Int.reduceNe, Int.reduceLT, Int.reduceLE, Int.reduceAdd, Int.reduceSub, Int.reduceToNat, Int.reduceBNe, Int.reduceBEq, tyR, hc1, am_push, hb65]; with_reducible rfl) ?_)
  simp only [rulesK, Nat.reduceEqDiff]
  obtain ⟨r2, H2, hc2, rfl, rfl⟩ := call_two1 (κ := kn G base w0) (f := 37) (args := [.slice (.own b') 1 0 (a ++ [x]).length]) (H := H1) (fun _ H r H' => r = .int .i64 (a ++ [x]).length ∧ H' = H) (g := 43) (fun _ H _ H' => UpS pf b' (a ++ [x]) (fun a' => Heap a' a'.length) H H') (by decide) (flen_ok hF1.sl)
  have hw : IntKind.i64.wrap (((a ++ [x]).length : Int) - 1) = (a.length : Int) := wrapN _ (by simp) (by omega)
  have hup := up_ok (G := G) (base := base) (w0 := w0) hF1 (j := a.length) (by simp) (by simp; omega) (upto_push hh x)
  obtain ⟨r3, H3, hc3, a', hF3, hp3, hh3, hk3⟩ := call_two2 (κ := kn G base w0) (f := 37) (fun _ H r H' => r = .int .i64 (a ++ [x]).length ∧ H' = H) (g := 43) (args := [.iface 76 (.ptr (.own pf) 0), .int .i64 a.length]) (H := H2) (fun _ H _ H' => UpS pf b' (a ++ [x]) (fun a' => Heap a' a'.length) H H') (by decide) (by
    obtain ⟨r, H', q1, q2, q3⟩ := hup
    exact ⟨r, H', q1, q3⟩)
  refine D.regC hc2 (by simp only [rulesA, rulesB, numbered, ayield, mapO, constAV, scAV, optval, abin, aint, acmp, aconv, aun, aeq, aminmax, afieldAddr, abuild, anew, fieldPlaces, afill, setSeg, kn_P, Nat.reduceAdd, Nat.reduceMul, Nat.reducePow, Nat.reduceSub, Nat.reduceEqDiff, Nat.reduceLT, Nat.reduceLeDiff, Int.reduceEq, Int.reduceNe, Int.reduceLT, Int.reduceLE, Int.reduceAdd, Int.reduceSub, Int.reduceToNat, Int.reduceBNe, Int.reduceBEq, tyR, hc2, hc3, am_len, hF1.ldv, hb16, hw, hb20]; with_reducible rfl) ?_
  simp only [rulesK, Nat.reduceEqDiff]
  refine ⟨_, rfl, b', a', hF3, hp3, hh3, hk1.trans' hk3 (fun j hj e => ?_), hb1⟩
  rcases hb1 with rfl | hb1
  · exact .inr e
  · omega
/-- what is told behind heap.Pop: the least number is taken out -/
def PopS (pf bf : Nat) (a : List Int) (H : AHeap) : AV → AHeap → Prop := fun r H' => ∃ (m : Int) (a' : List Int), r = .iface 3 (.int .i64 m) ∧ Fr H' pf bf a' ∧ (m :: a').Perm a ∧ (∀ x ∈ a, m ≤ x) ∧ Heap a' a'.length ∧ Keep H H' (fun j => j = pf ∨ j = bf)
theorem hpop_ok {H : AHeap} {pf bf : Nat} {a : List Int} (hF : Fr H pf bf a) {n : Nat} (hn : a.length = n + 1) (hl : a.length < 100000) (hh : Heap a a.length) :
    ∃ r H', Pt (kn G base w0) 38 [.iface 76 (.ptr (.own pf) 0)] H r H' ∧ PopS pf bf a H r H' := by
  refine Pt.fn (n := 15) (rs := [.tmp 2]) Try.func38 (b := _) rfl rfl rfl (by decide) ?_
  refine D.sq (D.region (T := none_) (by simp only [rulesA, rulesB, numbered, ayield, mapO, constAV, scAV, optval, abin, aint, acmp, aconv, aun, aeq, aminmax, afieldAddr, abuild, anew, fieldPlaces, afill, setSeg, kn_P, Nat.reduceAdd, Nat.reduceMul, Nat.reducePow, Nat.reduceSub, Nat.reduceEqDiff, Nat.reduceLT, Nat.reduceLeDiff, Int.reduceEq, Int.reduceNe, Int.reduceLT, Int.reduceLE, Int.reduceAdd, Int.reduceSub, Int.reduceToNat, Int.reduceBNe, Int.reduceBEq, tyR]; with_reducible rfl) ?_)
  simp only [rulesK, Nat.reduceEqDiff]
  have hw : IntKind.i64.wrap ((a.length : Int) - 1) = (n : Int) := wrapN n (by omega) (by omega)
  obtain ⟨r1, H1, hc1, rfl, rfl⟩ := call_only (κ := kn G base w0) (f := 37) (args := [.slice (.own bf) 1 0 a.length]) (H := H) (fun _ H r H' => r = .int .i64 a.length ∧ H' = H) (flen_ok hF.sl)
  refine D.sq (D.regC hc1 (by simp only [rulesA, rulesB, numbered, ayield, mapO, constAV, scAV, optval, abin, aint, acmp, aconv, aun, aeq, aminmax, afieldAddr, abuild, anew, fieldPlaces, afill, setSeg, kn_P, Nat.reduceAdd, Nat.reduceMul, Nat.reducePow, Nat.reduceSub, Nat.reduceEqDiff, Nat.reduceLT, Nat.reduceLeDiff, Int.reduceEq, Int.reduceNe, Int.reduceLT, Int.reduceLE, Int.reduceAdd, Int.reduceSub, Int.reduceToNat, Int.reduceBNe, Int.reduceBEq, tyR, hc1, am_len, hF.ldv, hb16, hw]; with_reducible rfl) ?_)
  simp only [rulesK, Nat.reduceEqDiff]
  obtain ⟨r2, H2, hc2, rfl, hF2, hk2⟩ := call_only (κ := kn G base w0) (f := 90) (args := [.slice (.own bf) 1 0 a.length, .int .i64 0, .int .i64 n]) (H := H1) (fun _ H r H' => r = .tuple [] ∧ Fr H' pf bf (swp a 0 n) ∧ Keep H H' (fun j => j = bf)) (fswap_ok (i := 0) (k := n) hF (by omega) (by omega))
  refine D.sq (D.regC hc2 (by simp only [rulesA, rulesB, numbered, ayield, mapO, constAV, scAV, optval, abin, aint, acmp, aconv, aun, aeq, aminmax, afieldAddr, abuild, anew, fieldPlaces, afill, setSeg, kn_P, Nat.reduceAdd, Nat.reduceMul, Nat.reducePow, Nat.reduceSub, Nat.reduceEqDiff, Nat.reduceLT, Nat.reduceLeDiff, Int.reduceEq, Int.reduceNe, Int.reduceLT, Int.reduceLE, Int.reduceAdd, Int.reduceSub, Int.reduceToNat, Int.reduceBNe, Int.reduceBEq, tyR, hc2, am_swap, hF.ldv, hb66]; with_reducible rfl) ?_)
  simp only [rulesK, Nat.reduceEqDiff]
  have hdt : DownTo (swp a 0 n) n 0 := by
    refine ⟨fun i h0 hi hne => ?_, fun i _ _ _ h => by omega⟩
    rw [at_swp (by omega) (by omega), at_swp (by omega) (by omega), if_neg hne, if_neg (by omega), if_neg (by omega), if_neg (by omega)]
    exact hh i h0 (by omega)
  obtain ⟨r3, H3, hc3, b, hF3, hp3, ⟨hh3, hr3⟩, hk3⟩ := call_only (κ := kn G base w0) (f := 44) (args := [.iface 76 (.ptr (.own pf) 0), .int .i64 0, .int .i64 n]) (H := H2) (fun _ H _ H' => UpS pf bf (swp a 0 n) (fun a' => Heap a' n ∧ ∀ i, n ≤ i → at_ a' i = at_ (swp a 0 n) i) H H') (down_ok hF2 (by rw [swp_len]; omega) (by rw [swp_len]; omega) hdt)
  refine D.sq (D.regC hc3 (by simp only [rulesA, rulesB, numbered, ayield, mapO, constAV, scAV, optval, abin, aint, acmp, aconv, aun, aeq, aminmax, afieldAddr, abuild, anew, fieldPlaces, afill, setSeg, kn_P, Nat.reduceAdd, Nat.reduceMul, Nat.reducePow, Nat.reduceSub, Nat.reduceEqDiff, Nat.reduceLT, Nat.reduceLeDiff, Int.reduceEq, Int.reduceNe, Int.reduceLT, Int.reduceLE, Int.reduceAdd, Int.reduceSub, Int.reduceToNat, Int.reduceBNe, Int.reduceBEq, tyR, hc3, hb21]; with_reducible rfl) ?_)
  simp only [rulesK, Nat.reduceEqDiff]
  have hbl : b.length = n + 1 := by rw [hp3.length_eq, swp_len, hn]
  obtain ⟨r4, H4, hc4, rfl, hF4, hk4⟩ := call_only (κ := kn G base w0) (f := 88) (args := [.ptr (.own pf) 0]) (H := H3) (fun _ H r H' => r = .iface 3 (.int .i64 (at_ b n)) ∧ Fr H' pf bf (b.take n) ∧ Keep H H' (fun j => j = pf)) (fpop_ok hF3 hbl (by omega))
  refine D.sq (D.regC hc4 (by simp only [rulesA, rulesB, numbered, ayield, mapO, constAV, scAV, optval, abin, aint, acmp, aconv, aun, aeq, aminmax, afieldAddr, abuild, anew, fieldPlaces, afill, setSeg, kn_P, Nat.reduceAdd, Nat.reduceMul, Nat.reducePow, Nat.reduceSub, Nat.reduceEqDiff, Nat.reduceLT, Nat.reduceLeDiff, Int.reduceEq, Int.reduceNe, Int.reduceLT, Int.reduceLE, Int.reduceAdd, Int.reduceSub, Int.reduceToNat, Int.reduceBNe, Int.reduceBEq, tyR, hc4, am_pop, hb64]; with_reducible rfl) ?_)
  simp only [rulesK, Nat.reduceEqDiff]
  refine D.ret ?_
  simp only [rulesK, Nat.reduceEqDiff]
  refine ⟨_, by simp only [resOf, aresult, rulesA, rulesB, numbered, ayield, mapO, constAV, scAV, optval, abin, aint, acmp, aconv, aun, aeq, aminmax, afieldAddr, abuild, anew, fieldPlaces, afill, setSeg, kn_P, Nat.reduceAdd, Nat.reduceMul, Nat.reducePow, Nat.reduceSub, Nat.reduceEqDiff, Nat.reduceLT, Nat.reduceLeDiff, Int.reduceEq, Int.reduceNe, Int.reduceLT, Int.reduceLE, Int.reduceAdd, Int.reduceSub, Int.reduceToNat, Int.reduceBNe, Int.reduceBEq, tyR]; with_reducible rfl, ?_⟩
  have hbn : at_ b n = at_ a 0 := by
    rw [hr3 n (Nat.le_refl _), at_swp (by omega) (by omega)]
    split
    · rename_i h; rw [h]
    · rw [if_pos rfl]
  have hpm : (at_ b n :: b.take n).Perm a := by
    have e : b.take n ++ [at_ b n] = b := by
      rw [at_get (by omega), ← List.take_succ_eq_append_getElem (by omega), ← hbl, List.take_length]
    have h1 : (at_ b n :: b.take n).Perm (b.take n ++ [at_ b n]) := (List.perm_append_singleton _ _).symm
    exact h1.trans (by rw [e]; exact hp3.trans (swp_perm (by omega) (by omega)))
  refine ⟨_, _, rfl, hF4, hpm, fun x hx => by rw [hbn]; exact heap_least hh x hx, ?_, ?_⟩
  · have htl : (b.take n).length = n := by simp; omega
    rw [htl]
    intro i h0 hi
    have e : ∀ j, j < n → at_ (b.take n) j = at_ b j := by
      intro j hj; simp [at_, List.getD_eq_getElem?_getD, List.getElem?_take, hj]
    rw [e _ (by omega), e _ hi]
    exact hh3 i h0 hi
  · have k1 : Keep H1 H3 (fun j => j = pf ∨ j = bf) := (hk2.trans hk3).mono (fun _ _ e => .inr e)
    exact k1.trans' hk4 (fun _ _ e => .inl e)
end Go.Proofs.Ytecfofmndpgnjaa.sy

/-
  A WORLD THAT HAS GROWN (own work): what a contract that leaves alone whatever lay says of the abstract heap.
-/
namespace Go.AM
open Go.RowKit

variable {c : Ctx} {base : Nat} {w0 w w' : World} {ρ : Pl} {H : AHeap}

theorem cell_below {B : Nat} {a b : World} (h : Below B a b) {p : Addr} (hp : p.block < B) : b.cell? p = a.cell? p := World.cell?_of_block (h.block _ hp)

/-- nothing new -/
theorem post_grow (h : Rel c base w0 ρ H w) (hb : Below w.heap.size w w') : Post c base w0 ρ H w ρ H w' := by
  refine ⟨⟨h.below.trans (hb.mono h.size), Nat.le_trans h.size hb.size, ?_, h.inj, ?_, h.glob⟩, Ext.refl _, fun l p e => .inl e, Nat.le_refl _, hb.size, fun k hk _ => hb.block k hk, fun i o p e s r => .inr ⟨i, o, p, e, s, r, rfl⟩⟩
  · intro i o e
    obtain ⟨q, hq, ho, hbs⟩ := h.own i o e
    exact ⟨q, hq, ho.mono (Ext.refl _) (fun s => hb.block _ (rel_lt h e hq s)), hbs⟩
  · intro path cells hG
    obtain ⟨q, hq, hb', hc⟩ := h.ext path cells hG
    refine ⟨q, hq, hb', fun j v hj => ?_⟩
    obtain ⟨x, hx, hv, h1⟩ := hc j v hj
    exact ⟨x, (cell_below hb (World.block_lt_of_cell? w _ hx)).trans hx, hv, h1⟩

/-- one new object -/
theorem post_fresh (h : Rel c base w0 ρ H w) (hf : ρ (.own H.length) = none) (hb : Below w.heap.size w w') (o : AObj) (p : Place) (hp : w.heap.size ≤ p.b) (ho : ObjR (upd ρ (.own H.length) p) p w'.heap o) :
    Post c base w0 ρ H w (upd ρ (.own H.length) p) (hnew H o) w' := by
  have he : Ext ρ (upd ρ (.own H.length) p) := upd_ext hf
  have hlt : ∀ {i o p}, hat H i = some o → ρ (.own i) = some p → o.solid = true → p.b < w.heap.size := fun e r s => rel_lt h e r s
  refine ⟨⟨h.below.trans (hb.mono h.size), Nat.le_trans h.size hb.size, ?_, ?_, ?_, ?_⟩, he, ?_, by simp [hnew], hb.size, fun k hk _ => hb.block k hk, ?_⟩
  · intro i o' e
    rw [hat_new] at e
    split at e
    · rename_i hi; subst hi; cases e
      exact ⟨p, upd_same _ _ _, ho, fun _ => Nat.le_trans h.size hp⟩
    · obtain ⟨q, hq, ho', hbs⟩ := h.own i o' e
      exact ⟨q, he _ _ hq, ho'.mono he (fun s => hb.block _ (hlt e hq s)), hbs⟩
  · intro i j o1 o2 q1 q2 e1 e2 s1 s2 r1 r2 hq
    rw [hat_new] at e1 e2
    split at e1 <;> split at e2
    · omega
    · rename_i hi hj; subst hi
      rw [upd_same] at r1; cases r1
      rw [upd_ne ρ p (by simpa using hj)] at r2
      have := hlt e2 r2 s2; omega
    · rename_i hi hj; subst hj
      rw [upd_same] at r2; cases r2
      rw [upd_ne ρ p (by simpa using hi)] at r1
      have := hlt e1 r1 s1; omega
    · rename_i hi hj
      rw [upd_ne ρ p (by simpa using hi)] at r1
      rw [upd_ne ρ p (by simpa using hj)] at r2
      exact h.inj i j o1 o2 q1 q2 e1 e2 s1 s2 r1 r2 hq
  · intro path cells hG
    obtain ⟨q, hq, hb', hc⟩ := h.ext path cells hG
    refine ⟨q, he _ _ hq, hb', fun j v hj => ?_⟩
    obtain ⟨x, hx, hv, h1⟩ := hc j v hj
    exact ⟨x, (cell_below hb (World.block_lt_of_cell? w _ hx)).trans hx, hv.mono he, h1⟩
  · intro g; obtain ⟨n, hn⟩ := h.glob g; exact ⟨n, he _ _ hn⟩
  · intro l q e
    by_cases hl : l = .own H.length
    · exact .inr ⟨H.length, hl, Nat.le_refl _, by simp [hnew]⟩
    · rw [upd_ne ρ p hl] at e; exact .inl e
  · intro i o' q e s r
    rw [hat_new] at e
    split at e
    · rename_i hi; subst hi; rw [upd_same] at r; cases r; exact .inl hp
    · rename_i hi
      rw [upd_ne ρ p (by simpa using hi)] at r
      exact .inr ⟨i, o', q, e, s, r, rfl⟩

def intsOf : List AV → Option (List Int)
  | [] => some []
  | .int .i64 n :: r => (intsOf r).map fun l => n :: l
  | _ :: _ => none

theorem intsOf_eq : ∀ {l : List AV} {zs : List Int}, intsOf l = some zs → l = zs.map (.int .i64)
  | [], zs, e => by simp [intsOf] at e; subst e; rfl
  | .int .i64 n :: r, zs, e => by
    simp only [intsOf, Option.map_eq_some_iff] at e
    obtain ⟨l, hl, rfl⟩ := e
    rw [intsOf_eq hl]; rfl
  | .int .i8 _ :: _, zs, e => by simp [intsOf] at e
  | .int .i16 _ :: _, zs, e => by simp [intsOf] at e
  | .int .i32 _ :: _, zs, e => by simp [intsOf] at e
  | .int .u8 _ :: _, zs, e => by simp [intsOf] at e
  | .int .u16 _ :: _, zs, e => by simp [intsOf] at e
  | .int .u32 _ :: _, zs, e => by simp [intsOf] at e
  | .int .u64 _ :: _, zs, e => by simp [intsOf] at e
  | .bool _ :: _, zs, e => by simp [intsOf] at e
  | .str _ :: _, zs, e => by simp [intsOf] at e
  | .nilptr :: _, zs, e => by simp [intsOf] at e
  | .ptr _ _ :: _, zs, e => by simp [intsOf] at e
  | .nilslice :: _, zs, e => by simp [intsOf] at e
  | .slice _ _ _ _ :: _, zs, e => by simp [intsOf] at e
  | .odd _ :: _, zs, e => by simp [intsOf] at e
  | .nilmap :: _, zs, e => by simp [intsOf] at e
  | .map _ :: _, zs, e => by simp [intsOf] at e
  | .nilfunc :: _, zs, e => by simp [intsOf] at e
  | .func _ _ _ :: _, zs, e => by simp [intsOf] at e
  | .niliface :: _, zs, e => by simp [intsOf] at e
  | .iface _ _ :: _, zs, e => by simp [intsOf] at e
  | .agg _ :: _, zs, e => by simp [intsOf] at e
  | .tuple _ :: _, zs, e => by simp [intsOf] at e

/-- a new slice of ints, as a contract with 'ownsRow' hands it back -/
theorem post_ints (h : Rel c base w0 ρ H w) (hf : ρ (.own H.length) = none) (hb : Below w.heap.size w w') {v : Value} {e : TypeId} {zs : List Int} (hr : w'.ownsRow w.heap.size e 1 v zs.length (zs.map fun x => Value.int .i64 x)) (hne : zs ≠ []) :
    ∃ ρ', VR ρ' (.slice (fresh H) 1 0 zs.length) v ∧ Post c base w0 ρ H w ρ' (hnew H (.row e 1 (zs.map (AV.int .i64)))) w' := by
  rcases hr.2 with ⟨_, h0⟩ | ⟨g, cap, cur, rfl, hg, hcur, hcap, _, hsz, hval⟩
  · exact absurd (List.length_eq_zero_iff.1 h0) hne
  · refine ⟨upd ρ (.own H.length) ⟨g, 0, cap⟩, ⟨⟨g, 0, cap⟩, upd_same _ _ _, by simpa using hcap, by simp⟩, post_fresh h hf hb _ ⟨g, 0, cap⟩ hg ⟨cur, hcur, by simp [hsz], by simpa using hcap, fun j u hj => ?_⟩⟩
    rw [List.getElem?_map] at hj
    cases hz : zs[j]? with
    | none => rw [hz] at hj; cases hj
    | some z =>
      rw [hz] at hj; cases hj
      refine ⟨.int .i64 z, ?_, rfl, rfl⟩
      have hj' : j < zs.length := (List.getElem?_eq_some_iff.1 hz).1
      have := congrArg (fun l => l[j]?) hval
      simp only [List.getElem?_map, hz, Option.map_some] at this
      rw [List.getElem?_take, if_pos (by omega)] at this
      simpa using this

end Go.AM

/-
  SLICES.SORTED OVER MAPS.KEYS (own work, after the shelf's proofs): the keys of a map of the abstract heap, sorted.
-/
namespace Go.AM
open Go.RowKit Go.Maps Go.Sort Go.Shelf Go.Proofs
section
variable {P : Program} {ρ : Ren}

set_option maxRecDepth 100000 in
set_option maxHeartbeats 1000000 in
theorem keys1_own (L : SlLaysZI.n10 P ρ) {H : Type} (F : Fence) (n : Nat) (h10 : F.fn (ρ.f 10)) (hro : F.round = none) (hn : 1 ≤ n) (l Bm o b nn : Nat) (D0 : DataW H) {R : Value → Option (DataW H × List MemPlace)} (J : List Int → World → Prop)
    (hY : ∀ pre x W, J pre W → pre.length < Maps.size D0 → YieldAt F (n - 1) P l #[encZ x] W fun e W' => e = .returned (.bool true) ∧ J (pre ++ [x]) W' ∧ KeepsWalks W W')
    (W : World) (hJ : AbidesFrom W.heap.size J) (hm : W.cell? ⟨Bm, o, none⟩ = some (.map (some b))) (hown : W.ownsMap P (ρ.t 26) R b nn D0) (h0 : J [] W) :
    CallsIn F n P (ρ.f 10) #[.func (.yield l) #[] #[], .pointer (some ⟨Bm, o, none⟩)] W fun e W' => (∃ v, e = .returned v) ∧ ∃ ss : List Int, ss.Perm (intKeys D0) ∧ J ss W' := by
  have mixed := L.mixed; have t0 := L.t0; have a0 := L.a0; have z0 := L.z0; have v0 := L.v0; have t4 := L.t4; have a4 := L.a4; have z4 := L.z4; have v4 := L.v4; have t23 := L.t23; have a23 := L.a23; have z23 := L.z23; have v23 := L.v23; have t26 := L.t26; have a26 := L.a26; have z26 := L.z26; have v26 := L.v26; have t33 := L.t33; have a33 := L.a33; have z33 := L.z33; have v33 := L.v33
  have u0 := run_underlying L.t0; have u4 := run_underlying L.t4; have u23 := run_underlying L.t23; have u26 := run_underlying L.t26; have u33 := run_underlying L.t33
  obtain ⟨_, _, FG⟩ := L.f10
  refine callsIn_of_wp FG rfl h10 ?_ hro
  simp only [SlBodyZ.n10_ntmps ρ, List.size_toArray, List.length_cons, List.length_nil, Nat.reduceAdd, Nat.reduceSub, Array.replicate_succ, Array.replicate_zero, List.push_toArray, List.append_toArray, List.nil_append, List.cons_append]
  gi_wp2_with (first
    | (gi_at_range; refine wpListIn_range_own _ rfl _ (ρ.t 23) rfl (ρ.t 26) (ρ.t 3) (int_keyed L.t26) L.t23 _ b nn _ rfl hown ?_; intro w0 hrg0 hg0 hs0)
    | gi_in)
  go_frame
  gi_loopw [3] (fun _ wr => ∃ (left : Lit → Bool) (cnt : Nat) (ss : List Int), wr.ranges P (ρ.t 26) R b W.heap.size nn D0 left cnt ∧ ss.length + cnt ≤ Maps.size D0 ∧ CollectedI D0 left ss ∧ J ss wr)
    (fun _ wr => wr.rangeLeft b W.heap.size)
  case atStart =>
    exact ⟨_, _, [], hrg0, by simp, CollectedI.start D0, hJ [] W w0 none h0 hg0 (fun r e => by cases e)⟩
  case round =>
    obtain ⟨left, cnt, ss, hrg, hcs, hC, hJs⟩ := hrel
    gi_wp2_with (first
      | (gi_at_next; refine wpListIn_next_ranges _ rfl _ rfl (ρ.t 26) (int_keyed L.t26) R encZ id (fun key kl hk => by obtain ⟨x, hx, _⟩ := Maps.keyOf_i64 L.t26 hk; exact ⟨x, hx⟩) (fun v _ _ => ⟨v, rfl⟩) b W.heap.size nn _ _ _ rfl hrg ?_ ?_)
      | gi_in)
    · -- NOTHING IS LEFT
      intro hc0 hl0
      gi_wp2
      go_end0
      exact ⟨⟨_, rfl⟩, ss, hC.perm hown (int_keyed L.t26) L.t26 hl0, hJs⟩
    · -- AN ENTRY HAS COME: yield(k)
      intro x c kl yd yp w2 cnt2 hkey hlk hv hat hrg2 hlt hg2 hs2 hen
      obtain ⟨x', ex, rfl, _⟩ := Maps.keyOf_i64 L.t26 hkey
      obtain rfl : x = x' := encZ_inj ex
      have hJ2 : J ss w2 := hJ ss wr w2 (some W.heap.size) hJs hg2 (fun r e => by cases e; exact ⟨Nat.le_refl _, hrg.iter_walk⟩)
      obtain ⟨fn, tmps, assign, body, hy, hR⟩ := hY ss x w2 hJ2 (by omega)
      clear hs2
      gi_wp2
      refine hR.mono ?_
      rintro e W3 ⟨rfl, hJ3, hk3⟩
      gi_wp2
      have hrg3 := hrg2.of_walks hk3
      go_roundw
      case rel => exact ⟨_, cnt2, ss ++ [x], hrg3, by simp; omega, hC.step hlk hat, hJ3⟩
      case measure => rw [hrg3.left_eq, hrg.left_eq]; exact hlt


theorem keys_own (L : SlLaysZI.n10 P ρ) {H : Type} (F : Fence) (n : Nat) (h10 : F.fn (ρ.f 10)) (hro : F.round = none) (hn : 1 ≤ n) (Bm o b nn : Nat) (D0 : DataW H) {R : Value → Option (DataW H × List MemPlace)} (w : World) (hBm : Bm < w.heap.size)
    (hm : w.cell? ⟨Bm, o, none⟩ = some (.map (some b))) (hown : w.ownsMap P (ρ.t 26) R b nn D0) :
    SeqGives F n P (ρ.f 10) #[.pointer (some ⟨Bm, o, none⟩)] encZ (fun ss => ss.Perm (intKeys D0)) (Maps.size D0) w := fun l J W hW hJ hY h0 => by
  have hown' : W.ownsMap P (ρ.t 26) R b nn D0 := by
    have hbl := hown.lt
    obtain ⟨es, clock, hb, Ft, hs, hD⟩ := hown
    exact ⟨es, clock, (hW.block b hbl).trans hb, Ft, hs, hD⟩
  exact keys1_own { L with } F n h10 hro hn l Bm o b nn D0 J hY W hJ ((hW.cell (p := ⟨Bm, o, none⟩) hBm).trans hm) hown' h0


end

/-! sorted -/

def insI (x : Int) : List Int → List Int
  | [] => [x]
  | y :: r => if Int.decLe x y |>.decide then x :: y :: r else y :: insI x r

def isortI : List Int → List Int
  | [] => []
  | x :: r => insI x (isortI r)

theorem insI_perm (x : Int) : ∀ l, (insI x l).Perm (x :: l)
  | [] => .refl _
  | y :: r => by
    simp only [insI]
    split
    · exact .refl _
    · exact ((insI_perm x r).cons y).trans (.swap x y r)

theorem isortI_perm : ∀ l, (isortI l).Perm l
  | [] => .refl _
  | x :: r => (insI_perm x _).trans ((isortI_perm r).cons x)

theorem insI_sorted (x : Int) : ∀ {l : List Int}, l.Pairwise (fun a b => a ≤ b) → (insI x l).Pairwise (fun a b => a ≤ b)
  | [], _ => by simp [insI]
  | y :: r, h => by
    simp only [insI]
    rw [List.pairwise_cons] at h
    split
    · rename_i hxy
      have hxy : x ≤ y := by simpa using hxy
      refine List.pairwise_cons.2 ⟨fun z hz => ?_, List.pairwise_cons.2 h⟩
      rcases List.mem_cons.1 hz with rfl | hz
      · exact hxy
      · exact Int.le_trans hxy (h.1 z hz)
    · rename_i hxy
      have hxy : ¬ x ≤ y := by simpa using hxy
      refine List.pairwise_cons.2 ⟨fun z hz => ?_, insI_sorted x h.2⟩
      rcases List.mem_cons.1 ((insI_perm x r).mem_iff.1 hz) with rfl | hz
      · omega
      · exact h.1 z hz

theorem isortI_sorted : ∀ l : List Int, (isortI l).Pairwise (fun a b => a ≤ b)
  | [] => .nil
  | x :: r => insI_sorted x (isortI_sorted r)

theorem sort_eq {l l' : List Int} (h : l.Perm l') : l.mergeSort (fun x y => decide (x ≤ y)) = isortI l' := by
  refine List.Perm.eq_of_pairwise (le := fun a b => a ≤ b) (fun a b _ _ h1 h2 => by omega) ?_ (isortI_sorted l') (((List.mergeSort_perm l _).trans h).trans (isortI_perm l').symm)
  have := List.pairwise_mergeSort (le := fun x y : Int => decide (x ≤ y)) (fun a b c h1 h2 => by simp only [decide_eq_true_eq] at *; omega) (fun a b => by simp only [Bool.or_eq_true, decide_eq_true_eq]; omega) l
  exact this.imp fun h => by simpa using h

/-! a map of the abstract heap, as the contracts speak of it -/

def nodupI : List Int → Bool
  | [] => true
  | x :: r => !(r.any fun y => x == y) && nodupI r

theorem nodupI_spec : ∀ {l : List Int}, nodupI l = true → l.Nodup
  | [], _ => .nil
  | x :: r, h => by
    simp only [nodupI, Bool.and_eq_true, Bool.not_eq_true', List.any_eq_false] at h
    exact List.nodup_cons.2 ⟨fun hm => by have := h.1 x hm; simp at this, nodupI_spec h.2⟩

def mapOk (es : List (AV × AV × Nat)) (clock : Nat) (zs : List Int) : Bool :=
  Nat.ble zs.length 1000000 && (zs.all (fun z => decide (-9223372036854775808 ≤ z) && decide (z ≤ 9223372036854775807)) && (es.all (fun e => Nat.blt e.2.2 clock) && (nodupI (es.map fun e => (e.2.2 : Int)) && nodupI zs)))

theorem insert_perm {H : Type} (x : Lit × DataW H) : ∀ l, (DataW.insert x l).Perm (x :: l)
  | [] => .refl _
  | y :: r => by
    simp only [DataW.insert]
    split
    · exact .refl _
    · exact ((insert_perm x r).cons y).trans (.swap x y r)

theorem foldr_insert_perm {H : Type} : ∀ l : List (Lit × DataW H), (l.foldr DataW.insert []).Perm l
  | [] => .refl _
  | x :: r => by
    simp only [List.foldr_cons]
    exact (insert_perm x _).trans ((foldr_insert_perm r).cons x)

abbrev anyR : Value → Option (DataW Unit × List MemPlace) := fun _ => some (.lit (.bool true), [])

theorem EntR.keys {ρ : Pl} {es : List (AV × AV × Nat)} {xs : List MapEntry} (h : EntR ρ es xs) : ∀ {zs : List Int}, intsOf (es.map (·.1)) = some zs → xs.map (·.key) = zs.map (Value.int .i64) := by
  induction h with
  | nil => intro zs e; simp [intsOf] at e; subst e; rfl
  | @cons k v n es x y xs hk hv ht ih =>
    intro zs e
    have := intsOf_eq e
    cases zs with
    | nil => simp at this
    | cons z zs =>
      simp only [List.map_cons, List.cons.injEq] at this
      obtain ⟨h1, h2⟩ := this
      subst h1
      simp only [VR] at hk
      subst hk
      simp only [List.map_cons, intsOf, Option.map_eq_some_iff] at e
      obtain ⟨l, hl, e⟩ := e
      simp only [List.cons.injEq, true_and] at e
      subst e
      simp [ih hl]

theorem EntR.births {ρ : Pl} {es : List (AV × AV × Nat)} {xs : List MapEntry} (h : EntR ρ es xs) : xs.map (·.born) = es.map (·.2.2) := by
  induction h with
  | nil => rfl
  | cons _ _ _ ih => simp [ih]

theorem owns_of {P : Program} {k : TypeId} (hk : P.underlying k = some (.int .i64)) {ρ : Pl} {w : World} {b : Nat} {ents : Array MapEntry} {clock : Nat} (hb : w.heap[b]? = some (.map ents clock)) {es : List (AV × AV × Nat)} (hE : EntR ρ es ents.toList)
    {zs : List Int} (hz : intsOf (es.map (·.1)) = some zs) (hck : mapOk es clock zs = true) : ∃ D0 : DataW Unit, w.ownsMap P k anyR b ents.size D0 ∧ (intKeys D0).Perm zs ∧ Maps.size D0 = zs.length := by
  simp only [mapOk, Bool.and_eq_true, Nat.ble_eq] at hck
  obtain ⟨hlen, hrange, hborn, hbn, hzn⟩ := hck
  have hkeys := hE.keys hz
  have hbirths := hE.births
  have hsize : ents.size = zs.length := by
    have := congrArg List.length hkeys
    simpa using this
  have hrd : ∀ x ∈ ents.toList, ∃ z, x.key = .int .i64 z ∧ z ∈ zs ∧ Go.WideElems.rd P k anyR x = some (.int .i64 z, .lit (.bool true)) := by
    intro x hx
    have hm : x.key ∈ ents.toList.map (·.key) := List.mem_map.2 ⟨x, hx, rfl⟩
    rw [hkeys] at hm
    obtain ⟨z, hz1, hz2⟩ := List.mem_map.1 hm
    have hr := List.all_eq_true.1 hrange z hz1
    simp only [Bool.and_eq_true, decide_eq_true_eq] at hr
    refine ⟨z, hz2.symm, hz1, ?_⟩
    have hwf : (Lit.int .i64 z).wf = true := by simp [Lit.wf]; first | exact hr | (constructor <;> omega) | omega
    simp [Go.WideElems.rd, keyOf, hk, mapKey, ← hz2, hwf, anyR]
  refine ⟨.map ((ents.toList.map (Go.WideElems.rg P k anyR)).foldr DataW.insert []), ⟨ents, clock, hb, ⟨by rw [hsize]; simp [maxLen]; omega, ⟨?_, ?_, ?_⟩, fun x hx => ?_⟩, Nat.le_refl _, rfl⟩, ?_, ?_⟩
  · intro x hx
    have hm : x.born ∈ ents.toList.map (·.born) := List.mem_map.2 ⟨x, hx, rfl⟩
    rw [hbirths] at hm
    obtain ⟨e, he1, he2⟩ := List.mem_map.1 hm
    have := List.all_eq_true.1 hborn e he1
    rw [Nat.blt_eq] at this
    omega
  · rw [hbirths]
    have := nodupI_spec hbn
    have h2 : (es.map fun e => (e.2.2 : Int)) = (es.map (·.2.2)).map (fun n : Nat => (n : Int)) := by simp
    rw [h2] at this
    exact (List.pairwise_map.1 this).imp fun h e => h (by rw [e])
  · rw [hkeys]
    have := nodupI_spec hzn
    refine List.Pairwise.map _ (fun a b hab => ?_) this
    intro h; cases h; exact hab rfl
  · obtain ⟨z, _, _, h⟩ := hrd x hx
    exact ⟨_, h⟩
  · have hp := foldr_insert_perm (ents.toList.map (Go.WideElems.rg P k anyR))
    simp only [intKeys]
    refine (hp.map _).trans (.of_eq ?_)
    rw [List.map_map]
    have : ∀ l : List MapEntry, (∀ x ∈ l, ∃ z, x.key = .int .i64 z ∧ z ∈ zs ∧ Go.WideElems.rd P k anyR x = some (.int .i64 z, .lit (.bool true))) → ∀ us : List Int, l.map (·.key) = us.map (Value.int .i64) → l.map ((fun p => Go.intOf p.1) ∘ Go.WideElems.rg P k anyR) = us := by
      intro l
      induction l with
      | nil => intro _ us e; cases us <;> simp_all
      | cons x r ih =>
        intro hl us e
        cases us with
        | nil => simp at e
        | cons u us =>
          simp only [List.map_cons, List.cons.injEq] at e ⊢
          obtain ⟨z, h1, _, h3⟩ := hl x (by simp)
          rw [h1] at e
          obtain ⟨e1, e2⟩ := e
          cases e1
          exact ⟨by simp [Go.WideElems.rg, h3, Go.intOf], ih (fun y hy => hl y (by simp [hy])) us e2⟩
    exact this _ hrd _ hkeys
  · simp only [Maps.size]
    rw [(foldr_insert_perm _).length_eq, List.length_map]
    simpa using hsize

end Go.AM

/-
  SLICES.SORTED OVER MAPS.KEYS AT THIS DUMP (own work over the shelf's contracts): the keys of a map, sorted, as a function that the abstract machine knows.
-/
namespace Go.Proofs.Ytecfofmndpgnjaa.skeys
open Go.RowKit Go.Shelf Go.AM Go.Maps Go.Sort

def keysA_ren : Go.Shelf.Ren := ⟨fun | 7 => 42 | 10 => 47 | n => n, fun | 23 => 75 | 26 => 3 | 3 => 3 | 28 => 87 | 0 => 0 | 27 => 86 | 33 => 55 | 4 => 4 | n => n, fun | n => n⟩
theorem keysA : Go.Proofs.SlLaysZI.n7 Try.prog keysA_ren := {
  mixed := by kernel_rfl
  f7 := ⟨Try.f42.name, by decide, Try.func42.trans (congrArg some (by kernel_rfl))⟩
  f10 := ⟨Try.f47.name, by decide, Try.func47.trans (congrArg some (by kernel_rfl))⟩
  t0 := Try.underlying0
  a0 := Try.isAgg0
  z0 := Try.sizeOf0
  v0 := Try.zeroValue0
  t4 := Try.underlying4
  a4 := Try.isAgg4
  z4 := Try.sizeOf4
  v4 := Try.zeroValue4
  t23 := Try.underlying75
  a23 := Try.isAgg75
  z23 := Try.sizeOf75
  v23 := Try.zeroValue75
  t26 := Try.underlying3
  a26 := Try.isAgg3
  z26 := Try.sizeOf3
  v26 := Try.zeroValue3
  t27 := Try.underlying86
  a27 := Try.isAgg86
  z27 := Try.sizeOf86
  v27 := Try.zeroValue86
  t28 := Try.underlying87
  a28 := Try.isAgg87
  z28 := Try.sizeOf87
  v28 := Try.zeroValue87
  t33 := Try.underlying55
  a33 := Try.isAgg55
  z33 := Try.sizeOf55
  v33 := Try.zeroValue55 }
def sortedA_ren : Go.Shelf.Ren := ⟨fun | 6 => 41 | 8 => 45 | 9 => 46 | 11 => 48 | 13 => 50 | 12 => 49 | 23 => 60 | 24 => 61 | 14 => 51 | 15 => 52 | 16 => 53 | 17 => 54 | 18 => 55 | 19 => 56 | 20 => 57 | 21 => 58 | 22 => 59 | 25 => 62 | 26 => 63 | 27 => 64 | 28 => 65 | 29 => 66 | 30 => 67 | 31 => 68 | n => n, fun | 26 => 3 | 28 => 87 | 24 => 28 | 0 => 0 | 3 => 3 | 37 => 100 | 48 => 109 | 50 => 111 | 4 => 4 | 40 => 103 | 39 => 102 | 45 => 81 | 5 => 5 | 9 => 9 | 51 => 112 | 55 => 116 | 57 => 118 | 58 => 119 | 33 => 55 | n => n, fun | n => n⟩
theorem sortedA : Go.Proofs.SlLaysZI.n6 Try.prog sortedA_ren := {
  mixed := by kernel_rfl
  f6 := ⟨Try.f41.name, by decide, Try.func41.trans (congrArg some (by kernel_rfl))⟩
  f8 := ⟨Try.f45.name, by decide, Try.func45.trans (congrArg some (by kernel_rfl))⟩
  f11 := ⟨Try.f48.name, by decide, Try.func48.trans (congrArg some (by kernel_rfl))⟩
  t0 := Try.underlying0
  a0 := Try.isAgg0
  z0 := Try.sizeOf0
  v0 := Try.zeroValue0
  t24 := Try.underlying28
  a24 := Try.isAgg28
  z24 := Try.sizeOf28
  v24 := Try.zeroValue28
  t26 := Try.underlying3
  a26 := Try.isAgg3
  z26 := Try.sizeOf3
  v26 := Try.zeroValue3
  t28 := Try.underlying87
  a28 := Try.isAgg87
  z28 := Try.sizeOf87
  v28 := Try.zeroValue87
  i26 := by kernel_rfl }
def sortA_ren : Go.Shelf.Ren := ⟨fun | 5 => 46 | 8 => 50 | 7 => 49 | 19 => 60 | 20 => 61 | 10 => 51 | 11 => 52 | 12 => 53 | 13 => 54 | 14 => 55 | 15 => 56 | 16 => 57 | 17 => 58 | 18 => 59 | 30 => 62 | 31 => 63 | 32 => 64 | 33 => 65 | 34 => 66 | 35 => 67 | 40 => 68 | n => n, fun | 23 => 28 | 25 => 3 | 3 => 3 | 32 => 100 | 22 => 28 | 0 => 0 | 44 => 109 | 46 => 111 | 4 => 4 | 36 => 103 | 35 => 102 | 41 => 81 | 5 => 5 | 9 => 9 | 53 => 112 | 57 => 116 | 63 => 118 | 64 => 119 | n => n, fun | n => n⟩
theorem sortA : Go.Proofs.SlLaysM.n5 Try.prog sortA_ren := {
  mixed := by kernel_rfl
  f5 := ⟨Try.f46.name, by decide, Try.func46.trans (congrArg some (by kernel_rfl))⟩
  f7 := ⟨Try.f49.name, by decide, Try.func49.trans (congrArg some (by kernel_rfl))⟩
  f8 := Try.func50.trans (congrArg some (by kernel_rfl))
  f10 := ⟨Try.f51.name, by decide, Try.func51.trans (congrArg some (by kernel_rfl))⟩
  f11 := ⟨Try.f52.name, by decide, Try.func52.trans (congrArg some (by kernel_rfl))⟩
  f12 := ⟨Try.f53.name, by decide, Try.func53.trans (congrArg some (by kernel_rfl))⟩
  f13 := ⟨Try.f54.name, by decide, Try.func54.trans (congrArg some (by kernel_rfl))⟩
  f14 := ⟨Try.f55.name, by decide, Try.func55.trans (congrArg some (by kernel_rfl))⟩
  f15 := ⟨Try.f56.name, by decide, Try.func56.trans (congrArg some (by kernel_rfl))⟩
  f16 := ⟨Try.f57.name, by decide, Try.func57.trans (congrArg some (by kernel_rfl))⟩
  f17 := ⟨Try.f58.name, by decide, Try.func58.trans (congrArg some (by kernel_rfl))⟩
  f18 := ⟨Try.f59.name, by decide, Try.func59.trans (congrArg some (by kernel_rfl))⟩
  f19 := Try.func60.trans (congrArg some (by kernel_rfl))
  f20 := Try.func61.trans (congrArg some (by kernel_rfl))
  f30 := ⟨Try.f62.name, by decide, Try.func62.trans (congrArg some (by kernel_rfl))⟩
  f31 := Try.func63.trans (congrArg some (by kernel_rfl))
  f32 := Try.func64.trans (congrArg some (by kernel_rfl))
  f33 := ⟨Try.f65.name, by decide, Try.func65.trans (congrArg some (by kernel_rfl))⟩
  f34 := ⟨Try.f66.name, by decide, Try.func66.trans (congrArg some (by kernel_rfl))⟩
  f35 := ⟨Try.f67.name, by decide, Try.func67.trans (congrArg some (by kernel_rfl))⟩
  f40 := ⟨Try.f68.name, by decide, Try.func68.trans (congrArg some (by kernel_rfl))⟩
  t0 := Try.underlying0
  a0 := Try.isAgg0
  z0 := Try.sizeOf0
  v0 := Try.zeroValue0
  t3 := Try.underlying3
  a3 := Try.isAgg3
  z3 := Try.sizeOf3
  v3 := Try.zeroValue3
  t4 := Try.underlying4
  a4 := Try.isAgg4
  z4 := Try.sizeOf4
  v4 := Try.zeroValue4
  t5 := Try.underlying5
  a5 := Try.isAgg5
  z5 := Try.sizeOf5
  v5 := Try.zeroValue5
  t9 := Try.underlying9
  a9 := Try.isAgg9
  z9 := Try.sizeOf9
  v9 := Try.zeroValue9
  t22 := Try.underlying28
  a22 := Try.isAgg28
  z22 := Try.sizeOf28
  v22 := Try.zeroValue28
  t23 := Try.underlying28
  a23 := Try.isAgg28
  z23 := Try.sizeOf28
  v23 := Try.zeroValue28
  t25 := Try.underlying3
  a25 := Try.isAgg3
  z25 := Try.sizeOf3
  v25 := Try.zeroValue3
  t32 := Try.underlying100
  a32 := Try.isAgg100
  z32 := Try.sizeOf100
  v32 := Try.zeroValue100
  t35 := Try.underlying102
  a35 := Try.isAgg102
  z35 := Try.sizeOf102
  v35 := Try.zeroValue102
  t36 := Try.underlying103
  a36 := Try.isAgg103
  z36 := Try.sizeOf103
  v36 := Try.zeroValue103
  t41 := Try.underlying81
  a41 := Try.isAgg81
  z41 := Try.sizeOf81
  v41 := Try.zeroValue81
  t44 := Try.underlying109
  a44 := Try.isAgg109
  z44 := Try.sizeOf109
  v44 := Try.zeroValue109
  t46 := Try.underlying111
  a46 := Try.isAgg111
  z46 := Try.sizeOf111
  v46 := Try.zeroValue111
  t53 := Try.underlying112
  a53 := Try.isAgg112
  z53 := Try.sizeOf112
  v53 := Try.zeroValue112
  t57 := Try.underlying116
  a57 := Try.isAgg116
  z57 := Try.sizeOf116
  v57 := Try.zeroValue116
  t63 := Try.underlying118
  a63 := Try.isAgg118
  z63 := Try.sizeOf118
  v63 := Try.zeroValue118
  t64 := Try.underlying119
  a64 := Try.isAgg119
  z64 := Try.sizeOf119
  v64 := Try.zeroValue119 }

theorem sortsA (m : Nat) : AnyZI.SortsIn Try.prog sortedA_ren Fence.wide m :=
  ⟨fun blk off cap ss W hH hblk hsz => callsIn_wide.2 (AnyM.slices_Sort_int sortA blk off cap ss W hH hblk hsz),
   fun p cap W => callsIn_wide.2 (AnyM.slices_Sort_int_none sortA p cap W)⟩

/-- slices.Sorted over maps.Keys -/
def prim (c : Ctx) : List AV → AHeap → Option (AV × AHeap)
  | [.func (.func 47) [] [.ptr l off]], H => (AM.rd c H l off 1).bind fun r => match r with
    | [.map (.own i)] => match hat H i with
      | some (.map es clock) => (intsOf (es.map (·.1))).bind fun zs =>
        if mapOk es clock zs then (if zs.isEmpty then some (.nilslice, H) else some (.slice (fresh H) 1 0 (isortI zs).length, hnew H (.row 3 1 ((isortI zs).map (AV.int .i64))))) else none
      | _ => none
    | _ => none
  | _, _ => none

theorem prim_ok {c : Ctx} (hP : c.P = Try.prog) {base : Nat} {w0 : World} : CallOK c base w0 (fun f args H => if f = 41 then prim c args H else none) := by
  intro f args H v H' e ρ w xs h hf hx
  simp only at e
  split at e
  · rename_i hf22
    subst hf22
    unfold prim at e
    split at e
    · rename_i l off
      obtain ⟨y, ys, rfl, hy, hys⟩ := hx
      simp only [VRs] at hys
      subst hys
      obtain ⟨a1, a2, h1, h2, rfl⟩ := hy
      simp only [VRs] at h1
      subst h1
      obtain ⟨y2, ys2, rfl, ⟨p, hp, rfl⟩, h3⟩ := h2
      simp only [VRs] at h3
      subst h3
      simp only [Option.bind_eq_some_iff] at e
      obtain ⟨r, hr, e⟩ := e
      obtain ⟨us, hul, hur, huc, _⟩ := rd_sound h hr hp
      split at e
      · rename_i i _hall
        split at e
        · rename_i es clock ho
          simp only [Option.bind_eq_some_iff] at e
          obtain ⟨zs, hzs, e⟩ := e
          split at e
          · rename_i hck
            obtain ⟨u, us', rfl, ⟨q, hq, rfl⟩, hus'⟩ := hur
            have hcell := huc 0 _ rfl
            obtain ⟨q', hq', ⟨ents, hb, hE⟩, _⟩ := h.own i _ ho
            obtain rfl : q = q' := by rw [hq] at hq'; exact Option.some.inj hq'
            have hc0 : w.cell? ⟨p.b, p.off + off, none⟩ = some (.map (some q.b)) := by simpa [Addr.add] using hcell
            obtain ⟨D0, hown, hperm, hsz⟩ := owns_of (P := Try.prog) (k := 3) Try.underlying3 hb hE hzs hck
            have hlen : zs.length ≤ 1000000 := by
              simp only [mapOk, Bool.and_eq_true, Nat.ble_eq] at hck
              exact hck.1
            have hseq : SeqGives Fence.wide 2 Try.prog 47 #[.pointer (some ⟨p.b, p.off + off, none⟩)] encZ (fun ss => ss.Perm (intKeys D0)) (Maps.size D0) w :=
              keys_own (ρ := keysA_ren) { keysA with } Fence.wide _ trivial rfl (by omega) p.b (p.off + off) q.b ents.size D0 w (World.block_lt_of_cell? w _ hc0) hc0 hown
            have cS := AnyZI.sorted_in sortedA Fence.wide 5 trivial trivial trivial trivial rfl (by omega) (sortsA _) (enters_of Try.func46 (by kernel_rfl) rfl) 47 #[.pointer (some ⟨p.b, p.off + off, none⟩)] trivial (enters_of Try.func47 (by kernel_rfl) rfl) _ _ (by rw [hsz]; simp [maxLen]; omega) (by rw [hsz]; omega) _ hseq
            have cc' := callsIn_wide.1 cS
            rw [hP]
            refine Calls.mono cc' ?_
            rintro e' w' ⟨v', ss, rfl, hss, hrow, hnil, hb⟩
            have hpz : ss.Perm zs := hss.trans hperm
            rw [sort_eq hpz] at hrow
            have hl : ss.length = (isortI zs).length := by rw [hpz.length_eq, (isortI_perm zs).length_eq]
            rw [hl] at hrow
            split at e
            · rename_i hz0
              cases e
              have hz1 : zs = [] := by simpa using hz0
              subst hz1
              have : ss = [] := hpz.eq_nil
              exact ⟨ρ, v', rfl, hnil.2 this, post_grow h hb⟩
            · rename_i hz0
              cases e
              obtain ⟨ρ', hv, hpost⟩ := post_ints h (hf _ (Nat.le_refl _)) hb hrow (by
                intro h0
                have := (isortI_perm zs).length_eq
                rw [h0] at this
                exact hz0 (by cases zs <;> simp_all))
              exact ⟨ρ', v', rfl, hv, hpost⟩
          · cases e
        · cases e
      · cases e
    · cases e
  · cases e

/-- the functions that are known otherwise -/
def prims (c : Ctx) : Prims := fun f => if f = 41 then some (prim c) else none

theorem prims_ok {c : Ctx} (hP : c.P = Try.prog) (base : Nat) (w0 : World) : PrimsOK c base w0 (prims c) := by
  intro f g hfg
  simp only [prims] at hfg
  split at hfg
  · rename_i hf
    cases hfg
    subst hf
    exact prim_ok hP
  · cases hfg

end Go.Proofs.Ytecfofmndpgnjaa.skeys

/- slots.Slots (own work): the table behind a pointer; Get, ID, Len. -/
namespace Go.Proofs.Ytecfofmndpgnjaa.sy
open Go.AM Go.AM.Hp
set_option linter.unusedSimpArgs false
set_option linter.unusedVariables false
variable {G : List Nat → Option (List AV)} {base : Nat} {w0 : World}
set_option maxRecDepth 100000

theorem hb7 : hasBody Try.prog 8 = true := by kernel_rfl
theorem hb8 : hasBody Try.prog 28 = true := by kernel_rfl
theorem hb9 : hasBody Try.prog 29 = true := by kernel_rfl
theorem hb10 : hasBody Try.prog 40 = true := by kernel_rfl
theorem hb11 : hasBody Try.prog 39 = true := by kernel_rfl
theorem hb13 : hasBody Try.prog 35 = true := by kernel_rfl
theorem hb14 : hasBody Try.prog 86 = true := by kernel_rfl
theorem hb15 : hasBody Try.prog 36 = true := by kernel_rfl
theorem hb17 : hasBody Try.prog 38 = true := by kernel_rfl
theorem hb18 : hasBody Try.prog 41 = true := by kernel_rfl
theorem hb19 : hasBody Try.prog 42 = true := by kernel_rfl
theorem nodupI_of : ∀ {l : List Int}, l.Nodup → nodupI l = true
  | [], _ => rfl
  | x :: r, h => by
    obtain ⟨h1, h2⟩ := List.nodup_cons.1 h
    simp only [nodupI, nodupI_of h2, Bool.and_true, Bool.not_eq_true', List.any_eq_false, beq_iff_eq]
    intro y hy e; subst e; exact h1 hy
/-- where a table lies -/
structure Tb where
  bi : Nat
  bu : Nat
  m : Nat
  pf : Nat
  bf : Nat
/-- a table behind a pointer: ids, who is used, the map, the free slots -/
structure Sts (H : AHeap) (s : Nat) (o : Tb) (k : Nat) (ids : List Int) (us : List Bool) (l : List (Int × Int × Nat)) (clk : Nat) (a : List Int) : Prop where
  row : hat H s = some (.row 79 4 [.slice (.own o.bi) 1 0 k, .slice (.own o.bu) 1 0 k, .map (.own o.m), .ptr (.own o.pf) 0])
  il : ids.length = k
  ul : us.length = k
  hi : hat H o.bi = some (.row 3 1 (ints ids))
  hu : hat H o.bu = some (.row 4 1 (us.map AV.bool))
  ml : ML H o.m l clk
  fr : Fr H o.pf o.bf a
  ne : o.bi ≠ o.bf
/-- what the parts of a table have to do with each other -/
structure Inv (k : Nat) (ids : List Int) (us : List Bool) (l : List (Int × Int × Nat)) (a : List Int) : Prop where
  k4 : k ≤ 4096
  fwd : ∀ e ∈ l, ∃ n : Nat, e.2.1 = n ∧ n < k ∧ ids.getD n 0 = e.1 ∧ us.getD n false = true
  bwd : ∀ n, n < k → us.getD n false = true → ∃ b, (ids.getD n 0, (n : Int), b) ∈ l
  free : ∀ x, x ∈ a ↔ ∃ n : Nat, x = n ∧ n < k ∧ us.getD n false = false
  nd : a.Nodup
  heap : Heap a a.length
  cnt : l.length + a.length = k
  rng : ∀ e ∈ l, -9223372036854775808 ≤ e.1 ∧ e.1 ≤ 9223372036854775807
variable {H : AHeap} {s : Nat} {o : Tb} {k : Nat} {ids : List Int} {us : List Bool} {l : List (Int × Int × Nat)} {clk : Nat} {a : List Int}
theorem own_ld {b ty esz : Nat} {cs : List AV} {i : Nat} {v : AV} {t : TypeId} (h : hat H b = some (.row ty esz cs)) (hv : cs[i]? = some v) (ha : isAggT (kn G base w0).c.P t = some false) : aload (kn G base w0).c H t (.ptr (.own b) i) = some v := by
  simp only [aload, ha, Option.bind_some, rd_own h, hv, Option.map_some]
  rfl
theorem own_ix {t e : TypeId} (ht : (kn G base w0).c.P.underlying t = some (.slice e)) (hs : szOf (kn G base w0).c.P e = some 1) {b n i : Nat} (hi : i < n) : aindexAddr (kn G base w0).c t (.slice (.own b) 1 0 n) (.int .i64 (i : Int)) = some (.ptr (.own b) i) := by
  simp only [aindexAddr, ht, Option.bind_some, hs]
  rw [if_pos ⟨by trivial, by omega, by omega⟩]
  simp
theorem own_len {t e : TypeId} (ht : (kn G base w0).c.P.underlying t = some (.slice e)) {b n : Nat} : alen (kn G base w0).c H t (.slice (.own b) 1 0 n) = some (.int .i64 n) := by
  simp only [alen, ht]
  rfl
theorem own_mlen {t kt vt : TypeId} (ht : (kn G base w0).c.P.underlying t = some (.map kt vt)) {m : Nat} (h : ML H m l clk) : alen (kn G base w0).c H t (.map (.own m)) = some (.int .i64 l.length) := by
  simp only [alen, ht, Option.bind_some, entries, h.at_, Option.map_some, List.length_map]
/-- s.Get(id) -/
theorem get_ok (hT : Sts H s o k ids us l clk a) (id : Int) : ∃ r H', Pt (kn G base w0) 39 [.ptr (.own s) 0, .int .i64 id] H r H' ∧ (r = .tuple [.int .i64 ((mget l id).getD 0), .bool (mget l id).isSome] ∧ H' = H) := by
  have l2 := own_ld (G := G) (base := base) (w0 := w0) (i := 2) hT.row rfl ag75
  have lk := hT.ml.im.look (c := (kn G base w0).c) Try.underlying75 Try.underlying3 za3 id true
  refine Pt.fn (n := 21) (rs := [.tmp 4, .tmp 5]) Try.func39 (b := _) rfl rfl rfl (by decide) ?_
  refine D.sq (D.region (T := none_) (by simp only [rulesA, rulesB, numbered, ayield, mapO, constAV, scAV, optval, abin, aint, acmp, aconv, aun, aeq, aminmax, afieldAddr, abuild, anew, fieldPlaces, afill, setSeg, kn_P, Nat.reduceAdd, Nat.reduceMul, Nat.reducePow, Nat.reduceSub, Nat.reduceEqDiff, Nat.reduceLT, Nat.reduceLeDiff, Int.reduceEq, Int.reduceNe, Int.reduceLT, Int.reduceLE, Int.reduceAdd, Int.reduceSub, Int.reduceToNat, Int.reduceBNe, Int.reduceBEq, tyR]; with_reducible rfl) ?_)
  simp only [rulesK, Nat.reduceEqDiff]
  refine D.sq (D.sq (D.region (T := none_) (by simp only [rulesA, rulesB, numbered, ayield, mapO, constAV, scAV, optval, abin, aint, acmp, aconv, aun, aeq, aminmax, afieldAddr, abuild, anew, fieldPlaces, afill, setSeg, kn_P, Nat.reduceAdd, Nat.reduceMul, Nat.reducePow, Nat.reduceSub, Nat.reduceEqDiff, Nat.reduceLT, Nat.reduceLeDiff, Int.reduceEq, Int.reduceNe, Int.reduceLT, Int.reduceLE, Int.reduceAdd, Int.reduceSub, Int.reduceToNat, Int.reduceBNe, Int.reduceBEq, tyR]; with_reducible rfl) ?_))
  simp only [rulesK, Nat.reduceEqDiff]
  refine D.cond (by simp only [rulesA, rulesB, numbered, ayield, mapO, constAV, scAV, optval, abin, aint, acmp, aconv, aun, aeq, aminmax, afieldAddr, abuild, anew, fieldPlaces, afill, setSeg, kn_P, Nat.reduceAdd, Nat.reduceMul, Nat.reducePow, Nat.reduceSub, Nat.reduceEqDiff, Nat.reduceLT, Nat.reduceLeDiff, Int.reduceEq, Int.reduceNe, Int.reduceLT, Int.reduceLE, Int.reduceAdd, Int.reduceSub, Int.reduceToNat, Int.reduceBNe, Int.reduceBEq, tyR]; with_reducible rfl) (fun h => ?_) (fun h => ?_)
  · cases h
  refine D.skip ?_
  simp only [rulesK, Nat.reduceEqDiff]
  refine D.sq (D.region (T := none_) (by simp only [rulesA, rulesB, numbered, ayield, mapO, constAV, scAV, optval, abin, aint, acmp, aconv, aun, aeq, aminmax, afieldAddr, abuild, anew, fieldPlaces, afill, setSeg, kn_P, Nat.reduceAdd, Nat.reduceMul, Nat.reducePow, Nat.reduceSub, Nat.reduceEqDiff, Nat.reduceLT, Nat.reduceLeDiff, Int.reduceEq, Int.reduceNe, Int.reduceLT, Int.reduceLE, Int.reduceAdd, Int.reduceSub, Int.reduceToNat, Int.reduceBNe, Int.reduceBEq, tyR, l2, lk]; with_reducible rfl) ?_)
  simp only [rulesK, Nat.reduceEqDiff]
  refine D.sq (D.region (T := none_) (by simp only [rulesA, rulesB, numbered, ayield, mapO, constAV, scAV, optval, abin, aint, acmp, aconv, aun, aeq, aminmax, afieldAddr, abuild, anew, fieldPlaces, afill, setSeg, kn_P, Nat.reduceAdd, Nat.reduceMul, Nat.reducePow, Nat.reduceSub, Nat.reduceEqDiff, Nat.reduceLT, Nat.reduceLeDiff, Int.reduceEq, Int.reduceNe, Int.reduceLT, Int.reduceLE, Int.reduceAdd, Int.reduceSub, Int.reduceToNat, Int.reduceBNe, Int.reduceBEq, tyR]; with_reducible rfl) ?_)
  simp only [rulesK, Nat.reduceEqDiff]
  refine D.ret ?_
  simp only [rulesK, Nat.reduceEqDiff]
  refine ⟨_, by simp only [resOf, aresult, rulesA, rulesB, numbered, ayield, mapO, constAV, scAV, optval, abin, aint, acmp, aconv, aun, aeq, aminmax, afieldAddr, abuild, anew, fieldPlaces, afill, setSeg, kn_P, Nat.reduceAdd, Nat.reduceMul, Nat.reducePow, Nat.reduceSub, Nat.reduceEqDiff, Nat.reduceLT, Nat.reduceLeDiff, Int.reduceEq, Int.reduceNe, Int.reduceLT, Int.reduceLE, Int.reduceAdd, Int.reduceSub, Int.reduceToNat, Int.reduceBNe, Int.reduceBEq, tyR]; with_reducible rfl, ?_⟩
  exact ⟨(by first | exact rfl | exact True.intro), (by first | exact rfl | exact True.intro)⟩
/-- s.Len() -/
theorem len_ok (hT : Sts H s o k ids us l clk a) : ∃ r H', Pt (kn G base w0) 86 [.ptr (.own s) 0] H r H' ∧ (r = .int .i64 l.length ∧ H' = H) := by
  have l2 := own_ld (G := G) (base := base) (w0 := w0) (i := 2) hT.row rfl ag75
  refine Pt.fn (n := 10) (rs := [.tmp 2]) Try.func86 (b := _) rfl rfl rfl (by decide) ?_
  refine D.sq (D.region (T := none_) (by simp only [rulesA, rulesB, numbered, ayield, mapO, constAV, scAV, optval, abin, aint, acmp, aconv, aun, aeq, aminmax, afieldAddr, abuild, anew, fieldPlaces, afill, setSeg, kn_P, Nat.reduceAdd, Nat.reduceMul, Nat.reducePow, Nat.reduceSub, Nat.reduceEqDiff, Nat.reduceLT, Nat.reduceLeDiff, Int.reduceEq, Int.reduceNe, Int.reduceLT, Int.reduceLE, Int.reduceAdd, Int.reduceSub, Int.reduceToNat, Int.reduceBNe, Int.reduceBEq, tyR]; with_reducible rfl) ?_)
  simp only [rulesK, Nat.reduceEqDiff]
  refine D.sq (D.sq (D.region (T := none_) (by simp only [rulesA, rulesB, numbered, ayield, mapO, constAV, scAV, optval, abin, aint, acmp, aconv, aun, aeq, aminmax, afieldAddr, abuild, anew, fieldPlaces, afill, setSeg, kn_P, Nat.reduceAdd, Nat.reduceMul, Nat.reducePow, Nat.reduceSub, Nat.reduceEqDiff, Nat.reduceLT, Nat.reduceLeDiff, Int.reduceEq, Int.reduceNe, Int.reduceLT, Int.reduceLE, Int.reduceAdd, Int.reduceSub, Int.reduceToNat, Int.reduceBNe, Int.reduceBEq, tyR]; with_reducible rfl) ?_))
  simp only [rulesK, Nat.reduceEqDiff]
  refine D.cond (by simp only [rulesA, rulesB, numbered, ayield, mapO, constAV, scAV, optval, abin, aint, acmp, aconv, aun, aeq, aminmax, afieldAddr, abuild, anew, fieldPlaces, afill, setSeg, kn_P, Nat.reduceAdd, Nat.reduceMul, Nat.reducePow, Nat.reduceSub, Nat.reduceEqDiff, Nat.reduceLT, Nat.reduceLeDiff, Int.reduceEq, Int.reduceNe, Int.reduceLT, Int.reduceLE, Int.reduceAdd, Int.reduceSub, Int.reduceToNat, Int.reduceBNe, Int.reduceBEq, tyR]; with_reducible rfl) (fun h => ?_) (fun h => ?_)
  · cases h
  refine D.skip ?_
  simp only [rulesK, Nat.reduceEqDiff]
  refine D.sq (D.region (T := none_) (by simp only [rulesA, rulesB, numbered, ayield, mapO, constAV, scAV, optval, abin, aint, acmp, aconv, aun, aeq, aminmax, afieldAddr, abuild, anew, fieldPlaces, afill, setSeg, kn_P, Nat.reduceAdd, Nat.reduceMul, Nat.reducePow, Nat.reduceSub, Nat.reduceEqDiff, Nat.reduceLT, Nat.reduceLeDiff, Int.reduceEq, Int.reduceNe, Int.reduceLT, Int.reduceLE, Int.reduceAdd, Int.reduceSub, Int.reduceToNat, Int.reduceBNe, Int.reduceBEq, tyR, l2, own_mlen Try.underlying75 hT.ml]; with_reducible rfl) ?_)
  simp only [rulesK, Nat.reduceEqDiff]
  refine D.ret ?_
  simp only [rulesK, Nat.reduceEqDiff]
  refine ⟨_, by simp only [resOf, aresult, rulesA, rulesB, numbered, ayield, mapO, constAV, scAV, optval, abin, aint, acmp, aconv, aun, aeq, aminmax, afieldAddr, abuild, anew, fieldPlaces, afill, setSeg, kn_P, Nat.reduceAdd, Nat.reduceMul, Nat.reducePow, Nat.reduceSub, Nat.reduceEqDiff, Nat.reduceLT, Nat.reduceLeDiff, Int.reduceEq, Int.reduceNe, Int.reduceLT, Int.reduceLE, Int.reduceAdd, Int.reduceSub, Int.reduceToNat, Int.reduceBNe, Int.reduceBEq, tyR]; with_reducible rfl, ?_⟩
  exact ⟨(by first | exact rfl | exact True.intro), (by first | exact rfl | exact True.intro)⟩
end Go.Proofs.Ytecfofmndpgnjaa.sy
