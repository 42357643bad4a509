/-
  REGIONS THAT DRAW THEIR ORDER AND MAKE NEW THINGS (own work): where each operation does the same on what is ordered ahead of it alone, and only adds to the heap, every order ends in the same heap: each new thing has the number that the text's order gives it.
-/
import Derived.Test.YtecfofmndpgnjaaAmDraw
namespace Go.AM
open Go.RowKit
set_option linter.unusedSimpArgs false

variable {c : Ctx} {base : Nat} {w0 w : World} {ρ : Pl} {H : AHeap}

/-! part of a heap -/

def mask (keep : Nat → Bool) : Nat → AHeap → AHeap
  | _, [] => []
  | i, o :: r => (if keep i then o else none) :: mask keep (i + 1) r

theorem mask_len {keep : Nat → Bool} : ∀ {L : AHeap} {i : Nat}, (mask keep i L).length = L.length
  | [], _ => rfl
  | _ :: r, i => by simp [mask, mask_len (L := r)]

theorem mask_get {keep : Nat → Bool} : ∀ {L : AHeap} {i j : Nat}, (mask keep i L)[j]? = (L[j]?).map fun o => if keep (i + j) then o else none
  | [], _, j => by simp [mask]
  | o :: r, i, 0 => by simp [mask]
  | o :: r, i, j + 1 => by
    simp only [mask, List.getElem?_cons_succ, mask_get (L := r)]
    rw [show i + 1 + j = i + (j + 1) by omega]

theorem mask_hat {keep : Nat → Bool} {L : AHeap} {i : Nat} : hat (mask keep 0 L) i = if keep i then hat L i else none := by
  unfold hat
  rw [mask_get]
  cases L[i]? with
  | none => simp
  | some o => simp

theorem mask_all {keep : Nat → Bool} {L : AHeap} (h : ∀ i, i < L.length → keep i = true) : mask keep 0 L = L := by
  apply List.ext_getElem?
  intro j
  rw [mask_get]
  rcases Nat.lt_or_ge j L.length with hj | hj
  · rw [List.getElem?_eq_getElem hj]
    simp [h j hj]
  · rw [List.getElem?_eq_none hj]; rfl

def AObj.low (n : Nat) : AObj → Bool
  | .row _ _ cells => AV.lows n cells
  | .map es _ => es.all fun e => AV.low n e.1 && AV.low n e.2.1
  | _ => true

def heapLow (n : Nat) (L : AHeap) : Bool := L.all fun o => match o with | some o => o.low n | none => true

theorem heapLow_hat {n : Nat} {L : AHeap} (h : heapLow n L = true) {i : Nat} {o : AObj} (e : hat L i = some o) : o.low n = true := by
  unfold hat at e
  cases hl : L[i]? with
  | none => rw [hl] at e; cases e
  | some q =>
    rw [hl] at e
    have := List.all_eq_true.1 h q (List.mem_of_getElem? hl)
    cases e
    exact this

theorem lows_get {n : Nat} : ∀ {l : List AV}, AV.lows n l = true → ∀ {j : Nat} {v : AV}, l[j]? = some v → v.low n = true
  | [], _, j, v, e => by simp at e
  | u :: r, h, 0, v, e => by simp [AV.lows] at h e; subst e; exact h.1
  | u :: r, h, j + 1, v, e => by simp [AV.lows] at h; exact lows_get h.2 (by simpa using e)

theorem EntR.restrict {ρ ρ' : Pl} {n : Nat} (hb : ∀ l p, ρ' l = some p → l.low n = true → ρ l = some p) {es : List (AV × AV × Nat)} {xs : List MapEntry} (k : EntR ρ' es xs) (hl : (es.all fun e => AV.low n e.1 && AV.low n e.2.1) = true) : EntR ρ es xs := by
  induction k with
  | nil => exact .nil
  | cons hk hv _ ih =>
    simp only [List.all_cons, Bool.and_eq_true] at hl
    exact .cons (VR.restrict hb hl.1.1 hk) (VR.restrict hb hl.1.2 hv) (ih hl.2)

theorem ObjR.restrict {ρ ρ' : Pl} {n : Nat} (hb : ∀ l p, ρ' l = some p → l.low n = true → ρ l = some p) {p : Place} {hp : Array Obj} {o : AObj} (k : ObjR ρ' p hp o) (hl : o.low n = true) : ObjR ρ p hp o := by
  cases o with
  | row ty esz cells =>
    obtain ⟨cs, h1, h2, h3, h4⟩ := k
    exact ⟨cs, h1, h2, h3, fun j v hj => by obtain ⟨x, hx, hv, ho⟩ := h4 j v hj; exact ⟨x, hx, VR.restrict hb (lows_get hl hj) hv, ho⟩⟩
  | empty c0 => exact k
  | map es clock => obtain ⟨ents, h1, h2⟩ := k; exact ⟨ents, h1, EntR.restrict hb h2 hl⟩
  | siter s pos => exact k
  | miter => exact k.elim

/-- what a state knows of the values that lay at its start alone -/
def Tr.low (n : Nat) : Tr → Tr
  | .leaf => .leaf
  | .node v l r => .node (match v with | some u => if u.low n then some u else none | none => none) (Tr.low n l) (Tr.low n r)

def lowV (n : Nat) (o : Option AV) : Option AV := match o with | some u => if u.low n then some u else none | none => none

theorem Tr.low_get {n : Nat} : ∀ {d t : Nat} {x : Tr}, Tr.get d t (Tr.low n x) = lowV n (Tr.get d t x)
  | 0, _, _ => rfl
  | _ + 1, _, .leaf => by simp [Tr.low, Tr.get, lowV]
  | _ + 1, 0, .node v l r => rfl
  | d + 1, q + 1, .node v l r => by
    simp only [Tr.low, Tr.get]
    cases Nat.beq (q % 2) 1 <;> exact Tr.low_get

def lowEnv (n : Nat) (env : AEnv) : AEnv := ⟨env.size, Tr.low n env.tr⟩

theorem lowEnv_get {n : Nat} {env : AEnv} {t : Nat} : eget (lowEnv n env) t = lowV n (eget env t) := by
  simp only [eget, lowEnv]
  cases Nat.blt t env.size with
  | true => exact Tr.low_get
  | false => rfl

def cut (n : Nat) (ρ : Pl) : Pl := fun l => if l.low n then ρ l else none

theorem EnvR.cut {n : Nat} {env : AEnv} {tmps : Array Value} (h : EnvR ρ env tmps) : EnvR (cut n ρ) (lowEnv n env) tmps := by
  refine ⟨by simp [lowEnv, h.1], fun t v e => ?_⟩
  rw [lowEnv_get] at e
  cases ht : eget env t with
  | none => rw [ht] at e; cases e
  | some u =>
    rw [ht] at e
    simp only [lowV] at e
    split at e
    · rename_i hl
      cases e
      obtain ⟨x, hx, hv⟩ := h.2 t _ ht
      exact ⟨x, hx, VR.restrict (fun l p hl hlow => by simp [AM.cut, hlow, hl]) hl hv⟩
    · cases e

/-! the check -/

/-- which numbers are there when the operations of S have been run -/
def keepS (s : Nat → Nat) (n : Nat) (S : Nat → Bool) (i : Nat) : Bool := Nat.blt i (s 0) || (List.range n).any fun j => S j && (Nat.ble (s j) i && Nat.blt i (s (j + 1)))

def heapsOf (H : AHeap) (t : List (Option AV × AHeap)) (k : Nat) : AHeap := match k with | 0 => H | k + 1 => (t.getD k dft).2

/-- the same as the text's order does, on what is ordered ahead alone; and nothing that lay has turned -/
def freeAt (c : Ctx) (call : Callee) (ops : List Oper) (env : AEnv) (H : AHeap) (t : List (Option AV × AHeap)) (j : Nat) : Bool :=
  let s := fun k => (heapsOf H t k).length
  let B := fun i => ((Region.before ops.toArray).getD j 0).testBit i
  heapEq ((heapsOf H t (j + 1)).take (s j)) (heapsOf H t j) &&
  (heapLow (s j) (mask (keepS s ops.length B) 0 (heapsOf H t j)) &&
   sameStep (stepV c call ops (opsOf ops j) (lowEnv (s j) (envK (fun i => (ops.getD i default).dst) (fun i => (t.getD i dft).1) (fun _ => true) env j)) (mask (keepS s ops.length B) 0 (heapsOf H t j)))
     (t.getD j dft).1 (mask (keepS s ops.length fun i => B i || Nat.beq i j) 0 (heapsOf H t (j + 1))))

def freeOk (c : Ctx) (call : Callee) (ops : List Oper) (env : AEnv) (H : AHeap) (t : List (Option AV × AHeap)) : Bool :=
  edgesOk ops && (apartOk ops && (List.range ops.length).all fun j => freeAt c call ops env H t j)

/-! one operation, told exactly -/

theorem stepV_sound {call : Callee} (hc : CallOK c base w0 call) (h : Rel c base w0 ρ H w) (hf : Fresh ρ H) {env : AEnv} {a : Act} (he : EnvR ρ env a.tmps) {ops : List Oper} {i : Nat} {o : Oper} (ho : ops[i]? = some o) {u : Option AV} {H' : AHeap}
    (e : stepV c call ops o env H = some (u, H')) {Q : Exit → Act → World → Prop} {K : Act → World → Prop} (hK : ∀ x w' ρ', (∀ v, u = some v → VR ρ' v x) → Post c base w0 ρ H w ρ' H' w' → K (a.put o.dst x) w') : wpOp c.P ops.toArray Q i K a w := by
  have ho' : ops.toArray[i]? = some o := by simpa using ho
  simp only [stepV, Option.bind_eq_some_iff] at e
  obtain ⟨b, hb, e⟩ := e
  have hw := wanted_sound he hb
  simp only [wpOp, ho']
  cases b with
  | false =>
    simp only [Bool.false_eq_true, if_false, Option.some.injEq, Prod.mk.injEq] at e
    obtain ⟨rfl, rfl⟩ := e
    rw [hw, if_neg (by simp)]
    exact hK _ _ ρ (fun v hv => by cases hv; exact undef_r ρ) (Post.refl h)
  | true =>
    simp only [if_true, Option.bind_eq_some_iff] at e
    obtain ⟨⟨r, H1⟩, hr, e⟩ := e
    obtain ⟨ρ1, n, w1, hrun, hres, hpost⟩ := op_sound h he hr (fun _ => hf _ (Nat.le_refl _))
    rw [hw, if_pos rfl]
    refine .inl ?_
    unfold Oper.wp
    rw [hrun]
    cases r with
    | val v =>
      cases e
      cases n <;> simp only [PRes] at hres
      rename_i x
      exact hK _ _ ρ1 (fun u hu => by cases hu; exact hres) hpost
    | skip =>
      cases e
      cases n <;> simp only [PRes] at hres
      exact hK _ _ ρ1 (fun v hv => by cases hv; exact undef_r ρ1) hpost
    | call f args =>
      cases n <;> simp only [PRes] at hres
      rename_i g xs
      obtain ⟨rfl, l, hl, rfl⟩ := hres
      simp only [Option.bind_eq_some_iff] at e
      obtain ⟨⟨v, H2⟩, hv, e⟩ := e
      cases e
      refine Calls.mono (hc f args H1 v H2 hv ρ1 w1 l hpost.rel (hpost.fresh hf) hl) ?_
      rintro e' w' ⟨ρ', x, rfl, hvr, hp2⟩
      exact hK _ _ ρ' (fun u hu => by cases hu; exact hvr) (hpost.trans hp2)

/-! THE FRAME -/

section
variable {V V' A A' L : AHeap} {m : Nat} {ρ0 ρ' : Pl} {w1 w' : World}

/-- what is at hand in the middle: the start (ρ0, H, w), the state now (ρ, A, w1) -/
theorem cut_ext (hf0 : Fresh ρ0 H) (hx : Ext ρ0 ρ) (hm : H.length ≤ m) : Ext ρ0 (cut m ρ) := by
  intro l p e
  have := hx l p e
  unfold cut
  have hl : l.low m = true := by
    cases l with
    | own i =>
      simp only [Loc.low, decide_eq_true_eq]
      rcases Nat.lt_or_ge i H.length with h | h
      · omega
      · rw [hf0 i h] at e; cases e
    | ext _ => rfl
  rw [if_pos hl]; exact this

theorem cut_some {l : Loc} {p : Place} (e : cut m ρ l = some p) : ρ l = some p ∧ l.low m = true := by
  unfold cut at e
  split at e
  · rename_i h; exact ⟨e, h⟩
  · cases e

/-- part of what lies, on its own -/
theorem rel_part (h0 : Rel c base w0 ρ0 H w) (hf0 : Fresh ρ0 H) (hx : Ext ρ0 ρ) (hm : H.length ≤ m) (h : Rel c base w0 ρ A w1) (hsub : ∀ i o, hat V i = some o → hat A i = some o) (hlow : heapLow m V = true) (hlen : V.length = m) : Rel c base w0 (cut m ρ) V w1 := by
  have hb : ∀ l p, ρ l = some p → l.low m = true → cut m ρ l = some p := fun l p e hl => by simp [cut, hl, e]
  refine ⟨h.below, h.size, ?_, ?_, ?_, ?_⟩
  · intro i o e
    obtain ⟨p, hp, ho, hs⟩ := h.own i o (hsub i o e)
    have hi : i < m := hlen ▸ hat_lt e
    exact ⟨p, hb _ _ hp (by simp [Loc.low, hi]), ho.restrict hb (heapLow_hat hlow e), hs⟩
  · intro i j o o' p q e e' s s' r r' hpq
    exact h.inj i j o o' p q (hsub i o e) (hsub j o' e') s s' (cut_some r).1 (cut_some r').1 hpq
  · intro path cells hG
    obtain ⟨p0, hp0, _, hc0⟩ := h0.ext path cells hG
    obtain ⟨p, hp, hbb, hc⟩ := h.ext path cells hG
    refine ⟨p, hb _ _ hp rfl, hbb, fun j v hj => ?_⟩
    obtain ⟨x, hx1, hv, ho⟩ := hc j v hj
    obtain ⟨x0, _, hv0, _⟩ := hc0 j v hj
    have : x0 = x := VR.det (hv0.mono hx) hv
    subst this
    exact ⟨x0, hx1, hv0.mono (cut_ext hf0 hx hm), ho⟩
  · intro g; obtain ⟨n, hn⟩ := h.glob g; exact ⟨n, hb _ _ hn rfl⟩

/-- where things lie behind the step -/
def joinP (m k : Nat) (ρ ρ' : Pl) : Pl := fun l => match l with
  | .own i => if m ≤ i ∧ i < k then ρ' l else ρ l
  | _ => ρ l

theorem post_part (_h0 : Rel c base w0 ρ0 H w) (_hf0 : Fresh ρ0 H) (hm : H.length ≤ m) (hp0 : Post c base w0 ρ0 H w ρ A w1) (hsub : ∀ i o, hat V i = some o → hat A i = some o) (_hlow : heapLow m V = true) (hlen : V.length = m)
    (hp : Post c base w0 (cut m ρ) V w1 ρ' V' w') (hkeep : V'.take m = V) (hnone : ∀ i, m ≤ i → i < V'.length → ρ (.own i) = none)
    (hA : ∀ i o, hat A' i = some o ↔ hat A i = some o ∨ (m ≤ i ∧ hat V' i = some o)) (hAl : A'.length = A.length) (hVl : V'.length ≤ A.length) :
    Post c base w0 ρ0 H w (joinP m V'.length ρ ρ') A' w' ∧ Ext ρ (joinP m V'.length ρ ρ') ∧ Ext ρ' (joinP m V'.length ρ ρ') := by
  have h := hp0.rel
  have hVm : m ≤ V'.length := hlen ▸ hp.len
  have he : Ext ρ (joinP m V'.length ρ ρ') := by
    intro l p e
    cases l with
    | own i =>
      simp only [joinP]
      split
      · rename_i hi; rw [hnone i hi.1 hi.2] at e; cases e
      · exact e
    | ext _ => exact e
  have he' : Ext ρ' (joinP m V'.length ρ ρ') := by
    intro l p e
    rcases hp.new l p e with e1 | ⟨i, rfl, h1, h2⟩
    · obtain ⟨e2, hl⟩ := cut_some e1
      exact he l p e2
    · simp only [joinP]
      rw [if_pos ⟨by omega, h2⟩]; exact e
  have hV' : ∀ {i o}, hat V i = some o → hat V' i = some o := by
    intro i o e
    have hi := hat_lt e
    rw [← e, ← hkeep]
    unfold hat
    rw [List.getElem?_take, if_pos (by omega)]
  -- an object that lay
  have hold : ∀ {i o}, hat A i = some o → ∃ p, ρ (.own i) = some p ∧ ObjR (joinP m V'.length ρ ρ') p w'.heap o ∧ (o.solid = true → base ≤ p.b) ∧ ((∃ o2, hat V i = some o2) ∨ (o.solid = true → w'.heap[p.b]? = w1.heap[p.b]?)) := by
    intro i o e
    obtain ⟨p, hpi, ho, hs⟩ := h.own i o e
    cases hv : hat V i with
    | some o2 =>
      have ho2 := hsub i o2 hv
      rw [e] at ho2; cases ho2
      obtain ⟨q, hq, hoq, hsq⟩ := hp.rel.own i o (hV' hv)
      have hq' := he' _ _ hq
      rw [he _ _ hpi] at hq'; cases hq'
      exact ⟨p, hpi, hoq.mono he' (fun _ => rfl), hs, .inl ⟨o, rfl⟩⟩
    | none =>
      have hfr : o.solid = true → w'.heap[p.b]? = w1.heap[p.b]? := by
        intro s
        refine hp.frame p.b (rel_lt h e hpi s) fun j o2 q e2 s2 r2 hqb => ?_
        have := h.inj j i o2 o q p (hsub j o2 e2) e s2 s (cut_some r2).1 hpi hqb
        subst this
        rw [hv] at e2; cases e2
      exact ⟨p, hpi, ho.mono he hfr, hs, .inr hfr⟩
  -- a new one
  have hnew : ∀ {i o p}, m ≤ i → hat V' i = some o → o.solid = true → ρ' (.own i) = some p → w1.heap.size ≤ p.b := by
    intro i o p hi e s r
    rcases hp.place i o p e s r with hge | ⟨j, o2, q, e2, s2, r2, hq⟩
    · exact hge
    · have hji := hp.rel.inj j i o2 o q p (hV' e2) e s2 s (hp.ext _ _ r2) r hq
      have := hat_lt e2
      omega
  have hnewP : ∀ {i o}, m ≤ i → hat V' i = some o → ∃ p, ρ' (.own i) = some p ∧ joinP m V'.length ρ ρ' (.own i) = some p ∧ ObjR (joinP m V'.length ρ ρ') p w'.heap o ∧ (o.solid = true → base ≤ p.b) := by
    intro i o hi e
    obtain ⟨p, hp1, hp2, hp3⟩ := hp.rel.own i o e
    exact ⟨p, hp1, he' _ _ hp1, hp2.mono he' (fun _ => rfl), hp3⟩
  refine ⟨⟨⟨hp.rel.below, hp.rel.size, ?_, ?_, ?_, ?_⟩, hp0.ext.trans he, ?_, by rw [hAl]; exact hp0.len, Nat.le_trans hp0.size hp.size, ?_, ?_⟩, he, he'⟩
  · intro i o e
    rcases (hA i o).1 e with e1 | ⟨hi, e1⟩
    · obtain ⟨p, h1, h2, h3, _⟩ := hold e1
      exact ⟨p, he _ _ h1, h2, h3⟩
    · obtain ⟨p, _, h1, h2, h3⟩ := hnewP hi e1
      exact ⟨p, h1, h2, h3⟩
  · intro i j o o' p q e e' s s' r r' hpq
    rcases (hA i o).1 e with e1 | ⟨hi, e1⟩ <;> rcases (hA j o').1 e' with e2 | ⟨hj, e2⟩
    · obtain ⟨p1, h1, _⟩ := hold e1
      obtain ⟨q1, h2, _⟩ := hold e2
      rw [he _ _ h1] at r; cases r
      rw [he _ _ h2] at r'; cases r'
      exact h.inj i j o o' _ _ e1 e2 s s' h1 h2 hpq
    · obtain ⟨p1, h1, _⟩ := hold e1
      obtain ⟨q1, h2, h3, _⟩ := hnewP hj e2
      rw [he _ _ h1] at r; cases r
      rw [h3] at r'; cases r'
      have a1 := rel_lt h e1 h1 s
      have a2 := hnew hj e2 s' h2
      omega
    · obtain ⟨p1, h1, _⟩ := hold e2
      obtain ⟨q1, h2, h3, _⟩ := hnewP hi e1
      rw [he _ _ h1] at r'; cases r'
      rw [h3] at r; cases r
      have a1 := rel_lt h e2 h1 s'
      have a2 := hnew hi e1 s h2
      omega
    · obtain ⟨p1, h1, h2, _⟩ := hnewP hi e1
      obtain ⟨q1, h3, h4, _⟩ := hnewP hj e2
      rw [h2] at r; cases r
      rw [h4] at r'; cases r'
      exact hp.rel.inj i j o o' _ _ e1 e2 s s' h1 h3 hpq
  · intro path cells hG
    obtain ⟨p, hp1, hp2, hp3⟩ := hp.rel.ext path cells hG
    refine ⟨p, he' _ _ hp1, hp2, fun j v hj => ?_⟩
    obtain ⟨x, hx1, hv, ho⟩ := hp3 j v hj
    exact ⟨x, hx1, hv.mono he', ho⟩
  · intro g; obtain ⟨n, hn⟩ := h.glob g; exact ⟨n, he _ _ hn⟩
  · intro l p e
    cases l with
    | own i =>
      simp only [joinP] at e
      split at e
      · rename_i hi; exact .inr ⟨i, rfl, by omega, by omega⟩
      · rcases hp0.new _ _ e with e1 | ⟨k, hk, h1, h2⟩
        · exact .inl e1
        · exact .inr ⟨k, hk, h1, by omega⟩
    | ext path =>
      rcases hp0.new _ _ e with e1 | ⟨k, hk, _⟩
      · exact .inl e1
      · cases hk
  · intro b hb hn
    rw [hp.frame b (Nat.lt_of_lt_of_le hb hp0.size) fun i o p e s r hpb => ?_, hp0.frame b hb hn]
    rcases hp0.place i o p (hsub i o e) s (cut_some r).1 with hge | ⟨j, o', q, e', s', r', hq⟩
    · omega
    · exact hn j o' q e' s' r' (hq.trans hpb)
  · intro i o p e s r
    rcases (hA i o).1 e with e1 | ⟨hi, e1⟩
    · obtain ⟨p1, h1, _⟩ := hold e1
      rw [he _ _ h1] at r; cases r
      exact hp0.place i o _ e1 s h1
    · obtain ⟨q1, h2, h3, _⟩ := hnewP hi e1
      rw [h3] at r; cases r
      exact .inl (Nat.le_trans hp0.size (hnew hi e1 s h2))
end

theorem post_same {A A' : AHeap} {w1 : World} {ρ0 : Pl} (hp : Post c base w0 ρ0 H w ρ A w1) (hA : ∀ i o, hat A' i = some o ↔ hat A i = some o) (hl : A.length ≤ A'.length) : Post c base w0 ρ0 H w ρ A' w1 := by
  refine ⟨⟨hp.rel.below, hp.rel.size, fun i o e => hp.rel.own i o ((hA i o).1 e), fun i j o o' p q e e' => hp.rel.inj i j o o' p q ((hA i o).1 e) ((hA j o').1 e'), hp.rel.ext, hp.rel.glob⟩, hp.ext, fun l p e => ?_, Nat.le_trans hp.len hl, hp.size, hp.frame, fun i o p e => hp.place i o p ((hA i o).1 e)⟩
  rcases hp.new l p e with h | ⟨i, h1, h2, h3⟩
  · exact .inl h
  · exact .inr ⟨i, h1, h2, by omega⟩

/-! numbers -/

section
variable {s : Nat → Nat} {n : Nat}

theorem keepS_iff {S : Nat → Bool} {i : Nat} : keepS s n S i = true ↔ i < s 0 ∨ ∃ j, j < n ∧ S j = true ∧ s j ≤ i ∧ i < s (j + 1) := by
  simp only [keepS, Bool.or_eq_true, Nat.blt_eq, List.any_eq_true, List.mem_range, Bool.and_eq_true, Nat.ble_eq]

theorem range_of {i : Nat} : ∀ n, i < s n → i < s 0 ∨ ∃ j, j < n ∧ s j ≤ i ∧ i < s (j + 1)
  | 0, h => .inl h
  | n + 1, h => by
    rcases Nat.lt_or_ge i (s n) with h1 | h1
    · rcases range_of n h1 with h2 | ⟨j, h2, h3⟩
      · exact .inl h2
      · exact .inr ⟨j, by omega, h3⟩
    · exact .inr ⟨n, Nat.lt_succ_self _, h1, h⟩

theorem mono_of (hs : ∀ j, j < n → s j ≤ s (j + 1)) : ∀ {j k : Nat}, j ≤ k → k ≤ n → s j ≤ s k
  | j, 0, h, _ => by have : j = 0 := by omega
                     subst this; exact Nat.le_refl _
  | j, k + 1, h, hk => by
    by_cases e : j = k + 1
    · subst e; exact Nat.le_refl _
    · exact Nat.le_trans (mono_of hs (by omega) (by omega)) (hs k (by omega))
end

theorem endOf_heap {call : Callee} {ops : List Oper} : ∀ {r : List Oper} {env : AEnv} {H : AHeap} {t : List (Option AV × AHeap)}, trace c call ops r env H = some t → (endOf r t env H).2 = heapsOf H t r.length
  | [], env, H, t, e => by simp only [trace, Option.some.injEq] at e; subst e; rfl
  | o :: r, env, H, t, e => by
    simp only [trace, Option.bind_eq_some_iff, Option.some.injEq] at e
    obtain ⟨p, hp, t', ht, rfl⟩ := e
    simp only [endOf, endOf_heap ht, List.length_cons]
    cases r with
    | nil => rfl
    | cons o' r' => rfl

theorem free_spec {call : Callee} {ops : List Oper} {env : AEnv} {t : List (Option AV × AHeap)} {j : Nat} (h : freeAt c call ops env H t j = true) :
    (heapsOf H t (j + 1)).take (heapsOf H t j).length = heapsOf H t j ∧
    heapLow (heapsOf H t j).length (mask (keepS (fun k => (heapsOf H t k).length) ops.length (fun i => ((Region.before ops.toArray).getD j 0).testBit i)) 0 (heapsOf H t j)) = true ∧
    stepV c call ops (opsOf ops j) (lowEnv (heapsOf H t j).length (envK (fun i => (ops.getD i default).dst) (fun i => (t.getD i dft).1) (fun _ => true) env j)) (mask (keepS (fun k => (heapsOf H t k).length) ops.length (fun i => ((Region.before ops.toArray).getD j 0).testBit i)) 0 (heapsOf H t j)) =
      some ((t.getD j dft).1, mask (keepS (fun k => (heapsOf H t k).length) ops.length (fun i => ((Region.before ops.toArray).getD j 0).testBit i || Nat.beq i j)) 0 (heapsOf H t (j + 1))) := by
  simp only [freeAt, Bool.and_eq_true] at h
  exact ⟨heapEq_eq h.1, h.2.1, sameStep_eq h.2.2⟩

theorem free_sound (hm : c.P.follows .mixedOrders = true) (call : Callee) (hc : CallOK c base w0 call) (id : Nat) (opsA : Array Oper) (env env' : AEnv) (H H' : AHeap) (t : List (Option AV × AHeap)) (ht : trace c call opsA.toList opsA.toList env H = some t)
    (hok : freeOk c call opsA.toList env H t = true) (hend : endOf opsA.toList t env H = (env', H'))
    (ρ : Pl) (w : World) (a : Act) (h : Rel c base w0 ρ H w) (hf : Fresh ρ H) (he : EnvR ρ env a.tmps) : (Code.region id opsA true).wp c.P (Behind c base w0 ρ H w a .normal env' H') a w := by
  obtain ⟨ops⟩ := opsA
  simp only at ht hok hend
  obtain ⟨_, _, f3⟩ := trace_facts ht
  have hst := endOf_steps ht
  rw [f3, Option.some.injEq] at hst
  have hheap := endOf_heap ht
  rw [hend] at hst hheap
  simp only [Prod.mk.injEq] at hst
  have hE := hst.1
  change H' = _ at hheap
  subst hE hheap
  simp only [freeOk, Bool.and_eq_true, List.all_eq_true, List.mem_range] at hok
  obtain ⟨hedge, hap, hfree⟩ := hok
  have hspec := fun j hj => free_spec (hfree j hj)
  clear hfree hst f3 hend
  generalize hdst : (fun i => (ops.getD i default).dst) = dst at *
  generalize hvals : (fun i => (t.getD i dft).1) = vals at *
  have hdst' : ∀ i, dst i = (opsOf ops i).dst := fun i => by rw [← hdst]; rfl
  have hvals' : ∀ i, (t.getD i dft).1 = vals i := fun i => by rw [← hvals]
  generalize hhp : heapsOf H t = hp at *
  have hp0 : hp 0 = H := by rw [← hhp]; rfl
  generalize hs : (fun k => (hp k).length) = s at *
  have hs' : ∀ k, (hp k).length = s k := fun k => by rw [← hs]
  have hedge' : ∀ j, j < ops.length → ∀ e ∈ (opsOf ops j).after.toList, Region.binds .any e = true → e.on < j := by
    intro j hj e hej hb
    have := List.all_eq_true.1 (List.all_eq_true.1 hedge j (List.mem_range.2 hj)) e hej
    rw [hb] at this
    simpa using this
  have hap' : ∀ i j, i < j → j < ops.length → ((Region.before ops.toArray).getD j 0).testBit i = true ∨ Oper.apart ops.toArray (opsOf ops i) (opsOf ops j) = true := by
    intro i j hij hj
    have := List.all_eq_true.1 (List.all_eq_true.1 hap j (List.mem_range.2 hj)) i (List.mem_range.2 hij)
    simpa only [Bool.or_eq_true] using this
  generalize hbf : Region.before ops.toArray = bf at *
  simp only [hs', hvals'] at hspec
  -- the heaps grow
  have hmono1 : ∀ j, j < ops.length → s j ≤ s (j + 1) := by
    intro j hj
    have := congrArg List.length (hspec j hj).1
    rw [List.length_take, hs', hs'] at this
    omega
  have hmono : ∀ {j k}, j ≤ k → k ≤ ops.length → s j ≤ s k := fun hjk hk => mono_of hmono1 hjk hk
  have hget : ∀ {j k : Nat}, j ≤ k → k ≤ ops.length → ∀ i, i < s j → (hp k)[i]? = (hp j)[i]? := by
    intro j k hjk
    induction k with
    | zero => intro _ i _; have : j = 0 := by omega
              subst this; rfl
    | succ k ih =>
      intro hk i hi
      by_cases e : j = k + 1
      · subst e; rfl
      · rw [← ih (by omega) (by omega) i hi]
        have hik : i < s k := Nat.lt_of_lt_of_le hi (hmono (by omega) (by omega))
        have := congrArg (fun l => l[i]?) (hspec k (by omega)).1
        rw [List.getElem?_take, if_pos hik] at this
        exact this
  have hhat : ∀ {j k : Nat}, j ≤ k → k ≤ ops.length → ∀ i, i < s j → hat (hp k) i = hat (hp j) i := fun hjk hk i hi => by
    unfold hat; rw [hget hjk hk i hi]
  have hs0 : s 0 = H.length := by rw [← hs', hp0]
  generalize hA : (fun S : Nat → Bool => mask (keepS s ops.length S) 0 (hp ops.length)) = A at *
  have hA' : ∀ S, mask (keepS s ops.length S) 0 (hp ops.length) = A S := fun S => by rw [← hA]
  have hAl : ∀ S, (A S).length = s ops.length := fun S => by rw [← hA', mask_len, hs']
  have hAh : ∀ S i o, hat (A S) i = some o ↔ keepS s ops.length S i = true ∧ hat (hp ops.length) i = some o := by
    intro S i o
    rw [← hA', mask_hat]
    cases keepS s ops.length S i <;> simp
  have keep_mono : ∀ {S S' : Nat → Bool}, (∀ i, S i = true → S' i = true) → ∀ i, keepS s ops.length S i = true → keepS s ops.length S' i = true := by
    intro S S' hSS i hk
    rcases keepS_iff.1 hk with h1 | ⟨j, h1, h2, h3⟩
    · exact keepS_iff.2 (.inl h1)
    · exact keepS_iff.2 (.inr ⟨j, h1, hSS j h2, h3⟩)
  -- the heart: what holds when some have been run
  have main : ∀ (fuel : Nat) (listed : Array Bool) (ρ' : Pl) (a' : Act) (w' : World), listed.size = ops.length → toCome (setOf listed) ops.length = fuel →
      (∀ j, j < ops.length → setOf listed j = true → ∀ i, (bf.getD j 0).testBit i = true → setOf listed i = true) → a'.defers = a.defers →
      Post c base w0 ρ H w ρ' (A (setOf listed)) w' → EnvR ρ' (envK dst vals (setOf listed) env ops.length) a'.tmps → (∀ i p, s 0 ≤ i → ρ' (.own i) = some p → keepS s ops.length (setOf listed) i = true) →
      wpAny c.P .any ops.toArray (Behind c base w0 ρ H w a .normal (envK dst vals (fun _ => true) env ops.length) (hp ops.length)) fuel listed a' w' := by
    intro fuel
    induction fuel with
    | zero =>
      intro listed ρ' a' w' hls hcount hclosed hdf hpost henv hinv
      have hall := toCome_zero hcount
      have hE : EnvEq (envK dst vals (setOf listed) env ops.length) (envK dst vals (fun _ => true) env ops.length) :=
        ⟨by rw [envK_size, envK_size], fun t => envK_agree _ (fun i hi _ => hall i hi)⟩
      have hHH : A (setOf listed) = hp ops.length := by
        rw [← hA']
        refine mask_all fun i hi => ?_
        rw [hs'] at hi
        rcases range_of _ hi with h1 | ⟨j, h1, h2⟩
        · exact keepS_iff.2 (.inl h1)
        · exact keepS_iff.2 (.inr ⟨j, h1, hall j h1, h2⟩)
      refine ⟨?_, rfl, hdf, ρ', hHH ▸ hpost, henv.congr hE⟩
      rw [List.eq_nil_iff_forall_not_mem]
      intro i hi
      obtain ⟨hi1, hi2, _⟩ := (mem_ready hls).1 hi
      rw [hall i hi1] at hi2; cases hi2
    | succ fuel ih =>
      intro listed ρ' a' w' hls hcount hclosed hdf hpost henv hinv
      refine ⟨fun hnil => ?_, fun j hj => ?_⟩
      · -- none is ready, and not all are through: that cannot be
        exfalso
        have hall : ∀ k, k ≤ ops.length → ∀ i, i < k → setOf listed i = true := by
          intro k
          induction k with
          | zero => intro _ i hi; omega
          | succ k ihk =>
            intro hk i hi
            by_cases hik : i = k
            · subst hik
              cases hS : setOf listed i with
              | true => rfl
              | false =>
                have : i ∈ Region.ready .any ops.toArray listed := (mem_ready hls).2 ⟨by omega, hS, fun e hej hb => ihk (by omega) _ (hedge' i (by omega) e hej hb)⟩
                rw [hnil] at this; cases this
            · exact ihk (by omega) i (by omega)
        have hz : toCome (setOf listed) ops.length = 0 := by
          have : ∀ m, m ≤ ops.length → toCome (setOf listed) m = 0 := by
            intro m hm'
            induction m with
            | zero => rfl
            | succ m ihm => simp only [toCome]; rw [ihm (by omega), hall _ (Nat.le_refl _) m (by omega)]; rfl
          exact this _ (Nat.le_refl _)
        omega
      · obtain ⟨hjn, hSj, hready⟩ := (mem_ready hls).1 hj
        have hoj := opsOf_get hjn
        have hpre : ∀ i, (bf.getD j 0).testBit i = true → setOf listed i = true := by
          intro i hi
          rw [← hbf] at hi
          obtain ⟨e, hej, hb, hq⟩ := before_bits hoj (hedge' j hjn) hi
          rcases hq with rfl | hq
          · exact hready e hej hb
          · rw [hbf] at hq
            exact hclosed e.on (by have := hedge' j hjn e hej hb; omega) (hready e hej hb) i hq
        have hpr : ∀ i, i < ops.length → i ≠ j → setOf listed i = decide (i < j) ∨ Oper.apart ops.toArray (opsOf ops (min i j)) (opsOf ops (max i j)) = true := by
          intro i hi hij
          by_cases hlt : i < j
          · rcases hap' i j hlt hjn with hb | hb
            · exact .inl (by rw [hpre i hb]; simp [hlt])
            · exact .inr (by rw [Nat.min_eq_left (by omega), Nat.max_eq_right (by omega)]; exact hb)
          · rcases hap' j i (by omega) hi with hb | hb
            · refine .inl ?_
              cases hS : setOf listed i with
              | false => simp; omega
              | true =>
                have := hclosed i hi hS j hb
                rw [hSj] at this; cases this
            · exact .inr (by rw [Nat.min_eq_right (by omega), Nat.max_eq_left (by omega)]; exact hb)
        have hreads : ∀ t ∈ (opsOf ops j).looksAt ops.toArray, eget (envK dst vals (setOf listed) env ops.length) t = eget (envK dst vals (fun _ => true) env j) t := by
          intro t ht'
          rw [← envK_upto j ops.length (by omega)]
          refine envK_agree _ (fun i hi hd => ?_)
          by_cases hij : i = j
          · subst hij; rw [hSj]; simp
          · rcases hpr i hi hij with hp | hap
            · exact hp
            · exfalso
              rw [hdst'] at hd
              by_cases hlt : i < j
              · rw [Nat.min_eq_left (by omega), Nat.max_eq_right (by omega)] at hap
                exact (Oper.apart_spec hap).1 t hd ht'
              · rw [Nat.min_eq_right (by omega), Nat.max_eq_left (by omega)] at hap
                exact (Oper.apart_spec hap).2.2 t hd ht'
        obtain ⟨hsp1, hsp2, hsp3⟩ := hspec j hjn
        have hreads2 : ∀ t ∈ (opsOf ops j).looksAt ops.toArray, eget (lowEnv (s j) (envK dst vals (setOf listed) env ops.length)) t = eget (lowEnv (s j) (envK dst vals (fun _ => true) env j)) t := fun t ht' => by
          rw [lowEnv_get, lowEnv_get, hreads t ht']
        have hw : awanted ops (lowEnv (s j) (envK dst vals (setOf listed) env ops.length)) (opsOf ops j) = awanted ops (lowEnv (s j) (envK dst vals (fun _ => true) env j)) (opsOf ops j) := awanted_reads hreads2
        have hop : ∀ K, aop c (lowEnv (s j) (envK dst vals (setOf listed) env ops.length)) (opsOf ops j).op K = aop c (lowEnv (s j) (envK dst vals (fun _ => true) env j)) (opsOf ops j).op K := fun K => aop_congr (aval_reads hreads2) K
        generalize hB : (fun i => (bf.getD j 0).testBit i) = B at *
        have hB' : ∀ i, (bf.getD j 0).testBit i = B i := fun i => by rw [← hB]
        simp only [hB'] at hsp3 hpre
        generalize hV : mask (keepS s ops.length B) 0 (hp j) = V at *
        generalize hV' : mask (keepS s ops.length fun i => B i || Nat.beq i j) 0 (hp (j + 1)) = V' at *
        have hVl : V.length = s j := by rw [← hV, mask_len, hs']
        have hVl' : V'.length = s (j + 1) := by rw [← hV', mask_len, hs']
        have hgo : stepV c call ops (opsOf ops j) (lowEnv (s j) (envK dst vals (setOf listed) env ops.length)) V = some (vals j, V') := by
          rw [← hsp3]
          simp only [stepV, hw, hop]
        have hkeepB : ∀ i, i < s j → keepS s ops.length (fun i => B i || Nat.beq i j) i = keepS s ops.length B i := by
          intro i hi
          rw [Bool.eq_iff_iff]
          constructor
          · intro hk
            rcases keepS_iff.1 hk with h1 | ⟨k, h1, h2, h3, h4⟩
            · exact keepS_iff.2 (.inl h1)
            · simp only [Bool.or_eq_true] at h2
              rcases h2 with h2 | h2
              · exact keepS_iff.2 (.inr ⟨k, h1, h2, h3, h4⟩)
              · have := Nat.eq_of_beq_eq_true h2
                subst this; omega
          · exact keep_mono (fun i hi => by simp [hi]) i
        have hsub : ∀ i o, hat V i = some o → hat (A (setOf listed)) i = some o := by
          intro i o e
          have hi : i < s j := hVl ▸ hat_lt e
          rw [← hV, mask_hat] at e
          split at e
          · rename_i hk
            refine (hAh _ _ _).2 ⟨keep_mono (fun i hi => hpre i hi) i hk, ?_⟩
            rw [hhat (Nat.le_of_lt hjn) (Nat.le_refl _) i hi]; exact e
          · cases e
        have hm' : H.length ≤ s j := by rw [← hs0]; exact hmono (Nat.zero_le _) (Nat.le_of_lt hjn)
        have hrelV := rel_part h hf hpost.ext hm' hpost.rel hsub hsp2 hVl
        have hfV : Fresh (cut (s j) ρ') V := fun i hi => by
          unfold cut
          rw [if_neg]
          simp [Loc.low]; omega
        generalize hS' : (fun i => if i = j then true else setOf listed i) = S' at *
        have hS'j : S' j = true := by rw [← hS']; simp
        have hS'n : ∀ i, i ≠ j → S' i = setOf listed i := fun i hi => by rw [← hS']; simp [hi]
        have hset : setOf (listed.setIfInBounds j true) = S' := by
          funext i
          simp only [setOf, Array.getD_eq_getD_getElem?, Array.getElem?_setIfInBounds]
          by_cases hij : j = i
          · subst hij
            rw [if_pos rfl, if_pos (by omega), hS'j]; rfl
          · rw [if_neg hij, hS'n i (Ne.symm hij)]
            simp [setOf, Array.getD_eq_getD_getElem?]
        have hSS' : ∀ i, setOf listed i = true → S' i = true := fun i hi => by
          by_cases hij : i = j
          · rw [hij]; exact hS'j
          · rw [hS'n i hij]; exact hi
        have henv' : EnvEq (eput (envK dst vals (setOf listed) env ops.length) (dst j) (vals j)) (envK dst vals S' env ops.length) := by
          refine ⟨by rw [eput_size, envK_size, envK_size], fun t => ?_⟩
          by_cases hdt : dst j = some t
          · have := envK_last (vals := vals) (env := env) hdt hS'j ops.length hjn (fun i h1 h2 hd => by
              rw [hS'n i (by omega)]
              rcases hpr i h2 (by omega) with hp | hap
              · rw [hp]; simp; omega
              · exfalso
                rw [Nat.min_eq_right (by omega), Nat.max_eq_left (by omega)] at hap
                rw [hdst'] at hd hdt
                exact (Oper.apart_spec hap).2.1 t hdt hd)
            rw [this, hdt]
            exact eput_eq (by rw [envK_size, envK_size])
          · rw [eput_ne hdt]
            refine envK_agree _ (fun i hi hd => ?_)
            exact (hS'n i (fun hij => hdt (by rw [← hij]; exact hd))).symm
        -- whose number it is
        have hdisj : ∀ i, s j ≤ i → i < s (j + 1) → keepS s ops.length (setOf listed) i = false := by
          intro i h1 h2
          cases hk : keepS s ops.length (setOf listed) i with
          | false => rfl
          | true =>
            exfalso
            rcases keepS_iff.1 hk with h3 | ⟨k, h3, h4, h5, h6⟩
            · have := hmono (Nat.zero_le j) (Nat.le_of_lt hjn); omega
            · rcases Nat.lt_trichotomy k j with hlt | rfl | hlt
              · have := hmono (show k + 1 ≤ j by omega) (Nat.le_of_lt hjn); omega
              · rw [hSj] at h4; cases h4
              · have := hmono (show j + 1 ≤ k by omega) (Nat.le_of_lt h3); omega
        have hAA : ∀ i o, hat (A S') i = some o ↔ hat (A (setOf listed)) i = some o ∨ (s j ≤ i ∧ hat V' i = some o) := by
          intro i o
          rw [hAh, hAh, ← hV', mask_hat]
          constructor
          · rintro ⟨hk, ho⟩
            rcases keepS_iff.1 hk with h1 | ⟨k, h1, h2, h3, h4⟩
            · exact .inl ⟨keepS_iff.2 (.inl h1), ho⟩
            · by_cases hkj : k = j
              · subst hkj
                refine .inr ⟨h3, ?_⟩
                rw [if_pos (keepS_iff.2 (.inr ⟨k, h1, by simp, h3, h4⟩)), ← hhat (by omega) (Nat.le_refl _) i h4]
                exact ho
              · exact .inl ⟨keepS_iff.2 (.inr ⟨k, h1, by rw [← hS'n k hkj]; exact h2, h3, h4⟩), ho⟩
          · rintro (⟨hk, ho⟩ | ⟨h1, ho⟩)
            · exact ⟨keep_mono hSS' i hk, ho⟩
            · split at ho
              · have hi : i < s (j + 1) := by rw [← hs']; exact hat_lt ho
                refine ⟨keepS_iff.2 (.inr ⟨j, hjn, hS'j, h1, hi⟩), ?_⟩
                rw [hhat (show j + 1 ≤ ops.length by omega) (Nat.le_refl _) i hi]; exact ho
              · cases ho
        refine stepV_sound hc hrelV hfV henv.cut hoj hgo ?_
        intro x w2 ρ2 hv hp2
        have hkeep : V'.take (s j) = V := by
          rw [← hV, ← hV']
          apply List.ext_getElem?
          intro i
          rw [List.getElem?_take, mask_get, mask_get]
          split
          · rename_i hi
            rw [hget (Nat.le_succ j) (by omega) i hi, Nat.zero_add, hkeepB i hi]
          · rename_i hi
            rw [List.getElem?_eq_none (show (hp j).length ≤ i by rw [hs']; omega)]; rfl
        obtain ⟨hp3, he1, he2⟩ := post_part h hf hm' hpost hsub hsp2 hVl hp2 hkeep (fun i h1 h2 => by
            rw [hVl'] at h2
            cases hq : ρ' (.own i) with
            | none => rfl
            | some p =>
              have := hinv i p (by have := hmono (Nat.zero_le j) (Nat.le_of_lt hjn); omega) hq
              rw [hdisj i h1 h2] at this; cases this) hAA (by rw [hAl, hAl]) (by rw [hVl', hAl]; exact hmono (by omega) (Nat.le_refl _))
        refine ih (listed.setIfInBounds j true) (joinP (s j) V'.length ρ' ρ2) (a'.put (opsOf ops j).dst x) w2 (by simpa using hls) ?_ ?_ ?_ ?_ ?_ ?_
        · rw [hset]
          have := toCome_step hSj hS'j (fun i hi => (hS'n i hi).symm) hjn
          omega
        · rw [hset]
          intro k hk hSk i hi
          by_cases hij : i = j
          · rw [hij]; exact hS'j
          · rw [hS'n i hij]
            by_cases hkj : k = j
            · subst hkj; exact hpre i (by rw [← hB']; exact hi)
            · exact hclosed k hk (by rw [← hS'n k hkj]; exact hSk) i hi
        · rw [← hdf]; cases (opsOf ops j).dst <;> rfl
        · rw [hset]; exact hp3
        · rw [hset]; exact EnvR.congr (by rw [hdst']; exact (henv.mono he1).put _ (fun u hu => (hv u hu).mono he2)) henv'
        · rw [hset]
          intro i p h1 hq
          simp only [joinP] at hq
          split at hq
          · rename_i hi
            rw [hVl'] at hi
            exact keepS_iff.2 (.inr ⟨j, hjn, hS'j, hi.1, hi.2⟩)
          · exact keep_mono hSS' i (hinv i p h1 hq)
  refine wp_region_any hm ?_
  have hS0 : ∀ i, setOf (Array.replicate ops.length false) i = false := fun i => by
    simp only [setOf, Array.getD_eq_getD_getElem?, Array.getElem?_replicate]
    split <;> rfl
  have hE0 : ∀ k, envK dst vals (setOf (Array.replicate ops.length false)) env k = env := by
    intro k
    induction k with
    | zero => rfl
    | succ k ihk => simp only [envK, hS0]; simpa using ihk
  have hT0 : ∀ k, toCome (setOf (Array.replicate ops.length false)) k = k := by
    intro k
    induction k with
    | zero => rfl
    | succ k ihk => simp only [toCome, hS0]; simp [ihk]
  refine main ops.length (Array.replicate ops.length false) ρ a _ (by simp) (hT0 _) (fun j _ hj => by rw [hS0] at hj; cases hj) rfl ?_ ?_ ?_
  · refine post_same (post_drew h) (fun i o => ?_) ?_
    · rw [hAh]
      constructor
      · rintro ⟨hk, ho⟩
        rcases keepS_iff.1 hk with h1 | ⟨k, _, h2, _⟩
        · rw [hhat (Nat.zero_le _) (Nat.le_refl _) i h1, hp0] at ho; exact ho
        · rw [hS0] at h2; cases h2
      · intro ho
        have hi : i < s 0 := by rw [hs0]; exact hat_lt ho
        exact ⟨keepS_iff.2 (.inl hi), by rw [hhat (Nat.zero_le _) (Nat.le_refl _) i hi, hp0]; exact ho⟩
    · rw [hAl, ← hs0]; exact hmono (Nat.zero_le _) (Nat.le_refl _)
  · rw [hE0]; exact he
  · intro i p h1 hq
    rw [hf i (by omega)] at hq; cases hq

/-- what a region that draws its order does -/
def drawRunF : DrawOk := fun c call ops env H => (trace c call ops ops env H).bind fun t => if regOk ops (moves ops H t) (still c call ops env H t) || freeOk c call ops env H t then some (endOf ops t env H) else none

theorem drawF_sound (hm : c.P.follows .mixedOrders = true) (call : Callee) (hc : CallOK c base w0 call) : DrawOKs c base w0 drawRunF call := by
  intro id ops env env' H H' e ρ w a h hf he
  simp only [drawRunF, Option.bind_eq_some_iff] at e
  obtain ⟨t, ht, e⟩ := e
  split at e
  · rename_i hok
    simp only [Bool.or_eq_true] at hok
    rcases hok with hok | hok
    · refine order_sound hm call hc id ops env env' H H' ?_ ?_ ρ w a h hf he
      · simp only [drawOk, ht]; exact hok
      · rw [endOf_steps ht]; exact e
    · simp only [Option.some.injEq] at e
      exact free_sound hm call hc id ops env env' H H' t ht hok e ρ w a h hf he
  · cases e

end Go.AM
