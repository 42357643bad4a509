/-
  REGIONS THAT DRAW THEIR ORDER (own work): where each operation that turns the heap is ordered against each that looks at it, every order does what the text's order does.
-/
import Derived.Test.YtecfofmndpgnjaaAmCode
namespace Go.AM
open Go.RowKit
set_option linter.unusedSimpArgs false

variable {c : Ctx} {base : Nat} {w0 w : World} {ρ : Pl} {H : AHeap}

/-! an operation looks at its operands alone -/

theorem mapO_congr {α β : Type} {f g : α → Option β} : ∀ {l : List α}, (∀ x ∈ l, f x = g x) → mapO f l = mapO g l
  | [], _ => rfl
  | x :: r, h => by
    simp only [mapO]
    rw [h x (by simp), mapO_congr (l := r) (fun y hy => h y (by simp [hy]))]

theorem avals_congr {env env' : AEnv} {l : List Operand} (h : ∀ x ∈ l, aval env x = aval env' x) : avals env l = avals env' l := mapO_congr h

theorem optval_congr {env env' : AEnv} {x : Option Operand} (h : ∀ y ∈ x.toArray, aval env y = aval env' y) : optval env x = optval env' x := by
  cases x with
  | none => rfl
  | some x => simp only [optval]; rw [h x (by simp)]

theorem aop_congr {env env' : AEnv} {o : Op} (h : ∀ x ∈ o.operands, aval env x = aval env' x) (H : AHeap) : aop c env o H = aop c env' o H := by
  cases o with
  | move x | assign x => simp only [aop]; rw [h x (by simp [Op.operands])]
  | pick q a b => simp only [aop]; rw [h q (by simp [Op.operands]), h a (by simp [Op.operands]), h b (by simp [Op.operands])]
  | alloc t => rfl
  | box t x => simp only [aop]; rw [h x (by simp [Op.operands])]
  | build t ps =>
    simp only [aop]
    rw [mapO_congr (g := fun p => (aval env' p.2).map fun v => (p.1, v)) (fun p hp => by rw [h p.2 (by simp only [Op.operands]; simp; exact ⟨p.1, by simpa using hp⟩)])]
  | buildSlice t n ps =>
    simp only [aop]
    rw [mapO_congr (g := fun p => (aval env' p.2).map fun v => (p.1, v)) (fun p hp => by rw [h p.2 (by simp only [Op.operands]; simp; exact ⟨p.1, by simpa using hp⟩)])]
  | insert t m k v => simp only [aop]; rw [h m (by simp [Op.operands]), h k (by simp [Op.operands]), h v (by simp [Op.operands])]
  | load t a => simp only [aop]; rw [h a (by simp [Op.operands])]
  | store t a v => simp only [aop]; rw [h a (by simp [Op.operands]), h v (by simp [Op.operands])]
  | nilCheck x => simp only [aop]; rw [h x (by simp [Op.operands])]
  | binOp op t x y yt => simp only [aop]; rw [h x (by simp [Op.operands]), h y (by simp [Op.operands])]
  | unOp op t x => simp only [aop]; rw [h x (by simp [Op.operands])]
  | convert s d x => simp only [aop]; rw [h x (by simp [Op.operands])]
  | makeInterface t x => simp only [aop]; rw [h x (by simp [Op.operands])]
  | makeFunc fn a b =>
    simp only [aop]
    rw [avals_congr (l := a.toList) (env' := env') (fun x hx => h x (by simp only [Op.operands]; simp; exact .inl (by simpa using hx))), avals_congr (l := b.toList) (env' := env') (fun x hx => h x (by simp only [Op.operands]; simp; exact .inr (by simpa using hx)))]
  | makeMap t r =>
    simp only [aop]
    cases r with
    | none => rfl
    | some x => simp only []; rw [h x (by simp [Op.operands])]
  | makeSlice t l m => simp only [aop]; rw [h l (by simp [Op.operands]), h m (by simp [Op.operands])]
  | slice t x lo hi mx =>
    simp only [aop]
    rw [h x (by simp [Op.operands]), optval_congr (x := lo) (env' := env') (fun y hy => h y (by simp only [Op.operands]; simp at hy ⊢; simp [hy])), optval_congr (x := hi) (env' := env') (fun y hy => h y (by simp only [Op.operands]; simp at hy ⊢; simp [hy])), optval_congr (x := mx) (env' := env') (fun y hy => h y (by simp only [Op.operands]; simp at hy ⊢; simp [hy]))]
  | fieldAddr t x f => simp only [aop]; rw [h x (by simp [Op.operands])]
  | field t x f => simp only [aop]; rw [h x (by simp [Op.operands])]
  | indexAddr t x i => simp only [aop]; rw [h x (by simp [Op.operands]), h i (by simp [Op.operands])]
  | index t x i => simp only [aop]; rw [h x (by simp [Op.operands]), h i (by simp [Op.operands])]
  | lookup t m k ok => simp only [aop]; rw [h m (by simp [Op.operands]), h k (by simp [Op.operands])]
  | mapUpdate t m k v => simp only [aop]; rw [h m (by simp [Op.operands]), h k (by simp [Op.operands]), h v (by simp [Op.operands])]
  | mapEntry t m k => simp only [aop]; rw [h m (by simp [Op.operands]), h k (by simp [Op.operands])]
  | entryStore t m s v => simp only [aop]; rw [h m (by simp [Op.operands]), h s (by simp [Op.operands]), h v (by simp [Op.operands])]
  | typeAssert x xt t ok => simp only [aop]; rw [h x (by simp [Op.operands])]
  | extract x i => simp only [aop]; rw [h x (by simp [Op.operands])]
  | call cl =>
    simp only [aop, acallee]
    rw [avals_congr (l := cl.args.toList) (env' := env') (fun x hx => h x (by simp only [Op.operands, Call.operands]; simp; exact .inr (by simpa using hx)))]
    congr 1
    funext args
    cases hc : cl.callee with
    | builtin b => rfl
    | value f => simp only []; rw [h f (by simp [Op.operands, Call.operands, hc])]
    | invoke r n => simp only []; rw [h r (by simp [Op.operands, Call.operands, hc])]
  | _ => rfl

/-- operations that do not look at the heap -/
def isP : Op → Bool
  | .move _ | .assign _ | .pick .. | .build .. | .nilCheck _ | .binOp .. | .unOp .. | .convert .. | .makeInterface .. | .makeFunc .. | .fieldAddr .. | .field .. | .indexAddr .. | .index .. | .extract .. => true
  | _ => false

theorem pair_still {q : Option AV} {r : ARes} {H' : AHeap} (e : pair q H = some (r, H')) (K : AHeap) : (H' = H ∧ ∃ v, r = .val v) ∧ pair q K = some (r, K) := by
  simp only [pair, Option.map_eq_some_iff, Prod.mk.injEq] at e ⊢
  obtain ⟨v, hv, rfl, rfl⟩ := e
  exact ⟨⟨rfl, v, rfl⟩, v, hv, by simp⟩

theorem isP_still {env : AEnv} {o : Op} (hp : isP o = true) {r : ARes} {H' : AHeap} (e : aop c env o H = some (r, H')) (K : AHeap) : (H' = H ∧ ∃ v, r = .val v) ∧ aop c env o K = some (r, K) := by
  cases o <;> simp only [isP] at hp <;> try cases hp
  all_goals simp only [aop] at e ⊢
  case move => exact pair_still e K
  case assign => exact pair_still e K
  case pick q a b =>
    simp only [Option.bind_eq_some_iff] at e ⊢
    obtain ⟨v, hv, e⟩ := e
    split at e
    · obtain ⟨h1, h2⟩ := pair_still e K; exact ⟨h1, _, hv, h2⟩
    · cases e
  case build =>
    simp only [Option.bind_eq_some_iff] at e ⊢
    obtain ⟨v, hv, e⟩ := e
    obtain ⟨h1, h2⟩ := pair_still e K; exact ⟨h1, _, hv, h2⟩
  case nilCheck =>
    simp only [Option.bind_eq_some_iff] at e ⊢
    obtain ⟨v, hv, e⟩ := e
    split at e <;> cases e
    all_goals exact ⟨⟨rfl, _, rfl⟩, _, hv, rfl⟩
  case binOp =>
    simp only [Option.bind_eq_some_iff] at e ⊢
    obtain ⟨v, hv, u, hu, e⟩ := e
    obtain ⟨h1, h2⟩ := pair_still e K; exact ⟨h1, _, hv, _, hu, h2⟩
  case makeInterface =>
    simp only [Option.bind_eq_some_iff] at e ⊢
    obtain ⟨v, hv, d, hd, e⟩ := e
    refine ⟨?_, v, hv, d, hd, ?_⟩ <;> (split at e <;> cases e)
    · exact ⟨rfl, _, rfl⟩
    · rfl
  case makeFunc =>
    simp only [Option.bind_eq_some_iff] at e ⊢
    obtain ⟨v, hv, u, hu, e⟩ := e
    cases e
    exact ⟨⟨rfl, _, rfl⟩, _, hv, _, hu, rfl⟩
  case extract =>
    simp only [Option.bind_eq_some_iff] at e ⊢
    obtain ⟨v, hv, e⟩ := e
    split at e
    · obtain ⟨h1, h2⟩ := pair_still e K; exact ⟨h1, _, hv, h2⟩
    · cases e
  case indexAddr =>
    simp only [Option.bind_eq_some_iff] at e ⊢
    obtain ⟨v, hv, u, hu, e⟩ := e
    obtain ⟨h1, h2⟩ := pair_still e K; exact ⟨h1, _, hv, _, hu, h2⟩
  case index =>
    simp only [Option.bind_eq_some_iff] at e ⊢
    obtain ⟨v, hv, u, hu, e⟩ := e
    obtain ⟨h1, h2⟩ := pair_still e K; exact ⟨h1, _, hv, _, hu, h2⟩
  all_goals
    simp only [Option.bind_eq_some_iff] at e ⊢
    obtain ⟨v, hv, e⟩ := e
    obtain ⟨h1, h2⟩ := pair_still e K; exact ⟨h1, _, hv, h2⟩

/-! equal heaps, told by a Bool -/

mutual
def AV.beq : AV → AV → Bool
  | .bool a, .bool b => a == b
  | .int k a, .int l b => k == l && a == b
  | .str a, .str b => a == b
  | .nilptr, .nilptr => true
  | .ptr a i, .ptr b j => a == b && i == j
  | .nilslice, .nilslice => true
  | .slice a b d e, .slice a' b' d' e' => a == a' && b == b' && d == d' && e == e'
  | .odd a, .odd b => a == b
  | .nilmap, .nilmap => true
  | .map a, .map b => a == b
  | .nilfunc, .nilfunc => true
  | .func f a b, .func g d e => f == g && AV.beqs a d && AV.beqs b e
  | .niliface, .niliface => true
  | .iface t a, .iface u b => t == u && AV.beq a b
  | .agg a, .agg b => AV.beqs a b
  | .tuple a, .tuple b => AV.beqs a b
  | _, _ => false
def AV.beqs : List AV → List AV → Bool
  | [], [] => true
  | a :: r, b :: s => AV.beq a b && AV.beqs r s
  | _, _ => false
end

mutual
theorem AV.beq_eq : ∀ {a b : AV}, AV.beq a b = true → a = b
  | .bool _, b, h => by cases b <;> simp_all [AV.beq]
  | .int _ _, b, h => by cases b <;> simp_all [AV.beq]
  | .str _, b, h => by cases b <;> simp_all [AV.beq]
  | .nilptr, b, h => by cases b <;> simp_all [AV.beq]
  | .ptr _ _, b, h => by cases b <;> simp_all [AV.beq]
  | .nilslice, b, h => by cases b <;> simp_all [AV.beq]
  | .slice _ _ _ _, b, h => by cases b <;> simp_all [AV.beq]
  | .odd _, b, h => by cases b <;> simp_all [AV.beq]
  | .nilmap, b, h => by cases b <;> simp_all [AV.beq]
  | .map _, b, h => by cases b <;> simp_all [AV.beq]
  | .nilfunc, b, h => by cases b <;> simp_all [AV.beq]
  | .func f x y, b, h => by
    cases b <;> simp only [AV.beq] at h <;> try cases h
    simp only [Bool.and_eq_true, beq_iff_eq] at h
    obtain ⟨⟨rfl, h1⟩, h2⟩ := h
    rw [AV.beqs_eq h1, AV.beqs_eq h2]
  | .niliface, b, h => by cases b <;> simp_all [AV.beq]
  | .iface t x, b, h => by
    cases b <;> simp only [AV.beq] at h <;> try cases h
    simp only [Bool.and_eq_true, beq_iff_eq] at h
    obtain ⟨rfl, h1⟩ := h
    rw [AV.beq_eq h1]
  | .agg x, b, h => by
    cases b <;> simp only [AV.beq] at h <;> try cases h
    rw [AV.beqs_eq h]
  | .tuple x, b, h => by
    cases b <;> simp only [AV.beq] at h <;> try cases h
    rw [AV.beqs_eq h]
theorem AV.beqs_eq : ∀ {a b : List AV}, AV.beqs a b = true → a = b
  | [], b, h => by cases b <;> simp_all [AV.beqs]
  | x :: r, [], h => by simp [AV.beqs] at h
  | x :: r, y :: s, h => by
    simp only [AV.beqs, Bool.and_eq_true] at h
    rw [AV.beq_eq h.1, AV.beqs_eq h.2]
end

mutual
theorem AV.beq_refl : ∀ (a : AV), AV.beq a a = true
  | .bool _ => by simp [AV.beq]
  | .int _ _ => by simp [AV.beq]
  | .str _ => by simp [AV.beq]
  | .nilptr => rfl
  | .ptr _ _ => by simp [AV.beq]
  | .nilslice => rfl
  | .slice _ _ _ _ => by simp [AV.beq]
  | .odd _ => by simp [AV.beq]
  | .nilmap => rfl
  | .map _ => by simp [AV.beq]
  | .nilfunc => rfl
  | .func f x y => by simp [AV.beq, AV.beqs_refl x, AV.beqs_refl y]
  | .niliface => rfl
  | .iface t x => by simp [AV.beq, AV.beq_refl x]
  | .agg x => by simp [AV.beq, AV.beqs_refl x]
  | .tuple x => by simp [AV.beq, AV.beqs_refl x]
theorem AV.beqs_refl : ∀ (a : List AV), AV.beqs a a = true
  | [] => rfl
  | x :: r => by simp [AV.beqs, AV.beq_refl x, AV.beqs_refl r]
end

def entBeq : List (AV × AV × Nat) → List (AV × AV × Nat) → Bool
  | [], [] => true
  | a :: r, b :: s => AV.beq a.1 b.1 && AV.beq a.2.1 b.2.1 && a.2.2 == b.2.2 && entBeq r s
  | _, _ => false

theorem entBeq_eq : ∀ {a b : List (AV × AV × Nat)}, entBeq a b = true → a = b
  | [], b, h => by cases b <;> simp_all [entBeq]
  | x :: r, [], h => by simp [entBeq] at h
  | x :: r, y :: s, h => by
    simp only [entBeq, Bool.and_eq_true, beq_iff_eq] at h
    obtain ⟨⟨⟨h1, h2⟩, h3⟩, h4⟩ := h
    obtain ⟨x1, x2, x3⟩ := x
    obtain ⟨y1, y2, y3⟩ := y
    simp only at h1 h2 h3
    rw [AV.beq_eq h1, AV.beq_eq h2, entBeq_eq h4, h3]

theorem entBeq_refl : ∀ (a : List (AV × AV × Nat)), entBeq a a = true
  | [] => rfl
  | x :: r => by simp [entBeq, AV.beq_refl, entBeq_refl r]

def AObj.beq : AObj → AObj → Bool
  | .row t e a, .row t' e' a' => t == t' && e == e' && AV.beqs a a'
  | .empty a, .empty b => a == b
  | .map a n, .map b m => entBeq a b && n == m
  | .siter s p, .siter t q => s == t && p == q
  | .miter a b d e, .miter a' b' d' e' => a == a' && b == b' && d == d' && e == e'
  | _, _ => false

theorem AObj.beq_eq {a b : AObj} (h : AObj.beq a b = true) : a = b := by
  cases a <;> cases b <;> simp only [AObj.beq] at h <;> try cases h
  · simp only [Bool.and_eq_true, beq_iff_eq] at h; rw [h.1.1, h.1.2, AV.beqs_eq h.2]
  · simp only [beq_iff_eq] at h; rw [h]
  · simp only [Bool.and_eq_true, beq_iff_eq] at h; rw [h.2, entBeq_eq h.1]
  · simp only [Bool.and_eq_true, beq_iff_eq] at h; rw [h.1, h.2]
  · simp only [Bool.and_eq_true, beq_iff_eq] at h; rw [h.1.1.1, h.1.1.2, h.1.2, h.2]

theorem AObj.beq_refl (a : AObj) : AObj.beq a a = true := by
  cases a <;> simp [AObj.beq, AV.beqs_refl, entBeq_refl]

def heapEq : AHeap → AHeap → Bool
  | [], [] => true
  | none :: r, none :: s => heapEq r s
  | some a :: r, some b :: s => AObj.beq a b && heapEq r s
  | _, _ => false

theorem heapEq_eq : ∀ {a b : AHeap}, heapEq a b = true → a = b
  | [], b, h => by cases b <;> simp_all [heapEq]
  | none :: r, [], h => by simp [heapEq] at h
  | some _ :: r, [], h => by simp [heapEq] at h
  | none :: r, none :: s, h => by simp only [heapEq] at h; rw [heapEq_eq h]
  | none :: r, some _ :: s, h => by simp [heapEq] at h
  | some _ :: r, none :: s, h => by simp [heapEq] at h
  | some a :: r, some b :: s, h => by
    simp only [heapEq, Bool.and_eq_true] at h
    rw [AObj.beq_eq h.1, heapEq_eq h.2]

@[simp] theorem heapEq_refl : ∀ (a : AHeap), heapEq a a = true
  | [] => rfl
  | none :: r => by simp only [heapEq]; exact heapEq_refl r
  | some a :: r => by simp only [heapEq, AObj.beq_refl, heapEq_refl r]; rfl

/-! the check -/

/-- what an operation puts, and the heap behind it -/
def stepV (c : Ctx) (call : Callee) (ops : List Oper) (o : Oper) (env : AEnv) (H : AHeap) : Option (Option AV × AHeap) :=
  (awanted ops env o).bind fun w => if w then
    (aop c env o.op H).bind fun (r, H') => match r with
    | .val v => some (some v, H')
    | .skip => some (some .undef, H')
    | .call f args => (call f args H').bind fun (v, H'') => some (some v, H'')
  else some (some .undef, H)

theorem astep_stepV (call : Callee) (ops : List Oper) (o : Oper) (env : AEnv) (H : AHeap) : astep c call ops o env H = (stepV c call ops o env H).map fun p => (eput env o.dst p.1, p.2) := by
  simp only [astep, stepV]
  cases awanted ops env o with
  | none => rfl
  | some w =>
    cases w with
    | false => rfl
    | true =>
      simp only [Option.bind_some, if_true]
      cases aop c env o.op H with
      | none => rfl
      | some p =>
        obtain ⟨r, H'⟩ := p
        simp only [Option.bind_some]
        cases r with
        | val v => rfl
        | skip => rfl
        | call f args =>
          simp only []
          cases call f args H' with
          | none => rfl
          | some q => rfl

def trace (c : Ctx) (call : Callee) (ops : List Oper) : List Oper → AEnv → AHeap → Option (List (Option AV × AHeap))
  | [], _, _ => some []
  | o :: r, env, H => (stepV c call ops o env H).bind fun p => (trace c call ops r (eput env o.dst p.1) p.2).bind fun t => some (p :: t)

/-- operations that never turn the heap -/
def quiet : Op → Bool
  | .load .. => true
  | .lookup .. => true
  | o => isP o

theorem quiet_same {env : AEnv} {o : Op} (hq : quiet o = true) {r : ARes} {H' : AHeap} (e : aop c env o H = some (r, H')) : H' = H ∧ ∃ v, r = .val v := by
  unfold quiet at hq
  split at hq
  · simp only [aop, Option.bind_eq_some_iff, pair, Option.map_eq_some_iff, Prod.mk.injEq] at e
    obtain ⟨_, _, v, _, rfl, rfl⟩ := e
    exact ⟨rfl, v, rfl⟩
  · simp only [aop, Option.bind_eq_some_iff, pair, Option.map_eq_some_iff, Prod.mk.injEq] at e
    obtain ⟨_, _, _, _, v, _, rfl, rfl⟩ := e
    exact ⟨rfl, v, rfl⟩
  · exact (isP_still hq e H).1

/-- has the operation turned the heap? -/
def mvOf (o : Op) (H H' : AHeap) : Bool := !quiet o && (!Nat.beq H.length H'.length || !heapEq H H')

theorem mvOf_self (o : Op) (H : AHeap) : mvOf o H H = false := by simp [mvOf]

theorem mvOf_same {call : Callee} {ops : List Oper} {o : Oper} {env : AEnv} {v : Option AV} {H' : AHeap} (h : mvOf o.op H H' = false) (e : stepV c call ops o env H = some (v, H')) : H' = H := by
  simp only [mvOf, Bool.and_eq_false_iff, Bool.or_eq_false_iff, Bool.not_eq_false'] at h
  rcases h with h | ⟨_, h⟩
  · simp only [stepV, Option.bind_eq_some_iff] at e
    obtain ⟨b, hb, e⟩ := e
    cases b with
    | false => simp at e; exact e.2.symm
    | true =>
      simp only [if_true, Option.bind_eq_some_iff] at e
      obtain ⟨⟨r, H1⟩, hr, e⟩ := e
      obtain ⟨rfl, u, rfl⟩ := quiet_same h hr
      simp at e; exact e.2.symm
  · exact (heapEq_eq h).symm

/-- which operations turn the heap -/
def moves : List Oper → AHeap → List (Option AV × AHeap) → List Bool
  | o :: r, H, p :: t => mvOf o.op H p.2 :: moves r p.2 t
  | _, _, _ => []

def opsOf (ops : List Oper) (i : Nat) : Oper := ops.getD i default

/-- what must hold of two operations, the first ahead of the second in the text -/
def pairOk (ops : List Oper) (b : Array Nat) (mv : List Bool) (st : Nat → Bool) (i j : Nat) : Bool :=
  (b.getD j 0).testBit i ||
  (Oper.apart ops.toArray (opsOf ops i) (opsOf ops j) && (!mv.getD i false || st j) && (!mv.getD j false || st i))

def edgesOk (ops : List Oper) : Bool := (List.range ops.length).all fun j => (opsOf ops j).after.toList.all fun e => !Region.binds .any e || decide (e.on < j)

/-- whatever is not ordered may be run either way round, as the text alone tells -/
def apartOk (ops : List Oper) : Bool := (List.range ops.length).all fun j => (List.range j).all fun i => ((Region.before ops.toArray).getD j 0).testBit i || Oper.apart ops.toArray (opsOf ops i) (opsOf ops j)

def inOrder (b : Array Nat) (i j : Nat) : Bool := if Nat.blt i j then (b.getD j 0).testBit i else (b.getD i 0).testBit j

def regOk (ops : List Oper) (mv : List Bool) (st : Nat → Bool) : Bool :=
  edgesOk ops && (apartOk ops && (List.range ops.length).all fun i => !mv.getD i false || (List.range ops.length).all fun j => Nat.beq i j || (inOrder (Region.before ops.toArray) i j || st j))

theorem regOk_pair {ops : List Oper} {mv : List Bool} {st : Nat → Bool} (h : regOk ops mv st = true) : edgesOk ops = true ∧ ∀ i j, i < j → j < ops.length → pairOk ops (Region.before ops.toArray) mv st i j = true := by
  simp only [regOk, Bool.and_eq_true] at h
  obtain ⟨h1, h2, h3⟩ := h
  refine ⟨h1, fun i j hij hj => ?_⟩
  have ha := List.all_eq_true.1 (List.all_eq_true.1 h2 j (List.mem_range.2 hj)) i (List.mem_range.2 hij)
  have hm : ∀ a b, a < ops.length → b < ops.length → a ≠ b → mv.getD a false = true → inOrder (Region.before ops.toArray) a b = true ∨ st b = true := by
    intro a b ha hb hab hma
    have := List.all_eq_true.1 h3 a (List.mem_range.2 ha)
    simp only [hma, Bool.not_true, Bool.false_or] at this
    have := List.all_eq_true.1 this b (List.mem_range.2 hb)
    simp only [Bool.or_eq_true] at this
    rcases this with h | h
    · exact absurd (Nat.eq_of_beq_eq_true h) hab
    · exact h
  have o1 : inOrder (Region.before ops.toArray) i j = ((Region.before ops.toArray).getD j 0).testBit i := by
    simp [inOrder, Nat.blt_eq, hij]
  have o2 : inOrder (Region.before ops.toArray) j i = ((Region.before ops.toArray).getD j 0).testBit i := by
    have : Nat.blt j i = false := by
      cases hq : Nat.blt j i with
      | false => rfl
      | true => rw [Nat.blt_eq] at hq; omega
    simp [inOrder, this]
  simp only [pairOk, Bool.or_eq_true, Bool.and_eq_true, Bool.not_eq_true'] at ha ⊢
  cases hb : ((Region.before ops.toArray).getD j 0).testBit i with
  | true => exact .inl rfl
  | false =>
    rw [hb] at ha o1 o2
    refine .inr ⟨⟨ha.resolve_left (by simp), ?_⟩, ?_⟩
    · cases hmi : mv.getD i false with
      | false => exact .inl rfl
      | true => exact .inr ((hm i j (by omega) hj (by omega) hmi).resolve_left (by rw [o1]; simp))
    · cases hmj : mv.getD j false with
      | false => exact .inl rfl
      | true => exact .inr ((hm j i hj (by omega) (by omega) hmj).resolve_left (by rw [o2]; simp))

def beforeF (acc : Array Nat) (o : Oper) : Nat := o.after.foldl (fun s e => if Region.binds .any e then s ||| 2 ^ e.on ||| acc.getD e.on 0 else s) 0

theorem foldl_push_get {f : Array Nat → Oper → Nat} : ∀ (l : List Oper) (acc : Array Nat), (l.foldl (fun acc o => acc.push (f acc o)) acc).size = acc.size + l.length ∧
    (∀ i, i < acc.size → (l.foldl (fun acc o => acc.push (f acc o)) acc)[i]? = acc[i]?) ∧
    ∀ j o, l[j]? = some o → (l.foldl (fun acc o => acc.push (f acc o)) acc)[acc.size + j]? = some (f ((l.take j).foldl (fun acc o => acc.push (f acc o)) acc) o)
  | [], acc => ⟨by simp, fun _ _ => rfl, fun j o h => by simp at h⟩
  | x :: l, acc => by
    obtain ⟨h1, h2, h3⟩ := foldl_push_get (f := f) l (acc.push (f acc x))
    refine ⟨by simp at h1 ⊢; omega, fun i hi => ?_, fun j o hj => ?_⟩
    · rw [List.foldl_cons, h2 i (by simp; omega), Array.getElem?_push, if_neg (by omega)]
    · cases j with
      | zero =>
        simp at hj; subst hj
        rw [List.foldl_cons, Nat.add_zero, h2 acc.size (by simp)]
        simp
      | succ j =>
        have := h3 j o (by simpa using hj)
        rw [List.foldl_cons, show acc.size + (j + 1) = (acc.push (f acc x)).size + j by simp; omega, this]
        rfl

theorem before_get {ops : List Oper} {j : Nat} {o : Oper} (h : ops[j]? = some o) : (Region.before ops.toArray).getD j 0 = beforeF (Region.before (ops.take j).toArray) o := by
  have := (foldl_push_get (f := beforeF) ops #[]).2.2 j o h
  have e : ∀ l : List Oper, Region.before l.toArray = l.foldl (fun acc o => acc.push (beforeF acc o)) #[] := fun l => by
    simp only [Region.before, List.foldl_toArray]
    rfl
  rw [e, e, Array.getD_eq_getD_getElem?]
  simp only [List.size_toArray, List.length_nil, Nat.zero_add] at this
  rw [this]
  rfl

theorem before_take {ops : List Oper} {j i : Nat} (hi : i < j) (hj : j ≤ ops.length) : (Region.before (ops.take j).toArray).getD i 0 = (Region.before ops.toArray).getD i 0 := by
  have hlt : i < ops.length := by omega
  have h1 : ops[i]? = some ops[i] := List.getElem?_eq_getElem hlt
  have h2 : (ops.take j)[i]? = some ops[i] := by rw [List.getElem?_take, if_pos hi]; exact h1
  rw [before_get h1, before_get h2, List.take_take, Nat.min_eq_left (by omega)]

theorem foldl_bits {acc : Array Nat} {i : Nat} : ∀ (l : List Edge) (s : Nat), (l.foldl (fun s e => if Region.binds .any e then s ||| 2 ^ e.on ||| acc.getD e.on 0 else s) s).testBit i = true →
    s.testBit i = true ∨ ∃ e ∈ l, Region.binds .any e = true ∧ (e.on = i ∨ (acc.getD e.on 0).testBit i = true)
  | [], s, h => .inl h
  | e :: l, s, h => by
    rcases foldl_bits l _ h with h | ⟨e', he, hb, hq⟩
    · dsimp only at h
      split at h
      · rename_i hb
        simp only [Nat.testBit_or, Bool.or_eq_true] at h
        rcases h with (h | h) | h
        · exact .inl h
        · rw [Nat.testBit_two_pow] at h
          exact .inr ⟨e, by simp, hb, .inl (by simpa using h)⟩
        · exact .inr ⟨e, by simp, hb, .inr h⟩
      · exact .inl h
    · exact .inr ⟨e', by simp [he], hb, hq⟩

theorem before_bits {ops : List Oper} {j i : Nat} {o : Oper} (ho : ops[j]? = some o) (hedge : ∀ e ∈ o.after.toList, Region.binds .any e = true → e.on < j) (h : ((Region.before ops.toArray).getD j 0).testBit i = true) :
    ∃ e ∈ o.after.toList, Region.binds .any e = true ∧ (e.on = i ∨ ((Region.before ops.toArray).getD e.on 0).testBit i = true) := by
  have hj : j ≤ ops.length := by have := (List.getElem?_eq_some_iff.1 ho).1; omega
  rw [before_get ho, beforeF, ← Array.foldl_toList] at h
  rcases foldl_bits _ _ h with h | ⟨e, he, hb, hq⟩
  · simp at h
  · refine ⟨e, he, hb, ?_⟩
    rwa [before_take (hedge e he hb) hj] at hq

/-! values and heaps, by what has been run -/

def dft : Option AV × AHeap := (none, [])

def dstOf (ops : List Oper) (i : Nat) : Option Tmp := (opsOf ops i).dst

def envK (dst : Nat → Option Tmp) (vals : Nat → Option AV) (S : Nat → Bool) (env : AEnv) : Nat → AEnv
  | 0 => env
  | k + 1 => if S k then eput (envK dst vals S env k) (dst k) (vals k) else envK dst vals S env k

def heapK (hs : Nat → AHeap) (mv : Nat → Bool) (S : Nat → Bool) (H : AHeap) : Nat → AHeap
  | 0 => H
  | k + 1 => if S k && mv k then hs k else heapK hs mv S H k

/-- may operation j stand where the last turn of the heap was number k - 1? -/
def possible (ops : List Oper) (b : Array Nat) (mv : List Bool) (k j : Nat) : Bool :=
  (List.range ops.length).all fun i => !mv.getD i false || ((!(b.getD j 0).testBit i || decide (i < k)) && (!(b.getD i 0).testBit j || decide (k ≤ i)))

def sameStep : Option (Option AV × AHeap) → Option AV → AHeap → Bool
  | some (some v, K), some u, H => AV.beq v u && heapEq K H
  | some (none, K), none, H => heapEq K H
  | _, _, _ => false

theorem sameStep_eq {r : Option (Option AV × AHeap)} {u : Option AV} {H : AHeap} (h : sameStep r u H = true) : r = some (u, H) := by
  unfold sameStep at h
  split at h
  · simp only [Bool.and_eq_true] at h; rw [AV.beq_eq h.1, heapEq_eq h.2]
  · rw [heapEq_eq h]
  · cases h

/-- does operation j tell the same wherever it may stand? -/
def still (c : Ctx) (call : Callee) (ops : List Oper) (env : AEnv) (H : AHeap) (t : List (Option AV × AHeap)) (j : Nat) : Bool :=
  !(moves ops H t).getD j false && (isP (opsOf ops j).op || (List.range (ops.length + 1)).all fun k =>
    !(k == 0 || (moves ops H t).getD (k - 1) false) || !possible ops (Region.before ops.toArray) (moves ops H t) k j ||
      sameStep (stepV c call ops (opsOf ops j) (envK (fun i => (ops.getD i default).dst) (fun i => (t.getD i dft).1) (fun _ => true) env j) (heapK (fun i => (t.getD i dft).2) (fun i => (moves ops H t).getD i false) (fun _ => true) H k))
        (t.getD j dft).1 (heapK (fun i => (t.getD i dft).2) (fun i => (moves ops H t).getD i false) (fun _ => true) H k))

def drawOk (c : Ctx) (call : Callee) (ops : List Oper) (env : AEnv) (H : AHeap) : Bool :=
  match trace c call ops ops env H with
  | none => false
  | some t => regOk ops (moves ops H t) (still c call ops env H t)

theorem still_spec {call : Callee} {ops : List Oper} {env : AEnv} {t : List (Option AV × AHeap)} {j : Nat} (h : still c call ops env H t j = true) :
    (moves ops H t).getD j false = false ∧ (isP (opsOf ops j).op = true ∨ ∀ k, k ≤ ops.length → (k = 0 ∨ (moves ops H t).getD (k - 1) false = true) → possible ops (Region.before ops.toArray) (moves ops H t) k j = true →
      stepV c call ops (opsOf ops j) (envK (fun i => (ops.getD i default).dst) (fun i => (t.getD i dft).1) (fun _ => true) env j) (heapK (fun i => (t.getD i dft).2) (fun i => (moves ops H t).getD i false) (fun _ => true) H k) =
        some ((t.getD j dft).1, heapK (fun i => (t.getD i dft).2) (fun i => (moves ops H t).getD i false) (fun _ => true) H k)) := by
  simp only [still, Bool.and_eq_true, Bool.or_eq_true, Bool.not_eq_true'] at h
  refine ⟨h.1, h.2.imp id fun h2 k hk hk0 hp => ?_⟩
  have := List.all_eq_true.1 h2 k (List.mem_range.2 (by omega))
  simp only [Bool.or_eq_true, Bool.not_eq_true', Bool.or_eq_false_iff] at this
  rcases this with (⟨h3, h4⟩ | h3) | h3
  · rcases hk0 with rfl | hk0
    · simp at h3
    · rw [hk0] at h4; cases h4
  · rw [hp] at h3; cases h3
  · exact sameStep_eq h3

/-- behind the last turn that is in the set -/
def lastK (S mv : Nat → Bool) : Nat → Nat
  | 0 => 0
  | k + 1 => if S k && mv k then k + 1 else lastK S mv k

theorem lastK_le {S mv : Nat → Bool} : ∀ m, lastK S mv m ≤ m
  | 0 => Nat.le_refl _
  | m + 1 => by
    simp only [lastK]
    split
    · exact Nat.le_refl _
    · exact Nat.le_succ_of_le (lastK_le m)

theorem lastK_in {S mv : Nat → Bool} : ∀ m, lastK S mv m = 0 ∨ ∃ i, lastK S mv m = i + 1 ∧ i < m ∧ S i = true ∧ mv i = true
  | 0 => .inl rfl
  | m + 1 => by
    simp only [lastK]
    split
    · rename_i h
      simp only [Bool.and_eq_true] at h
      exact .inr ⟨m, rfl, Nat.lt_succ_self _, h.1, h.2⟩
    · rcases lastK_in (S := S) (mv := mv) m with h | ⟨i, h1, h2, h3⟩
      · exact .inl h
      · exact .inr ⟨i, h1, by omega, h3⟩

theorem lastK_ge {S mv : Nat → Bool} {i : Nat} (hS : S i = true) (hm : mv i = true) : ∀ m, i < m → i < lastK S mv m
  | 0, h => by omega
  | m + 1, h => by
    simp only [lastK]
    split
    · omega
    · rename_i hq
      have : i ≠ m := fun e => by subst e; simp [hS, hm] at hq
      exact lastK_ge hS hm m (by omega)

theorem lastK_heap {hs : Nat → AHeap} {mv S : Nat → Bool} {H : AHeap} : ∀ m, heapK hs mv S H m = heapK hs mv (fun _ => true) H (lastK S mv m)
  | 0 => rfl
  | m + 1 => by
    simp only [lastK, heapK]
    split
    · rename_i h
      simp only [Bool.and_eq_true] at h
      simp [heapK, h.2]
    · exact lastK_heap m

theorem envK_size (dst : Nat → Option Tmp) (vals : Nat → Option AV) (S : Nat → Bool) (env : AEnv) : ∀ k, (envK dst vals S env k).size = env.size
  | 0 => rfl
  | k + 1 => by simp only [envK]; split <;> simp [eput_size, envK_size dst vals S env k]

/-- what a temporary holds hangs on those alone that write it -/
theorem envK_agree {dst : Nat → Option Tmp} {vals : Nat → Option AV} {S S' : Nat → Bool} {env : AEnv} {t : Tmp} : ∀ k, (∀ i, i < k → dst i = some t → S i = S' i) → eget (envK dst vals S env k) t = eget (envK dst vals S' env k) t
  | 0, _ => rfl
  | k + 1, h => by
    have ih := envK_agree (vals := vals) (env := env) k (fun i hi => h i (by omega))
    by_cases hd : dst k = some t
    · have hS := h k (by omega) hd
      simp only [envK, ← hS, hd]
      split
      · exact eput_eq (by rw [envK_size, envK_size])
      · exact ih
    · simp only [envK]
      have l1 : eget (if S k = true then eput (envK dst vals S env k) (dst k) (vals k) else envK dst vals S env k) t = eget (envK dst vals S env k) t := by
        split
        · exact eput_ne hd
        · rfl
      have l2 : eget (if S' k = true then eput (envK dst vals S' env k) (dst k) (vals k) else envK dst vals S' env k) t = eget (envK dst vals S' env k) t := by
        split
        · exact eput_ne hd
        · rfl
      rw [l1, l2, ih]

theorem heapK_agree {hs : Nat → AHeap} {mv : Nat → Bool} {S S' : Nat → Bool} {H : AHeap} : ∀ k, (∀ i, i < k → mv i = true → S i = S' i) → heapK hs mv S H k = heapK hs mv S' H k
  | 0, _ => rfl
  | k + 1, h => by
    have ih := heapK_agree (hs := hs) (H := H) k (fun i hi => h i (by omega))
    simp only [heapK]
    cases hm : mv k with
    | false => simp [ih]
    | true => rw [h k (by omega) hm, ih]

/-- what has been written last stays -/
theorem envK_last {dst : Nat → Option Tmp} {vals : Nat → Option AV} {S : Nat → Bool} {env : AEnv} {t : Tmp} {j : Nat} (hd : dst j = some t) (hS : S j = true) : ∀ k, j < k → (∀ i, j < i → i < k → dst i = some t → S i = false) →
    eget (envK dst vals S env k) t = eget (eput (envK dst vals S env j) (some t) (vals j)) t
  | 0, h, _ => by omega
  | k + 1, h, hn => by
    by_cases hk : k = j
    · subst hk; simp only [envK, hS, if_true, hd]
    · have ih := envK_last (vals := vals) (env := env) hd hS k (by omega) (fun i h1 h2 => hn i h1 (by omega))
      rw [← ih]
      simp only [envK]
      split
      · rename_i hSk
        refine eput_ne fun hdk => ?_
        rw [hn k (by omega) (by omega) hdk] at hSk; cases hSk
      · rfl

theorem heapK_last {hs : Nat → AHeap} {mv : Nat → Bool} {S : Nat → Bool} {H : AHeap} {j : Nat} (hm : mv j = true) (hS : S j = true) : ∀ k, j < k → (∀ i, j < i → i < k → mv i = true → S i = false) → heapK hs mv S H k = hs j
  | 0, h, _ => by omega
  | k + 1, h, hn => by
    simp only [heapK]
    by_cases hk : k = j
    · subst hk; simp [hS, hm]
    · rw [heapK_last hm hS k (by omega) (fun i h1 h2 => hn i h1 (by omega))]
      cases hmk : mv k with
      | false => simp
      | true => rw [hn k (by omega) (by omega) hmk]; simp

theorem envK_upto {dst : Nat → Option Tmp} {vals : Nat → Option AV} {env : AEnv} (j : Nat) : ∀ k, j ≤ k → envK dst vals (fun i => decide (i < j)) env k = envK dst vals (fun _ => true) env j
  | 0, h => by obtain rfl : j = 0 := by omega
               rfl
  | k + 1, h => by
    by_cases hj : j = k + 1
    · subst hj
      have gen : ∀ m, m ≤ k + 1 → envK dst vals (fun i => decide (i < k + 1)) env m = envK dst vals (fun _ => true) env m := by
        intro m hm
        induction m with
        | zero => rfl
        | succ m ih => simp only [envK]; rw [ih (by omega), if_pos (by simp; omega)]; simp
      exact gen (k + 1) (Nat.le_refl _)
    · rw [← envK_upto j k (by omega)]
      simp only [envK]
      rw [if_neg (by simp; omega)]

theorem heapK_upto {hs : Nat → AHeap} {mv : Nat → Bool} {H : AHeap} (j : Nat) : ∀ k, j ≤ k → heapK hs mv (fun i => decide (i < j)) H k = heapK hs mv (fun _ => true) H j
  | 0, h => by obtain rfl : j = 0 := by omega
               rfl
  | k + 1, h => by
    by_cases hj : j = k + 1
    · subst hj
      exact heapK_agree (k + 1) (fun i hi _ => by simp [hi])
    · rw [← heapK_upto j k (by omega)]
      simp only [heapK]
      have : decide (k < j) = false := by simp; omega
      simp [this]

theorem envK_shift {dst : Nat → Option Tmp} {vals : Nat → Option AV} {env : AEnv} : ∀ k, envK dst vals (fun _ => true) env (k + 1) = envK (fun i => dst (i + 1)) (fun i => vals (i + 1)) (fun _ => true) (eput env (dst 0) (vals 0)) k
  | 0 => by simp [envK]
  | k + 1 => by
    have ih := envK_shift (dst := dst) (vals := vals) (env := env) k
    rw [envK, ih]
    simp [envK]

theorem heapK_shift {hs : Nat → AHeap} {mv : Nat → Bool} {H : AHeap} : ∀ k, heapK hs mv (fun _ => true) H (k + 1) = heapK (fun i => hs (i + 1)) (fun i => mv (i + 1)) (fun _ => true) (if mv 0 then hs 0 else H) k
  | 0 => by simp [heapK]
  | k + 1 => by
    have ih := heapK_shift (hs := hs) (mv := mv) (H := H) k
    rw [heapK, ih]
    simp [heapK]

theorem trace_facts {call : Callee} {ops : List Oper} : ∀ {r : List Oper} {env : AEnv} {H : AHeap} {t : List (Option AV × AHeap)}, trace c call ops r env H = some t →
    (∀ m o, r[m]? = some o → stepV c call ops o (envK (fun i => (r.getD i default).dst) (fun i => (t.getD i dft).1) (fun _ => true) env m) (heapK (fun i => (t.getD i dft).2) (fun i => (moves r H t).getD i false) (fun _ => true) H m) = some (t.getD m dft)) ∧
    (∀ m, m < r.length → (moves r H t).getD m false = mvOf (r.getD m default).op (heapK (fun i => (t.getD i dft).2) (fun i => (moves r H t).getD i false) (fun _ => true) H m) (t.getD m dft).2) ∧
    asteps c call ops r env H = some (envK (fun i => (r.getD i default).dst) (fun i => (t.getD i dft).1) (fun _ => true) env r.length, heapK (fun i => (t.getD i dft).2) (fun i => (moves r H t).getD i false) (fun _ => true) H r.length)
  | [], env, H, t, e => by
    simp only [trace, Option.some.injEq] at e
    subst e
    exact ⟨fun m o h => by simp at h, fun m h => by simp at h, rfl⟩
  | o :: r, env, H, t, e => by
    simp only [trace, Option.bind_eq_some_iff, Option.some.injEq] at e
    obtain ⟨p, hp, t', ht, rfl⟩ := e
    obtain ⟨i1, i2, i3⟩ := trace_facts ht
    have hH : (if mvOf o.op H p.2 = true then p.2 else H) = p.2 := by
      cases hq : mvOf o.op H p.2 with
      | true => rfl
      | false => exact (mvOf_same hq hp).symm
    have g0 : (moves (o :: r) H (p :: t')).getD 0 false = mvOf o.op H p.2 := rfl
    have hm : ∀ i, (moves (o :: r) H (p :: t')).getD (i + 1) false = (moves r p.2 t').getD i false := fun i => rfl
    have henv : ∀ m, envK (fun i => ((o :: r).getD i default).dst) (fun i => ((p :: t').getD i dft).1) (fun _ => true) env (m + 1) = envK (fun i => (r.getD i default).dst) (fun i => (t'.getD i dft).1) (fun _ => true) (eput env o.dst p.1) m := fun m => by
      rw [envK_shift]; rfl
    have hheap : ∀ m, heapK (fun i => ((p :: t').getD i dft).2) (fun i => (moves (o :: r) H (p :: t')).getD i false) (fun _ => true) H (m + 1) = heapK (fun i => (t'.getD i dft).2) (fun i => (moves r p.2 t').getD i false) (fun _ => true) p.2 m := fun m => by
      rw [heapK_shift]
      have : (if (moves (o :: r) H (p :: t')).getD 0 false = true then ((p :: t').getD 0 dft).2 else H) = p.2 := hH
      rw [this]; rfl
    refine ⟨fun m q hq => ?_, fun m hlt => ?_, ?_⟩
    · cases m with
      | zero => simp at hq; subst hq; exact hp
      | succ m => rw [henv, hheap]; exact i1 m q (by simpa using hq)
    · cases m with
      | zero => exact g0
      | succ m => rw [hheap, hm]; exact i2 m (by simpa using hlt)
    · rw [List.length_cons, henv, hheap]
      simp only [asteps, astep_stepV, hp, Option.map_some, Option.bind_some]
      exact i3

/-! every order -/

def setOf (listed : Array Bool) (i : Nat) : Bool := listed.getD i false

theorem aval_reads {ops : List Oper} {o : Oper} {env env' : AEnv} (h : ∀ t ∈ o.looksAt ops.toArray, eget env t = eget env' t) : ∀ x ∈ o.op.operands, aval env x = aval env' x := by
  intro x hx
  cases x with
  | tmp t =>
    simp only [aval]
    rw [h t (by
      simp only [Oper.looksAt, List.mem_append, List.mem_filterMap]
      exact .inl ⟨.tmp t, by simpa using hx, rfl⟩)]
  | _ => rfl

theorem awanted_reads {ops : List Oper} {o : Oper} {env env' : AEnv} (h : ∀ t ∈ o.looksAt ops.toArray, eget env t = eget env' t) : awanted ops env o = awanted ops env' o := by
  unfold awanted
  cases hg : o.guard with
  | none => rfl
  | some g =>
    obtain ⟨j, want⟩ := g
    simp only []
    have : ayield ops env j = ayield ops env' j := by
      unfold ayield
      cases hd : (ops[j]?).bind (·.dst) with
      | none => rfl
      | some t =>
        simp only []
        rw [h t (by
          simp only [Oper.looksAt, List.mem_append]
          refine .inr ?_
          rw [hg]
          simp only [List.getElem?_toArray]
          rw [hd]; simp)]
    rw [this]

theorem opsOf_get {ops : List Oper} {j : Nat} (h : j < ops.length) : ops[j]? = some (opsOf ops j) := by
  simp [opsOf, h]

/-- how many are still to come -/
def toCome (S : Nat → Bool) : Nat → Nat
  | 0 => 0
  | k + 1 => toCome S k + if S k then 0 else 1

theorem toCome_zero {S : Nat → Bool} : ∀ {n : Nat}, toCome S n = 0 → ∀ i, i < n → S i = true
  | 0, _, i, h => by omega
  | n + 1, h, i, hi => by
    simp only [toCome] at h
    by_cases hin : i = n
    · subst hin
      cases hS : S i with
      | true => rfl
      | false => rw [hS] at h; simp at h
    · exact toCome_zero (n := n) (by omega) i (by omega)

theorem toCome_step {S S' : Nat → Bool} {j : Nat} (hj : S j = false) (hj' : S' j = true) (h : ∀ i, i ≠ j → S i = S' i) : ∀ {n : Nat}, j < n → toCome S n = toCome S' n + 1
  | 0, hn => by omega
  | n + 1, hn => by
    simp only [toCome]
    by_cases hjn : j = n
    · subst hjn
      have : ∀ m, m ≤ j → toCome S m = toCome S' m := by
        intro m hm
        induction m with
        | zero => rfl
        | succ m ih => simp only [toCome]; rw [ih (by omega), h m (by omega)]
      rw [this j (Nat.le_refl _), hj, hj']; rfl
    · have := toCome_step hj hj' h (show j < n by omega)
      rw [this, h n (by omega)]; omega

theorem mem_ready {ops : List Oper} {listed : Array Bool} {i : Nat} (hl : listed.size = ops.length) : i ∈ Region.ready .any ops.toArray listed ↔ i < ops.length ∧ setOf listed i = false ∧ ∀ e ∈ (opsOf ops i).after.toList, Region.binds .any e = true → setOf listed e.on = true := by
  simp only [Region.ready, List.mem_filter, List.mem_range, List.size_toArray]
  constructor
  · rintro ⟨hi, h⟩
    simp only [Bool.and_eq_true, Bool.not_eq_true'] at h
    obtain ⟨h1, h2⟩ := h
    refine ⟨hi, ?_, fun e he hb => ?_⟩
    · have : i < listed.size := by omega
      simp only [setOf, Array.getD_eq_getD_getElem?, Array.getElem?_eq_getElem this] at h1 ⊢
      exact h1
    · rw [List.getElem?_toArray, opsOf_get hi] at h2
      simp only [Option.map_some, Option.getD_some, Array.all_eq_true'] at h2
      have := h2 e (by simpa using he)
      simp only [Bool.or_eq_true, Bool.not_eq_true'] at this
      rcases this with h | h
      · rw [hb] at h; cases h
      · exact h
  · rintro ⟨hi, h1, h2⟩
    refine ⟨hi, ?_⟩
    simp only [Bool.and_eq_true, Bool.not_eq_true']
    constructor
    · have : i < listed.size := by omega
      simp only [setOf, Array.getD_eq_getD_getElem?, Array.getElem?_eq_getElem this] at h1 ⊢
      exact h1
    · rw [List.getElem?_toArray, opsOf_get hi]
      simp only [Option.map_some, Option.getD_some, Array.all_eq_true']
      intro e he
      cases hb : Region.binds .any e with
      | false => rfl
      | true =>
        have := h2 e (by simpa using he) hb
        simp only [setOf] at this
        simp [this]

theorem order_sound (hm : c.P.follows .mixedOrders = true) (call : Callee) (hc : CallOK c base w0 call) (id : Nat) (opsA : Array Oper) (env env' : AEnv) (H H' : AHeap) (hok : drawOk c call opsA.toList env H = true) (hst : asteps c call opsA.toList opsA.toList env H = some (env', H'))
    (ρ : Pl) (w : World) (a : Act) (h : Rel c base w0 ρ H w) (hf : Fresh ρ H) (he : EnvR ρ env a.tmps) : (Code.region id opsA true).wp c.P (Behind c base w0 ρ H w a .normal env' H') a w := by
  obtain ⟨ops⟩ := opsA
  simp only [drawOk] at hok
  split at hok
  · cases hok
  · rename_i t ht
    obtain ⟨f1, f2, f3⟩ := trace_facts ht
    rw [hst] at f3
    simp only [Option.some.injEq, Prod.mk.injEq] at f3
    obtain ⟨rfl, rfl⟩ := f3
    have hsp : ∀ j, still c call ops env H t j = true → _ := fun j => still_spec (c := c) (H := H) (call := call) (ops := ops) (env := env) (t := t) (j := j)
    generalize hstl : still c call ops env H t = stl at *
    -- words
    generalize hdst : (fun i => (ops.getD i default).dst) = dst at *
    generalize hvals : (fun i => (t.getD i dft).1) = vals at *
    generalize hhs : (fun i => (t.getD i dft).2) = hs at *
    generalize hmv : (fun i => (moves ops H t).getD i false) = mv at *
    have hdst' : ∀ i, dst i = (opsOf ops i).dst := fun i => by rw [← hdst]; rfl
    have hvals' : ∀ i, (t.getD i dft).1 = vals i := fun i => by rw [← hvals]
    have hhs' : ∀ i, (t.getD i dft).2 = hs i := fun i => by rw [← hhs]
    have hmv' : ∀ i, (moves ops H t).getD i false = mv i := fun i => by rw [← hmv]
    obtain ⟨hedge, hpair⟩ := regOk_pair hok
    have hedge' : ∀ j, j < ops.length → ∀ e ∈ (opsOf ops j).after.toList, Region.binds .any e = true → e.on < j := by
      intro j hj e hej hb
      have := List.all_eq_true.1 (List.all_eq_true.1 hedge j (List.mem_range.2 hj)) e hej
      rw [hb] at this
      simpa using this
    have hpair' : ∀ i j, i < j → j < ops.length → pairOk ops (Region.before ops.toArray) (moves ops H t) stl i j = true := by
      exact hpair
    generalize hbf : Region.before ops.toArray = bf at *
    -- the heart: what holds when some have been run
    have main : ∀ (fuel : Nat) (listed : Array Bool) (ρ' : Pl) (a' : Act) (w' : World), listed.size = ops.length → toCome (setOf listed) ops.length = fuel →
        (∀ j, j < ops.length → setOf listed j = true → ∀ i, (bf.getD j 0).testBit i = true → setOf listed i = true) → a'.defers = a.defers →
        Post c base w0 ρ H w ρ' (heapK hs mv (setOf listed) H ops.length) w' → EnvR ρ' (envK dst vals (setOf listed) env ops.length) a'.tmps →
        wpAny c.P .any ops.toArray (Behind c base w0 ρ H w a .normal (envK dst vals (fun _ => true) env ops.length) (heapK hs mv (fun _ => true) H ops.length)) fuel listed a' w' := by
      intro fuel
      induction fuel with
      | zero =>
        intro listed ρ' a' w' hls hcount hclosed hdf hpost henv
        have hall := toCome_zero hcount
        have hE : EnvEq (envK dst vals (setOf listed) env ops.length) (envK dst vals (fun _ => true) env ops.length) :=
          ⟨by rw [envK_size, envK_size], fun t => envK_agree _ (fun i hi _ => hall i hi)⟩
        have hHH : heapK hs mv (setOf listed) H ops.length = heapK hs mv (fun _ => true) H ops.length := heapK_agree _ (fun i hi _ => hall i hi)
        refine ⟨?_, rfl, hdf, ρ', hHH ▸ hpost, henv.congr hE⟩
        rw [List.eq_nil_iff_forall_not_mem]
        intro i hi
        obtain ⟨hi1, hi2, _⟩ := (mem_ready hls).1 hi
        rw [hall i hi1] at hi2; cases hi2
      | succ fuel ih =>
        intro listed ρ' a' w' hls hcount hclosed hdf hpost henv
        refine ⟨fun hnil => ?_, fun j hj => ?_⟩
        · -- none is ready, and not all are through: that cannot be
          exfalso
          have hall : ∀ k, k ≤ ops.length → ∀ i, i < k → setOf listed i = true := by
            intro k
            induction k with
            | zero => intro _ i hi; omega
            | succ k ihk =>
              intro hk i hi
              by_cases hik : i = k
              · subst hik
                cases hS : setOf listed i with
                | true => rfl
                | false =>
                  have : i ∈ Region.ready .any ops.toArray listed := (mem_ready hls).2 ⟨by omega, hS, fun e hej hb => ihk (by omega) _ (hedge' i (by omega) e hej hb)⟩
                  rw [hnil] at this; cases this
              · exact ihk (by omega) i (by omega)
          have hz : toCome (setOf listed) ops.length = 0 := by
            have : ∀ m, m ≤ ops.length → toCome (setOf listed) m = 0 := by
              intro m hm'
              induction m with
              | zero => rfl
              | succ m ihm => simp only [toCome]; rw [ihm (by omega), hall _ (Nat.le_refl _) m (by omega)]; rfl
            exact this _ (Nat.le_refl _)
          omega
        · obtain ⟨hjn, hSj, hready⟩ := (mem_ready hls).1 hj
          have hoj := opsOf_get hjn
          -- those that must be ahead of j are through
          have hpre : ∀ i, (bf.getD j 0).testBit i = true → setOf listed i = true := by
            intro i hi
            rw [← hbf] at hi
            obtain ⟨e, hej, hb, hq⟩ := before_bits hoj (hedge' j hjn) hi
            rcases hq with rfl | hq
            · exact hready e hej hb
            · rw [hbf] at hq
              exact hclosed e.on (by have := hedge' j hjn e hej hb; omega) (hready e hej hb) i hq
          -- whoever is ordered against j stands as in the text
          have hord : ∀ i, i < ops.length → i ≠ j → (if i < j then (bf.getD j 0).testBit i else (bf.getD i 0).testBit j) = true → setOf listed i = decide (i < j) := by
            intro i hi hij hb
            by_cases hlt : i < j
            · rw [if_pos hlt] at hb
              rw [hpre i hb]; simp [hlt]
            · rw [if_neg hlt] at hb
              cases hS : setOf listed i with
              | false => simp; omega
              | true =>
                have := hclosed i hi hS j hb
                rw [hSj] at this; cases this
          have hpr : ∀ i, i < ops.length → i ≠ j → setOf listed i = decide (i < j) ∨ (Oper.apart ops.toArray (opsOf ops (min i j)) (opsOf ops (max i j)) = true ∧ (mv i = false ∨ stl j = true) ∧ (mv j = false ∨ stl i = true)) := by
            intro i hi hij
            by_cases hlt : i < j
            · have hp := hpair' i j hlt hjn
              simp only [pairOk, Bool.or_eq_true, Bool.and_eq_true, Bool.not_eq_true', hmv'] at hp
              rcases hp with hp | ⟨⟨hp1, hp2⟩, hp3⟩
              · exact .inl (hord i hi hij (by rw [if_pos hlt]; exact hp))
              · exact .inr ⟨by rw [Nat.min_eq_left (by omega), Nat.max_eq_right (by omega)]; exact hp1, hp2, hp3⟩
            · have hp := hpair' j i (by omega) hi
              simp only [pairOk, Bool.or_eq_true, Bool.and_eq_true, Bool.not_eq_true', hmv'] at hp
              rcases hp with hp | ⟨⟨hp1, hp2⟩, hp3⟩
              · exact .inl (hord i hi hij (by rw [if_neg hlt]; exact hp))
              · exact .inr ⟨by rw [Nat.min_eq_right (by omega), Nat.max_eq_left (by omega)]; exact hp1, hp3, hp2⟩
          -- what j reads is as in the text
          have hreads : ∀ t ∈ (opsOf ops j).looksAt ops.toArray, eget (envK dst vals (setOf listed) env ops.length) t = eget (envK dst vals (fun _ => true) env j) t := by
            intro t ht'
            rw [← envK_upto j ops.length (by omega)]
            refine envK_agree _ (fun i hi hd => ?_)
            by_cases hij : i = j
            · subst hij; rw [hSj]; simp
            · rcases hpr i hi hij with hp | ⟨hap, _⟩
              · exact hp
              · exfalso
                rw [hdst'] at hd
                by_cases hlt : i < j
                · rw [Nat.min_eq_left (by omega), Nat.max_eq_right (by omega)] at hap
                  exact (Oper.apart_spec hap).1 t hd ht'
                · rw [Nat.min_eq_right (by omega), Nat.max_eq_left (by omega)] at hap
                  exact (Oper.apart_spec hap).2.2 t hd ht'
          have hstep := f1 j (opsOf ops j) hoj
          -- the operation at the heap that stands now
          have hval : stepV c call ops (opsOf ops j) (envK dst vals (fun _ => true) env j) (heapK hs mv (fun _ => true) H j) = some (vals j, hs j) := by
            rw [hstep, ← hvals', ← hhs']
          have hmj : mv j = mvOf (opsOf ops j).op (heapK hs mv (fun _ => true) H j) (hs j) := by rw [← hmv', ← hhs']; exact f2 j hjn
          have hw : awanted ops (envK dst vals (setOf listed) env ops.length) (opsOf ops j) = awanted ops (envK dst vals (fun _ => true) env j) (opsOf ops j) := awanted_reads hreads
          have hop : ∀ K, aop c (envK dst vals (setOf listed) env ops.length) (opsOf ops j).op K = aop c (envK dst vals (fun _ => true) env j) (opsOf ops j).op K := fun K => aop_congr (aval_reads hreads) K
          generalize hS' : (fun i => if i = j then true else setOf listed i) = S' at *
          have hS'j : S' j = true := by rw [← hS']; simp
          have hS'n : ∀ i, i ≠ j → S' i = setOf listed i := fun i hi => by rw [← hS']; simp [hi]
          have hstay : mv j = false → heapK hs mv S' H ops.length = heapK hs mv (setOf listed) H ops.length := by
            intro hmj
            refine heapK_agree _ (fun i hi hmi => hS'n i fun hij => ?_)
            subst hij; rw [hmj] at hmi; cases hmi
          have hgo : ∃ Hn, stepV c call ops (opsOf ops j) (envK dst vals (setOf listed) env ops.length) (heapK hs mv (setOf listed) H ops.length) = some (vals j, Hn) ∧ Hn = heapK hs mv S' H ops.length := by
            have hval0 := hval
            simp only [stepV, Option.bind_eq_some_iff] at hval
            obtain ⟨b, hb, hval⟩ := hval
            cases b with
            | false =>
              simp only [Bool.false_eq_true, if_false, Option.some.injEq, Prod.mk.injEq] at hval
              have hm0 : mv j = false := by rw [hmj, ← hval.2]; exact mvOf_self _ _
              refine ⟨_, ?_, (hstay hm0).symm⟩
              simp only [stepV, hw, hb, Option.bind_some, Bool.false_eq_true, if_false, hval.1]
            | true =>
              by_cases hpj : isP (opsOf ops j).op = true
              · -- it does not look at the heap
                simp only [if_true, Option.bind_eq_some_iff] at hval
                obtain ⟨⟨r, H1⟩, hr, hval⟩ := hval
                obtain ⟨⟨rfl, v, rfl⟩, hK⟩ := isP_still hpj hr (heapK hs mv (setOf listed) H ops.length)
                simp only [Option.some.injEq, Prod.mk.injEq] at hval
                have hm0 : mv j = false := by rw [hmj, ← hval.2]; exact mvOf_self _ _
                refine ⟨_, ?_, (hstay hm0).symm⟩
                simp only [stepV, hw, hb, Option.bind_some, if_true, hop, hK, hval.1]
              by_cases hsj : stl j = true
              · -- it tells the same wherever it stands
                obtain ⟨hm0, hq⟩ := hsp j hsj
                rw [hmv'] at hm0
                have hq := hq.resolve_left hpj
                have hk := hq (lastK (setOf listed) mv ops.length) (lastK_le _) ?_ ?_
                · refine ⟨_, ?_, (hstay hm0).symm⟩
                  rw [lastK_heap (S := setOf listed)]
                  rw [← hvals' j, ← hk]
                  simp only [stepV, hw, hop]
                · rcases lastK_in (S := setOf listed) (mv := mv) ops.length with h0 | ⟨i, h0, _, _, hmi⟩
                  · exact .inl h0
                  · rw [h0]; exact .inr (by rw [hmv']; exact hmi)
                · simp only [possible, List.all_eq_true, List.mem_range, Bool.or_eq_true, Bool.and_eq_true, Bool.not_eq_true', decide_eq_true_eq, hmv', hbf]
                  intro i hi
                  cases hmi : mv i with
                  | false => exact .inl rfl
                  | true =>
                    refine .inr ⟨?_, ?_⟩
                    · cases hb1 : (bf.getD j 0).testBit i with
                      | false => exact .inl rfl
                      | true => exact .inr (lastK_ge (hpre i hb1) hmi _ hi)
                    · cases hb1 : (bf.getD i 0).testBit j with
                      | false => exact .inl rfl
                      | true =>
                        refine .inr ?_
                        have hSi : setOf listed i = false := by
                          cases hS : setOf listed i with
                          | false => rfl
                          | true => rw [hclosed i hi hS j hb1] at hSj; cases hSj
                        rcases lastK_in (S := setOf listed) (mv := mv) ops.length with h0 | ⟨m, h0, hmn, hSm, hmm⟩
                        · omega
                        · rw [h0]
                          rcases Nat.lt_trichotomy m i with hlt | rfl | hlt
                          · exact hlt
                          · rw [hSm] at hSi; cases hSi
                          · exfalso
                            have hp := hpair' i m hlt hmn
                            simp only [pairOk, Bool.or_eq_true, Bool.and_eq_true, Bool.not_eq_true', hmv'] at hp
                            rcases hp with hp | ⟨⟨_, hp2⟩, _⟩
                            · rw [hclosed m hmn hSm i hp] at hSi; cases hSi
                            · rcases hp2 with hp2 | hp2
                              · rw [hmi] at hp2; cases hp2
                              · have := (hsp m hp2).1
                                rw [hmv', hmm] at this; cases this
              · -- it stands at the text's heap
                have hsj' : stl j = false := by simpa using hsj
                have hmoved : ∀ i, i < ops.length → i ≠ j → mv i = true → setOf listed i = decide (i < j) := by
                  intro i hi hij hmi
                  rcases hpr i hi hij with hp | ⟨_, hp, _⟩
                  · exact hp
                  · rcases hp with hp | hp
                    · rw [hmi] at hp; cases hp
                    · rw [hsj'] at hp; cases hp
                have hHS : heapK hs mv (setOf listed) H ops.length = heapK hs mv (fun _ => true) H j := by
                  rw [← heapK_upto j ops.length (by omega)]
                  refine heapK_agree _ (fun i hi hmi => ?_)
                  by_cases hij : i = j
                  · subst hij; rw [hSj]; simp
                  · exact hmoved i hi hij hmi
                refine ⟨hs j, ?_, ?_⟩
                · rw [hHS]
                  simp only [stepV, hw, hop]
                  exact hval0
                · cases hmq : mv j with
                  | true =>
                    refine (heapK_last hmq hS'j ops.length hjn (fun i h1 h2 hmi => ?_)).symm
                    rw [hS'n i (by omega), hmoved i h2 (by omega) hmi]
                    simp; omega
                  | false =>
                    rw [hstay hmq, hHS]
                    rw [hmq] at hmj
                    exact mvOf_same hmj.symm hval0
          obtain ⟨Hn, hgo, rfl⟩ := hgo
          have hast : astep c call ops (opsOf ops j) (envK dst vals (setOf listed) env ops.length) (heapK hs mv (setOf listed) H ops.length) = some (eput (envK dst vals (setOf listed) env ops.length) (dst j) (vals j), heapK hs mv S' H ops.length) := by
            rw [astep_stepV, hgo, hdst']; rfl
          have hset : setOf (listed.setIfInBounds j true) = S' := by
            funext i
            simp only [setOf, Array.getD_eq_getD_getElem?, Array.getElem?_setIfInBounds]
            by_cases hij : j = i
            · subst hij
              rw [if_pos rfl, if_pos (by omega), hS'j]; rfl
            · rw [if_neg hij, hS'n i (Ne.symm hij)]
              simp [setOf, Array.getD_eq_getD_getElem?]
          have henv' : EnvEq (eput (envK dst vals (setOf listed) env ops.length) (dst j) (vals j)) (envK dst vals S' env ops.length) := by
            refine ⟨by rw [eput_size, envK_size, envK_size], fun t => ?_⟩
            by_cases hdt : dst j = some t
            · have := envK_last (vals := vals) (env := env) hdt hS'j ops.length hjn (fun i h1 h2 hd => by
                rw [hS'n i (by omega)]
                rcases hpr i h2 (by omega) with hp | ⟨hap, _⟩
                · rw [hp]; simp; omega
                · exfalso
                  rw [Nat.min_eq_right (by omega), Nat.max_eq_left (by omega)] at hap
                  rw [hdst'] at hd hdt
                  exact (Oper.apart_spec hap).2.1 t hdt hd)
              rw [this, hdt]
              exact eput_eq (by rw [envK_size, envK_size])
            · rw [eput_ne hdt]
              refine envK_agree _ (fun i hi hd => ?_)
              exact (hS'n i (fun hij => hdt (by rw [← hij]; exact hd))).symm
          refine step_sound hc hpost.rel (hpost.fresh hf) henv hoj hast ?_
          rintro a2 w2 ⟨hd2, ρ2, hp2, he2⟩
          refine ih (listed.setIfInBounds j true) ρ2 a2 w2 (by simpa using hls) ?_ ?_ (hd2.trans hdf) ?_ ?_
          · rw [hset]
            have := toCome_step hSj hS'j (fun i hi => (hS'n i hi).symm) hjn
            omega
          · rw [hset]
            intro k hk hSk i hi
            by_cases hij : i = j
            · rw [hij]; exact hS'j
            · rw [hS'n i hij]
              by_cases hkj : k = j
              · subst hkj; exact hpre i hi
              · exact hclosed k hk (by rw [← hS'n k hkj]; exact hSk) i hi
          · rw [hset]; exact hpost.trans hp2
          · rw [hset]; exact he2.congr henv'
    refine wp_region_any hm ?_
    have hS0 : ∀ i, setOf (Array.replicate ops.length false) i = false := fun i => by
      simp only [setOf, Array.getD_eq_getD_getElem?, Array.getElem?_replicate]
      split <;> rfl
    have hE0 : ∀ k, envK dst vals (setOf (Array.replicate ops.length false)) env k = env := by
      intro k
      induction k with
      | zero => rfl
      | succ k ihk => simp only [envK, hS0]; simpa using ihk
    have hH0 : ∀ k, heapK hs mv (setOf (Array.replicate ops.length false)) H k = H := by
      intro k
      induction k with
      | zero => rfl
      | succ k ihk => simp only [heapK, hS0]; simpa using ihk
    have hT0 : ∀ k, toCome (setOf (Array.replicate ops.length false)) k = k := by
      intro k
      induction k with
      | zero => rfl
      | succ k ihk => simp only [toCome, hS0]; simp [ihk]
    refine main ops.length (Array.replicate ops.length false) ρ a _ (by simp) (hT0 _) (fun j _ hj => by rw [hS0] at hj; cases hj) rfl ?_ ?_
    · rw [hH0]; exact post_drew h
    · rw [hE0]; exact he

/-! what a call has left behind it that nobody knows is forgotten -/

mutual
theorem VR.det {ρ : Pl} : ∀ {v : AV} {x y : Value}, VR ρ v x → VR ρ v y → x = y
  | .bool _, _, _, e, f => e.trans f.symm
  | .int _ _, _, _, e, f => e.trans f.symm
  | .str _, _, _, e, f => e.trans f.symm
  | .nilptr, _, _, e, f => e.trans f.symm
  | .ptr _ _, _, _, ⟨p, e, hx⟩, ⟨q, f, hy⟩ => by rw [e] at f; cases f; rw [hx, hy]
  | .nilslice, _, _, e, f => e.trans f.symm
  | .slice _ _ _ _, _, _, ⟨p, e, _, hx⟩, ⟨q, f, _, hy⟩ => by rw [e] at f; cases f; rw [hx, hy]
  | .odd _, _, _, e, f => e.trans f.symm
  | .nilmap, _, _, e, f => e.trans f.symm
  | .map _, _, _, ⟨p, e, hx⟩, ⟨q, f, hy⟩ => by rw [e] at f; cases f; rw [hx, hy]
  | .nilfunc, _, _, e, f => e.trans f.symm
  | .func _ _ _, _, _, ⟨xs, ys, e, f, hx⟩, ⟨xs', ys', e', f', hy⟩ => by rw [hx, hy, VRs.det e e', VRs.det f f']
  | .niliface, _, _, e, f => e.trans f.symm
  | .iface _ _, _, _, ⟨y, e, hx⟩, ⟨y', e', hx'⟩ => by rw [hx, hx', VR.det e e']
  | .agg _, _, _, ⟨xs, e, hx⟩, ⟨xs', e', hx'⟩ => by rw [hx, hx', VRs.det e e']
  | .tuple _, _, _, ⟨xs, e, hx⟩, ⟨xs', e', hx'⟩ => by rw [hx, hx', VRs.det e e']
theorem VRs.det {ρ : Pl} : ∀ {v : List AV} {x y : List Value}, VRs ρ v x → VRs ρ v y → x = y
  | [], _, _, e, f => e.trans f.symm
  | _ :: _, _, _, ⟨y, ys, hx, e, f⟩, ⟨y', ys', hx', e', f'⟩ => by rw [hx, hx', VR.det e e', VRs.det f f']
end

def Loc.low (n : Nat) : Loc → Bool
  | .own i => decide (i < n)
  | .ext _ => true

mutual
def AV.low (n : Nat) : AV → Bool
  | .ptr l _ => l.low n
  | .slice l _ _ _ => l.low n
  | .map l => l.low n
  | .func _ a b => AV.lows n a && AV.lows n b
  | .iface _ v => AV.low n v
  | .agg l => AV.lows n l
  | .tuple l => AV.lows n l
  | _ => true
def AV.lows (n : Nat) : List AV → Bool
  | [] => true
  | v :: r => AV.low n v && AV.lows n r
end

mutual
theorem VR.restrict {ρ ρ' : Pl} {n : Nat} (hb : ∀ l p, ρ' l = some p → l.low n = true → ρ l = some p) : ∀ {v : AV} {x : Value}, v.low n = true → VR ρ' v x → VR ρ v x
  | .bool _, _, _, e => e
  | .int _ _, _, _, e => e
  | .str _, _, _, e => e
  | .nilptr, _, _, e => e
  | .ptr _ _, _, hl, ⟨p, e, hx⟩ => ⟨p, hb _ _ e (by simpa [AV.low] using hl), hx⟩
  | .nilslice, _, _, e => e
  | .slice _ _ _ _, _, hl, ⟨p, e, hx⟩ => ⟨p, hb _ _ e (by simpa [AV.low] using hl), hx⟩
  | .odd _, _, _, e => e
  | .nilmap, _, _, e => e
  | .map _, _, hl, ⟨p, e, hx⟩ => ⟨p, hb _ _ e (by simpa [AV.low] using hl), hx⟩
  | .nilfunc, _, _, e => e
  | .func _ a b, _, hl, ⟨xs, ys, e, f, hx⟩ => by
    have hl : AV.lows n a = true ∧ AV.lows n b = true := by simpa [AV.low] using hl
    exact ⟨xs, ys, VRs.restrict hb hl.1 e, VRs.restrict hb hl.2 f, hx⟩
  | .niliface, _, _, e => e
  | .iface _ v, _, hl, ⟨y, e, hx⟩ => ⟨y, VR.restrict hb (by simpa [AV.low] using hl) e, hx⟩
  | .agg l, _, hl, ⟨xs, e, hx⟩ => ⟨xs, VRs.restrict hb (by simpa [AV.low] using hl) e, hx⟩
  | .tuple l, _, hl, ⟨xs, e, hx⟩ => ⟨xs, VRs.restrict hb (by simpa [AV.low] using hl) e, hx⟩
theorem VRs.restrict {ρ ρ' : Pl} {n : Nat} (hb : ∀ l p, ρ' l = some p → l.low n = true → ρ l = some p) : ∀ {v : List AV} {x : List Value}, AV.lows n v = true → VRs ρ' v x → VRs ρ v x
  | [], _, _, e => e
  | v :: r, _, hl, ⟨y, ys, hx, e, f⟩ => by
    have hl : AV.low n v = true ∧ AV.lows n r = true := by simpa [AV.lows] using hl
    exact ⟨y, ys, hx, VR.restrict hb hl.1 e, VRs.restrict hb hl.2 f⟩
end

theorem VR.back {ρ ρ' : Pl} (h : Ext ρ ρ') {v : AV} {x y : Value} (a : VR ρ v x) (b : VR ρ' v y) : VR ρ v y := by
  have := VR.det (a.mono h) b
  exact this ▸ a

theorem EntR.back {ρ ρ' : Pl} (h : Ext ρ ρ') {es : List (AV × AV × Nat)} {xs : List MapEntry} (a : EntR ρ es xs) : ∀ {ys : List MapEntry}, EntR ρ' es ys → EntR ρ es ys := by
  induction a with
  | nil => intro ys b; cases b; exact .nil
  | cons hk hv _ ih => intro ys b; cases b with | cons hk' hv' hr => exact .cons (hk.back h hk') (hv.back h hv') (ih hr)

theorem ObjR.back {ρ ρ' : Pl} (h : Ext ρ ρ') {p : Place} {hp hp' : Array Obj} {o : AObj} (a : ObjR ρ p hp o) (b : ObjR ρ' p hp' o) : ObjR ρ p hp' o := by
  cases o with
  | row ty esz cells =>
    obtain ⟨_, _, _, _, a4⟩ := a
    obtain ⟨cs, h1, h2, h3, h4⟩ := b
    refine ⟨cs, h1, h2, h3, fun j v hj => ?_⟩
    obtain ⟨x, hx, hv, ho⟩ := h4 j v hj
    obtain ⟨y, _, hy, _⟩ := a4 j v hj
    exact ⟨x, hx, hy.back h hv, ho⟩
  | empty c0 => exact b
  | map es clock => obtain ⟨_, _, a2⟩ := a; obtain ⟨ents, h1, h2⟩ := b; exact ⟨ents, h1, a2.back h h2⟩
  | siter s pos => exact b
  | miter => exact b.elim

theorem Post.shrink {w w' : World} {ρ ρ' : Pl} {H H' : AHeap} (h : Rel c base w0 ρ H w) (hp : Post c base w0 ρ H w ρ' H' w') (heq : H'.take H.length = H) : Post c base w0 ρ H w ρ H w' := by
  have hh : ∀ {i : Nat} {o : AObj}, hat H i = some o → hat H' i = some o := by
    intro i o e
    have hi := hat_lt e
    rw [← e]
    unfold hat
    conv => rhs; rw [← heq]
    rw [List.getElem?_take, if_pos hi]
  refine ⟨⟨hp.rel.below, hp.rel.size, ?_, ?_, ?_, h.glob⟩, Ext.refl _, fun l p e => .inl e, Nat.le_refl _, hp.size, hp.frame, fun i o p e s r => .inr ⟨i, o, p, e, s, r, rfl⟩⟩
  · intro i o e
    obtain ⟨p, hr, ho, hb⟩ := h.own i o e
    obtain ⟨p', hr', ho', _⟩ := hp.rel.own i o (hh e)
    rw [hp.ext _ _ hr] at hr'; cases hr'
    exact ⟨p, hr, ho.back hp.ext ho', hb⟩
  · intro i j o o' p q e e' s s' r r' hpq
    exact hp.rel.inj i j o o' p q (hh e) (hh e') s s' (hp.ext _ _ r) (hp.ext _ _ r') hpq
  · intro path cells e
    obtain ⟨p, hr, hb, ho⟩ := h.ext path cells e
    obtain ⟨p', hr', _, ho'⟩ := hp.rel.ext path cells e
    rw [hp.ext _ _ hr] at hr'; cases hr'
    refine ⟨p, hr, hb, fun j v hj => ?_⟩
    obtain ⟨x, hx, hv, hone⟩ := ho' j v hj
    obtain ⟨y, _, hy, _⟩ := ho j v hj
    exact ⟨x, hx, hy.back hp.ext hv, hone⟩

/-- A call that has turned nothing that lay, and tells nothing of what it has made, has made nothing. -/
def gcCall (call : Callee) : Callee := fun f args H => (call f args H).map fun p => if Nat.blt H.length p.2.length && (AV.low H.length p.1 && heapEq (p.2.take H.length) H) then (p.1, H) else p

theorem gc_sound {call : Callee} (hc : CallOK c base w0 call) : CallOK c base w0 (gcCall call) := by
  intro f args H v H' e ρ w xs h hf hx
  simp only [gcCall, Option.map_eq_some_iff] at e
  obtain ⟨⟨u, K⟩, hu, e⟩ := e
  refine (hc f args H u K hu ρ w xs h hf hx).mono ?_
  rintro e' w' ⟨ρ', x, rfl, hv, hp⟩
  split at e
  · rename_i hq
    cases e
    simp only [Bool.and_eq_true] at hq
    refine ⟨ρ, x, rfl, VR.restrict (fun l p hl hlow => ?_) hq.2.1 hv, hp.shrink h (heapEq_eq hq.2.2)⟩
    rcases hp.new l p hl with hl | ⟨i, rfl, hi, _⟩
    · exact hl
    · simp [Loc.low] at hlow; omega
  · cases e
    exact ⟨ρ', x, rfl, hv, hp⟩

/-- what the text's order ends in -/
def endOf : List Oper → List (Option AV × AHeap) → AEnv → AHeap → AEnv × AHeap
  | o :: r, p :: t, env, _ => endOf r t (eput env o.dst p.1) p.2
  | _, _, env, H => (env, H)

theorem endOf_steps {call : Callee} {ops : List Oper} : ∀ {r : List Oper} {env : AEnv} {H : AHeap} {t : List (Option AV × AHeap)}, trace c call ops r env H = some t → asteps c call ops r env H = some (endOf r t env H)
  | [], env, H, t, e => by simp only [trace, Option.some.injEq] at e; subst e; rfl
  | o :: r, env, H, t, e => by
    simp only [trace, Option.bind_eq_some_iff, Option.some.injEq] at e
    obtain ⟨p, hp, t', ht, rfl⟩ := e
    simp only [asteps, astep_stepV, hp, Option.map_some, Option.bind_some, endOf]
    exact endOf_steps ht

/-- what a region that draws its order does -/
def drawRun : DrawOk := fun c call ops env H => (trace c call ops ops env H).bind fun t => if regOk ops (moves ops H t) (still c call ops env H t) then some (endOf ops t env H) else none

theorem draw_sound (hm : c.P.follows .mixedOrders = true) (call : Callee) (hc : CallOK c base w0 call) : DrawOKs c base w0 drawRun call := by
  intro id ops env env' H H' e ρ w a h hf he
  simp only [drawRun, Option.bind_eq_some_iff] at e
  obtain ⟨t, ht, e⟩ := e
  split at e
  · rename_i hok
    refine order_sound hm call hc id ops env env' H H' ?_ ?_ ρ w a h hf he
    · simp only [drawOk, ht]; exact hok
    · rw [endOf_steps ht]; exact e
  · cases e

end Go.AM
