/-
  THE OPERATIONS, second part (own work): arithmetic, texts, tests, conversions, keys and entries of maps, lengths, assertions.
-/
import Derived.Test.YtecfofmndpgnjaaAmOps1
import Derived.Laws.StructEq
import Derived.Laws.Strings
import Derived.WalkLawsBesides
namespace Go.AM
open Go.RowKit
set_option linter.unusedSimpArgs false

variable {c : Ctx} {base : Nat} {w0 w : World} {ρ : Pl} {H : AHeap}

theorem baTo (l : List UInt8) : (⟨l.toArray⟩ : ByteArray).toList = l := by
  rw [show (⟨l.toArray⟩ : ByteArray).toList = (⟨l.toArray⟩ : ByteArray).data.toList from by simp]

theorem aint_sound {op : BinOp} {k : IntKind} {a b : Int} {v : AV} (e : aint op k a b = some v) (t : TypeId) (w : World) : ∃ u, (binOp op t (.int k a) (.int k b)).run c.P w = .ok u w ∧ VR ρ v u := by
  cases op <;> simp only [aint, acmp] at e
  case add => cases e; exact ⟨_, by simp [binOp, Op.intArith], rfl⟩
  case sub => cases e; exact ⟨_, by simp [binOp, Op.intArith], rfl⟩
  case mul => cases e; exact ⟨_, by simp [binOp, Op.intArith], rfl⟩
  case quo => split at e <;> cases e; rename_i h; exact ⟨_, by simp [binOp, Op.intDiv, h], rfl⟩
  case rem => split at e <;> cases e; rename_i h; exact ⟨_, by simp [binOp, Op.intDiv, h], rfl⟩
  case and => cases e; exact ⟨_, by simp [binOp, Op.intBits], rfl⟩
  case or => cases e; exact ⟨_, by simp [binOp, Op.intBits], rfl⟩
  case xor => cases e; exact ⟨_, by simp [binOp, Op.intBits], rfl⟩
  case andNot => cases e; exact ⟨_, by simp [binOp, Op.intBits], rfl⟩
  case shl => cases e
  case shr => cases e
  all_goals (cases e; exact ⟨_, by simp [binOp, Op.intCmp], rfl⟩)

theorem ashift_sound {op : BinOp} {k k' : IntKind} {a b : Int} {v : AV} (e : ashift op k a b = some v) (t : TypeId) (w : World) : ∃ u, (binOp op t (.int k a) (.int k' b)).run c.P w = .ok u w ∧ VR ρ v u := by
  unfold ashift at e
  split at e
  · cases e
  · rename_i hb
    split at e
    · cases e; exact ⟨_, by simp [binOp, Op.shift, hb], rfl⟩
    · cases e; exact ⟨_, by simp [binOp, Op.shift, hb], rfl⟩
    · cases e

theorem astr_sound {op : BinOp} {a b : List UInt8} {v : AV} (e : astr op a b = some v) (t : TypeId) (w : World) : ∃ u, (binOp op t (.string ⟨a.toArray⟩) (.string ⟨b.toArray⟩)).run c.P w = .ok u w ∧ VR ρ v u := by
  cases op <;> simp only [astr] at e
  case add =>
    split at e
    · rename_i h
      cases e
      refine ⟨.string ⟨(a ++ b).toArray⟩, ?_, rfl⟩
      have hs : (⟨a.toArray⟩ : ByteArray).size = a.length := by simp [ByteArray.size]
      have hs' : (⟨b.toArray⟩ : ByteArray).size = b.length := by simp [ByteArray.size]
      have hm : IntKind.i64.max = 9223372036854775807 := by decide
      have hn : ¬ ((((⟨a.toArray⟩ : ByteArray).size + (⟨b.toArray⟩ : ByteArray).size : Nat) : Int) > IntKind.i64.max) := by rw [hs, hs', hm]; omega
      have ha : (⟨a.toArray⟩ : ByteArray) ++ ⟨b.toArray⟩ = ⟨(a ++ b).toArray⟩ := by
        apply ByteArray.ext
        simp [ByteArray.data_append]
      simp only [binOp, Op.stringOp, if_neg hn, ha]
      rfl
    · cases e
  case eql => cases e; exact ⟨.bool (a == b), by simp [binOp, Op.stringOp, baTo], rfl⟩
  case neq => cases e; exact ⟨.bool (!(a == b)), by simp [binOp, Op.stringOp, baTo], rfl⟩
  case lss => cases e; exact ⟨.bool (Op.bytesLess a b), by simp [binOp, Op.stringOp, baTo], rfl⟩
  case leq => cases e; exact ⟨.bool (Op.bytesLess a b || a == b), by simp [binOp, Op.stringOp, baTo], rfl⟩
  case gtr => cases e; exact ⟨.bool (!(Op.bytesLess a b || a == b)), by simp [binOp, Op.stringOp, baTo], rfl⟩
  case geq => cases e; exact ⟨.bool (!(Op.bytesLess a b)), by simp [binOp, Op.stringOp, baTo], rfl⟩
  all_goals cases e

theorem equalIn_run {t : TypeId} {d : TypeDesc} (hd : c.P.underlying t = some d) {x y : AV} {b : Bool} (e : aeq d x y = some b) {x' y' : Value} (hx : VR ρ x x') (hy : VR ρ y y') (w : World) (n : Nat) :
    (Op.equalIn (n + 1) t x' y').run c.P w = .ok b w := by
  unfold aeq at e
  split at e <;> (try cases e) <;> (split at e <;> cases e) <;> (simp only [VR] at hx hy) <;>
    (first | subst hx | obtain ⟨_, _, rfl⟩ := hx | obtain ⟨_, _, _, rfl⟩ := hx | obtain ⟨_, _, _, _, rfl⟩ := hx) <;>
    (first | subst hy | obtain ⟨_, _, rfl⟩ := hy | obtain ⟨_, _, _, rfl⟩ := hy | obtain ⟨_, _, _, _, rfl⟩ := hy) <;>
    simp [Op.equalIn, run_underlying hd]

theorem equal_run {t : TypeId} {d : TypeDesc} (hd : c.P.underlying t = some d) {x y : AV} {b : Bool} (e : aeq d x y = some b) {x' y' : Value} (hx : VR ρ x x') (hy : VR ρ y y') (w : World) :
    (Op.equal t x' y').run c.P w = .ok b w := equalIn_run hd e hx hy w 9999

/-- 'eqGuard' lets pass what 'aeq' tells. -/
theorem guard_run {t : TypeId} {d : TypeDesc} {x y : AV} {b : Bool} (e : aeq d x y = some b) {x' y' : Value} (hx : VR ρ x x') (hy : VR ρ y y') (op : BinOp) (p q : Operand) (w : World) :
    (eqGuard op t p q x' y').run c.P w = .ok () w := by
  unfold aeq at e
  split at e <;> (try cases e) <;> (split at e <;> cases e) <;> (simp only [VR] at hx hy) <;>
    (first | subst hx | obtain ⟨_, _, rfl⟩ := hx | obtain ⟨_, _, _, rfl⟩ := hx | obtain ⟨_, _, _, _, rfl⟩ := hx) <;>
    (first | subst hy | obtain ⟨_, _, rfl⟩ := hy | obtain ⟨_, _, _, rfl⟩ := hy | obtain ⟨_, _, _, _, rfl⟩ := hy) <;>
    (cases op <;> simp [eqGuard])

theorem aeqF_sound {eq : TypeId → AV → AV → Option Bool} {d : Nat} {w : World} (hq : ∀ {t : TypeId} {x y : AV} {b : Bool} {x' y' : Value}, eq t x y = some b → VR ρ x x' → VR ρ y y' → (Op.equalIn d t x' y').run c.P w = .ok b w)
    {xs ys : List AV} {us vs : List Value} (hx : VRs ρ xs us) (hy : VRs ρ ys vs) : ∀ {fs : List Field} {b : Bool}, aeqF eq c xs ys fs = some b → (Op.eqFields d us.toArray vs.toArray fs).run c.P w = .ok b w
  | [], b, e => by simp only [aeqF, Option.some.injEq] at e; subst e; simp [Op.eqFields]
  | f :: fs, b, e => by
    simp only [aeqF] at e
    split at e
    · cases e
    · rename_i hn
      simp only [Option.bind_eq_some_iff] at e
      obtain ⟨a1, h1, a2, h2, r, h3, e⟩ := e
      obtain ⟨u1, hu1, hv1⟩ := apart_sound h1 hx w
      obtain ⟨u2, hu2, hv2⟩ := apart_sound h2 hy w
      have h4 := hq h3 hv1 hv2
      simp only [Op.eqFields, if_pos hn, Sem.run_bind, hu1, hu2, h4, Result.andThen_ok]
      cases r with
      | true => simpa using aeqF_sound hq hx hy (by simpa using e)
      | false => simp at e; subst e; simp

theorem aeqT_sound (w : World) : ∀ (n : Nat) {d : Nat}, n ≤ d → ∀ {t : TypeId} {x y : AV} {b : Bool} {x' y' : Value}, aeqT c n t x y = some b → VR ρ x x' → VR ρ y y' → (Op.equalIn d t x' y').run c.P w = .ok b w
  | 0, d, _, t, x, y, b, x', y', e, _, _ => by simp [aeqT] at e
  | n + 1, 0, h, _, _, _, _, _, _, _, _, _ => by omega
  | n + 1, d + 1, h, t, x, y, b, x', y', e, hx, hy => by
    simp only [aeqT, Option.bind_eq_some_iff] at e
    obtain ⟨u, hu, e⟩ := e
    split at e
    · split at e
      · split at e
        · rename_i hk; subst hk; cases e; simp only [VR] at hx hy; subst hx hy; exact run_equalIn_int w d t _ _ _ _ hu
        · cases e
      · cases e
    · split at e
      · cases e; simp only [VR] at hx hy; subst hx hy
        rename_i a b'
        rw [run_equalIn_string w d t _ _ hu]
        simp [ByteArray.toList_eq]
      · cases e
    · split at e
      · rename_i xs ys fs
        split at e
        · cases e
        · rename_i hs
          obtain ⟨us, hus, rfl⟩ := hx
          obtain ⟨vs, hvs, rfl⟩ := hy
          have hf : c.P.fieldsOf t = fs := by simp [Program.fieldsOf, hu]
          rw [run_equalIn_struct w d t us.toArray vs.toArray (by rw [hf]; exact hu) (by simpa using hs), hf]
          exact aeqF_sound (fun e hx hy => aeqT_sound w n (by omega) e hx hy) hus hvs e
      · cases e
    · exact equalIn_run hu e hx hy w d

theorem bin_sound {op : BinOp} {t : TypeId} {x y v : AV} (e : abin c op t x y = some v) {x' y' : Value} (hx : VR ρ x x') (hy : VR ρ y y') (p q : Operand) (w : World) :
    ∃ u, ((do eqGuard op t p q x' y'; binOp op t x' y' : Sem Value)).run c.P w = .ok u w ∧ VR ρ v u := by
  unfold abin at e
  split at e
  · rename_i k a k' b
    simp only [VR] at hx hy; subst hx hy
    have hg : ∀ op, (eqGuard op t p q (.int k a) (.int k' b)).run c.P w = .ok () w := fun op => by cases op <;> simp [eqGuard]
    split at e
    · obtain ⟨u, hu, hv⟩ := ashift_sound (c := c) (ρ := ρ) (k' := k') e t w
      exact ⟨u, by simp [hg, hu], hv⟩
    · obtain ⟨u, hu, hv⟩ := ashift_sound (c := c) (ρ := ρ) (k' := k') e t w
      exact ⟨u, by simp [hg, hu], hv⟩
    · split at e
      · rename_i hk; subst hk
        obtain ⟨u, hu, hv⟩ := aint_sound (c := c) (ρ := ρ) e t w
        exact ⟨u, by simp [hg, hu], hv⟩
      · cases e
  · rename_i a b
    simp only [VR] at hx hy; subst hx hy
    obtain ⟨u, hu, hv⟩ := astr_sound (c := c) (ρ := ρ) e t w
    have hg : (eqGuard op t p q (.string ⟨a.toArray⟩) (.string ⟨b.toArray⟩)).run c.P w = .ok () w := by cases op <;> simp [eqGuard]
    exact ⟨u, by simp [hg, hu], hv⟩
  · rename_i xs ys
    split at e
    · cases e
    · rename_i hg
      have hg' : c.P.eqGuardType c.P.depth t = false := by simpa using hg
      obtain ⟨us, hus, rfl⟩ := hx
      obtain ⟨vs, hvs, rfl⟩ := hy
      split at e
      · simp only [Option.map_eq_some_iff] at e
        obtain ⟨b, hb, rfl⟩ := e
        have hq := aeqT_sound (ρ := ρ) w 9 (d := 10000) (by omega) hb ⟨us, hus, rfl⟩ ⟨vs, hvs, rfl⟩
        exact ⟨.bool b, by rw [Sem.run_bind, run_eqGuard_agg w _ t p q _ _ hg', Result.andThen_ok, run_eql_struct, hq]; rfl, rfl⟩
      · simp only [Option.map_eq_some_iff] at e
        obtain ⟨b, hb, rfl⟩ := e
        have hq := aeqT_sound (ρ := ρ) w 9 (d := 10000) (by omega) hb ⟨us, hus, rfl⟩ ⟨vs, hvs, rfl⟩
        exact ⟨.bool (!b), by rw [Sem.run_bind, run_eqGuard_agg w _ t p q _ _ hg', Result.andThen_ok, run_neq_struct, hq]; rfl, rfl⟩
      · cases e
  · simp only [Option.bind_eq_some_iff] at e
    obtain ⟨d, hd, e⟩ := e
    split at e
    · simp only [Option.map_eq_some_iff] at e
      obtain ⟨b, hb, rfl⟩ := e
      refine ⟨.bool b, ?_, rfl⟩
      have hq := equal_run hd hb hx hy w
      have hb' : binOp .eql t x' y' = (do pure (.bool (← Op.equal t x' y'))) := by
        unfold aeq at hb
        split at hb <;> (try cases hb) <;> (simp only [VR] at hx hy) <;>
          (first | subst hx | obtain ⟨_, _, rfl⟩ := hx | obtain ⟨_, _, _, rfl⟩ := hx | obtain ⟨_, _, _, _, rfl⟩ := hx) <;>
          (first | subst hy | obtain ⟨_, _, rfl⟩ := hy | obtain ⟨_, _, _, rfl⟩ := hy | obtain ⟨_, _, _, _, rfl⟩ := hy) <;> rfl
      rw [Sem.run_bind, guard_run hb hx hy .eql p q w, Result.andThen_ok, hb', Sem.run_bind, hq]
      rfl
    · simp only [Option.map_eq_some_iff] at e
      obtain ⟨b, hb, rfl⟩ := e
      refine ⟨.bool (!b), ?_, rfl⟩
      have hq := equal_run hd hb hx hy w
      have hb' : binOp .neq t x' y' = (do pure (.bool (!(← Op.equal t x' y')))) := by
        unfold aeq at hb
        split at hb <;> (try cases hb) <;> (simp only [VR] at hx hy) <;>
          (first | subst hx | obtain ⟨_, _, rfl⟩ := hx | obtain ⟨_, _, _, rfl⟩ := hx | obtain ⟨_, _, _, _, rfl⟩ := hx) <;>
          (first | subst hy | obtain ⟨_, _, rfl⟩ := hy | obtain ⟨_, _, _, rfl⟩ := hy | obtain ⟨_, _, _, _, rfl⟩ := hy) <;> rfl
      rw [Sem.run_bind, guard_run hb hx hy .neq p q w, Result.andThen_ok, hb', Sem.run_bind, hq]
      rfl
    · cases e

theorem un_sound {op : UnOp} {x v : AV} (e : aun op x = some v) {x' : Value} (hx : VR ρ x x') (w : World) : ∃ u, (Op.unary op x').run c.P w = .ok u w ∧ VR ρ v u := by
  unfold aun at e
  split at e
  · cases e; simp only [VR] at hx; subst hx; exact ⟨_, by simp [Op.unary, Op.intArith], rfl⟩
  · cases e; simp only [VR] at hx; subst hx; exact ⟨_, by simp [Op.unary], rfl⟩
  · simp only [aint] at e
    cases e; simp only [VR] at hx; subst hx; exact ⟨_, by simp [Op.unary, Op.intBits], rfl⟩
  · cases e

theorem conv_sound {src dst : TypeId} {x v : AV} (e : aconv c src dst x = some v) {x' : Value} (hx : VR ρ x x') (w : World) : ∃ u, (convert src dst x').run c.P w = .ok u w ∧ VR ρ v u := by
  simp only [aconv, Option.bind_eq_some_iff] at e
  obtain ⟨s, hs, d, hd, e⟩ := e
  split at e
  · cases e; simp only [VR] at hx; subst hx
    exact ⟨_, by simp [convert, run_underlying hs, run_underlying hd, Conv.intToInt], rfl⟩
  · cases e; simp only [VR] at hx; subst hx
    exact ⟨_, by simp [convert, run_underlying hs, run_underlying hd], rfl⟩
  · cases e

theorem zeroAV_run {t : TypeId} {v : AV} (e : zeroAV c.P t = some v) (w : World) : ∃ z, (zeroValue t).run c.P w = .ok z w ∧ VR ρ v z := by
  simp only [zeroAV, Option.bind_eq_some_iff] at e
  obtain ⟨i, hi, z, hz, e⟩ := e
  exact ⟨z, by simp [zeroValue, typeInfo, hi, hz], constAV_sound e⟩

theorem zeroCells_run {t : TypeId} {vs : List AV} (e : zeroCells c.P t = some vs) (w : World) : ∃ z, (zeroValue t).run c.P w = .ok z w ∧ VRs ρ vs z.cells.toList := by
  simp only [zeroCells, Option.bind_eq_some_iff] at e
  obtain ⟨i, hi, z, hz, e⟩ := e
  exact ⟨z, by simp [zeroValue, typeInfo, hi, hz], mapO_scAV e⟩

theorem extract_sound {l : List AV} {i : Nat} {v : AV} (e : l[i]? = some v) {x' : Value} (hx : VR ρ (.tuple l) x') (w : World) : ∃ u, (Instr.extract x' i).run c.P w = .ok u w ∧ VR ρ v u := by
  obtain ⟨xs, hxs, rfl⟩ := hx
  obtain ⟨y, hy, hv⟩ := hxs.get e
  exact ⟨y, by simp [Instr.extract, hy], hv⟩

/-! maps: keys -/

theorem keyEq_now {d : TypeDesc} {k k' : AV} {b : Bool} (e : keyEq d k k' = some b) {x x' : Value} (hx : VR ρ k x) (hy : VR ρ k' x') : Instr.sameNow d x x' = some b := by
  unfold keyEq at e
  split at e <;> (try cases e) <;> (simp only [VR] at hx hy) <;> subst hx hy <;> (split at e <;> (try cases e))
  · split at e
    · rename_i h; cases e; simp [Instr.sameNow, h]
    · cases e
  · simp only [Instr.sameNow, Option.some.injEq]
    rw [Bool.eq_iff_iff, beq_toListBytes, beq_iff_eq, beq_iff_eq, baTo, baTo]
  · simp [Instr.sameNow]

/-- what a search in the entries tells -/
def FR (ρ : Pl) : Option (Nat × AV) → Option (Nat × Value) → Prop
  | none, none => True
  | some (j, v), some (j', y) => j = j' ∧ VR ρ v y
  | _, _ => False

theorem findKey_now {d : TypeDesc} {k : AV} {x : Value} (hx : VR ρ k x) {es : List (AV × AV × Nat)} {xs : List MapEntry} (hr : EntR ρ es xs) : ∀ {i : Nat} {r : Option (Nat × AV)}, findKey d k es i = some r →
    ∃ r', Instr.findNow d x xs i = some r' ∧ FR ρ r r' := by
  induction hr with
  | nil => intro i r e; simp [findKey] at e; subst e; exact ⟨none, rfl, trivial⟩
  | @cons k' v n es x' y xs hk hv _ ih =>
    intro i r e
    simp only [findKey, Option.bind_eq_some_iff] at e
    obtain ⟨b, hb, e⟩ := e
    have hn := keyEq_now hb hx hk
    cases b with
    | true => simp at e; subst e; exact ⟨some (i, y), by simp [Instr.findNow, hn], rfl, hv⟩
    | false =>
      obtain ⟨r', h1, h2⟩ := ih (by simpa using e)
      exact ⟨r', by simp [Instr.findNow, hn, h1], h2⟩

theorem findKey_run {kt : TypeId} {d : TypeDesc} (hd : c.P.underlying kt = some d) {k : AV} {x : Value} (hx : VR ρ k x) {es : List (AV × AV × Nat)} {xs : List MapEntry} (hr : EntR ρ es xs) {r : Option (Nat × AV)} (e : findKey d k es 0 = some r) (w : World) :
    ∃ r', (Instr.findKey kt x xs).run c.P w = .ok r' w ∧ FR ρ r r' := by
  obtain ⟨r', h1, h2⟩ := findKey_now hx hr e
  exact ⟨r', by simp [Instr.findKey, run_underlying hd, h1], h2⟩

theorem checkKey_run {kt : TypeId} {d : TypeDesc} (hd : c.P.underlying kt = some d) {k : AV} (hk : keyOk d k = true) {x : Value} (hx : VR ρ k x) (b : Bool) (w : World) : (Instr.checkKey b 10000 kt x).run c.P w = .ok () w := by
  have gen : ∀ n, (Instr.checkKey b (n + 1) kt x).run c.P w = .ok () w := by
    intro n
    unfold keyOk at hk
    split at hk <;> (try cases hk) <;> (simp only [VR] at hx) <;> subst hx <;> (split at hk <;> (try cases hk)) <;> simp [Instr.checkKey, run_underlying hd]
  exact gen 9999

/-- the entries of a map as the model has them -/
theorem entries_sound (h : Rel c base w0 ρ H w) {m : AV} {es : List (AV × AV × Nat)} (e : entries H m = some es) {x : Value} (hx : VR ρ m x) :
    (x = .map none ∧ es = []) ∨ ∃ (b : Nat) (ents : Array MapEntry) (clock : Nat), x = .map (some b) ∧ w.heap[b]? = some (.map ents clock) ∧ EntR ρ es ents.toList := by
  unfold entries at e
  split at e
  · cases e; exact .inl ⟨hx, rfl⟩
  · rename_i i
    split at e
    · rename_i es' clock ho
      cases e
      obtain ⟨q, hq, ⟨ents, h1, h2⟩, _⟩ := h.own i _ ho
      obtain ⟨p, hp, rfl⟩ := hx
      obtain rfl : p = q := by rw [hp] at hq; exact Option.some.inj hq
      exact .inr ⟨p.b, ents, clock, rfl, h1, h2⟩
    · cases e
  · cases e

theorem lookup_sound (h : Rel c base w0 ρ H w) {t : TypeId} {m k v : AV} {ok : Bool} (e : alookup c H t m k ok = some v) {x y : Value} (hx : VR ρ m x) (hy : VR ρ k y) :
    ∃ u, (Instr.lookup t x y ok).run c.P w = .ok u w ∧ VR ρ v u := by
  simp only [alookup, Option.bind_eq_some_iff] at e
  obtain ⟨d, hd, e⟩ := e
  split at e
  · rename_i kt vt
    simp only [Option.bind_eq_some_iff] at e
    obtain ⟨kd, hkd, e⟩ := e
    split at e
    · rename_i hko
      simp only [Option.bind_eq_some_iff] at e
      obtain ⟨es, hes, r, hr, e⟩ := e
      have main : ∀ (xs : Array MapEntry), EntR ρ es xs.toList → ∃ u, ((do
            Instr.checkKey xs.isEmpty 10000 kt y
            let (v, ok') ← match ← Instr.findKey kt y xs.toList with
              | some (_, v) => pure (v, true)
              | none => pure (← zeroValue vt, false)
            pure (if ok then .tuple #[v, .bool ok'] else v) : Sem Value)).run c.P w = .ok u w ∧ VR ρ v u := by
        intro xs hxs
        obtain ⟨r', h1, h2⟩ := findKey_run hkd hy hxs hr w
        split at e
        · rename_i j v0
          cases e
          cases r' with
          | none => exact h2.elim
          | some q =>
            obtain ⟨j', z⟩ := q
            obtain ⟨_, hv⟩ := h2
            cases ok with
            | true => exact ⟨.tuple #[z, .bool true], by simp [checkKey_run hkd hko hy, h1], [z, .bool true], ⟨z, [.bool true], rfl, hv, .bool true, [], rfl, rfl, rfl⟩, rfl⟩
            | false => exact ⟨z, by simp [checkKey_run hkd hko hy, h1], hv⟩
        · simp only [Option.map_eq_some_iff] at e
          obtain ⟨z, hz, rfl⟩ := e
          obtain ⟨zz, hzz, hv⟩ := zeroAV_run (c := c) (ρ := ρ) hz w
          cases r' with
          | some q => exact h2.elim
          | none =>
            cases ok with
            | true => exact ⟨.tuple #[zz, .bool false], by simp [checkKey_run hkd hko hy, h1, hzz], [zz, .bool false], ⟨zz, [.bool false], rfl, hv, .bool false, [], rfl, rfl, rfl⟩, rfl⟩
            | false => exact ⟨zz, by simp [checkKey_run hkd hko hy, h1, hzz], hv⟩
      rcases entries_sound h hes hx with ⟨rfl, rfl⟩ | ⟨b, ents, clock, rfl, hb, hE⟩
      · obtain ⟨u, hu, hv⟩ := main #[] .nil
        refine ⟨u, ?_, hv⟩
        rw [← hu]
        simp [Instr.lookup, run_underlying hd]
        rfl
      · obtain ⟨u, hu, hv⟩ := main ents hE
        refine ⟨u, ?_, hv⟩
        rw [← hu]
        have hg : (getObj b).run c.P w = .ok (.map ents clock) w := by simp [getObj, Sem.run, hb]
        simp [Instr.lookup, run_underlying hd, hg]
        rfl
    · cases e
  · cases e

theorem len_sound (h : Rel c base w0 ρ H w) {t ty : TypeId} {x v : AV} (e : alen c H t x = some v) {y : Value} (hy : VR ρ x y) (ts : Array TypeId) (hts : ts[0]? = some t) :
    ∃ u, (Builtin.len_ ts ty #[y]).run c.P w = .ok u w ∧ VR ρ v u := by
  simp only [alen, Option.bind_eq_some_iff] at e
  obtain ⟨d, hd, e⟩ := e
  have h0 : (#[y] : Array Value)[0]? = some y := rfl
  split at e
  · rename_i s
    cases e; simp only [VR] at hy; subst hy
    exact ⟨goInt (⟨s.toArray⟩ : ByteArray).size, by simp [Builtin.len_, hts, run_underlying hd], by simp [VR, goInt, ByteArray.size]⟩
  · cases e; simp only [VR] at hy; subst hy
    exact ⟨goInt 0, by simp [Builtin.len_, hts, run_underlying hd], by simp [VR, goInt]⟩
  · rename_i n
    cases e; obtain ⟨p, hp, _, rfl⟩ := hy
    exact ⟨goInt n, by simp [Builtin.len_, hts, run_underlying hd], by simp [VR, goInt]⟩
  · cases e; simp only [VR] at hy; subst hy
    exact ⟨goInt 0, by simp [Builtin.len_, hts, run_underlying hd], by simp [VR, goInt]⟩
  · rename_i n _
    cases e
    exact ⟨goInt n, by simp [Builtin.len_, hts, run_underlying hd], by simp [VR, goInt]⟩
  · rename_i kt vt
    simp only [Option.map_eq_some_iff] at e
    obtain ⟨es, hes, rfl⟩ := e
    rcases entries_sound h hes hy with ⟨rfl, rfl⟩ | ⟨b, ents, clock, rfl, hb, hE⟩
    · exact ⟨goInt 0, by simp [Builtin.len_, hts, run_underlying hd], by simp [VR, goInt]⟩
    · have hg : (getObj b).run c.P w = .ok (.map ents clock) w := by simp [getObj, Sem.run, hb]
      exact ⟨goInt ents.size, by simp [Builtin.len_, hts, run_underlying hd, hg], by simp [VR, goInt, ← hE.length]⟩
  · cases e

end Go.AM
