/-
  WORDS FOR WALKS WITH ARGUMENTS (own work): steps of code one behind another, the heap behind a change, slices as lists, maps of whole numbers as functions.
-/
import Derived.Test.YtecfofmndpgnjaaAmSym
namespace Go.AM
open Go.RowKit
set_option linter.unusedSimpArgs false
set_option linter.unusedVariables false

variable {κ : Kn} {T : FuncId → Spec} {env : AEnv} {H : AHeap} {K : AExit → AEnv → AHeap → Prop} {c : Ctx}

/-! ### steps -/

def Ks (κ : Kn) (b : Code) (K : AExit → AEnv → AHeap → Prop) : AExit → AEnv → AHeap → Prop := fun e env H => match e with
  | .normal => D κ b env H K
  | e => K e env H
def Kb (id : Nat) (K : AExit → AEnv → AHeap → Prop) : AExit → AEnv → AHeap → Prop := fun e env H => match e with
  | .exit j => if j = id then K .normal env H else K (.exit j) env H
  | e => K e env H
def Kl (I : Nat → AEnv → AHeap → Prop) (m : Nat) (K : AExit → AEnv → AHeap → Prop) : AExit → AEnv → AHeap → Prop := fun e env H => match e with
  | .normal => ∃ m', m' < m ∧ I m' env H
  | e => K e env H
def resOf (c : Ctx) (rs : List ResultVar) (env : AEnv) (H : AHeap) : Option AV := (mapO (aresult c env H) rs).map fun vs => match vs with | [v] => v | vs => .tuple vs
def Kf (c : Ctx) (rs : List ResultVar) (Q : AV → AHeap → Prop) : AExit → AEnv → AHeap → Prop := fun e env H => match e with
  | .exit _ => False
  | _ => ∃ v, resOf c rs env H = some v ∧ Q v H
theorem Kf_r {rs : List ResultVar} {Q : AV → AHeap → Prop} : Kf c rs Q .ret env H = ∃ v, resOf c rs env H = some v ∧ Q v H := rfl
theorem Kf_n {rs : List ResultVar} {Q : AV → AHeap → Prop} : Kf c rs Q .normal env H = ∃ v, resOf c rs env H = some v ∧ Q v H := rfl

theorem Ks_n {b : Code} : Ks κ b K .normal env H = D κ b env H K := rfl
theorem Ks_e {b : Code} {i : Nat} : Ks κ b K (.exit i) env H = K (.exit i) env H := rfl
theorem Ks_r {b : Code} : Ks κ b K .ret env H = K .ret env H := rfl
theorem Kb_n {i : Nat} : Kb i K .normal env H = K .normal env H := rfl
theorem Kb_e {i : Nat} : Kb i K (.exit i) env H = K .normal env H := by simp [Kb]
theorem Kb_ne {i j : Nat} (h : j ≠ i) : Kb i K (.exit j) env H = K (.exit j) env H := by simp [Kb, h]
theorem Kb_r {i : Nat} : Kb i K .ret env H = K .ret env H := rfl
theorem Kl_n {I : Nat → AEnv → AHeap → Prop} {m : Nat} : Kl I m K .normal env H = ∃ m', m' < m ∧ I m' env H := rfl
theorem Kl_e {I : Nat → AEnv → AHeap → Prop} {m i : Nat} : Kl I m K (.exit i) env H = K (.exit i) env H := rfl
theorem Kl_r {I : Nat → AEnv → AHeap → Prop} {m : Nat} : Kl I m K .ret env H = K .ret env H := rfl

theorem D.sq {a b : Code} (h : D κ a env H (Ks κ b K)) : D κ (.seq a b) env H K := D.seq h
theorem D.bl {id : Nat} {b : Code} (h : D κ b env H (Kb id K)) : D κ (.block id b) env H K := D.block h
theorem D.lp {body : Code} (I : Nat → AEnv → AHeap → Prop) (m : Nat) (hI : I m env H) (hb : ∀ m env H, I m env H → D κ body env H (Kl I m K)) : D κ (.loop body) env H K := D.loop I hb m env H hI
theorem Pt.fn {f : FuncId} {args : List AV} {fn : Func} {b : Code} {n : Nat} {rs : List ResultVar} {Q : AV → AHeap → Prop} (hf : κ.c.P.funcs[f]? = some fn) (hb : fn.body = some b) (hr : fn.results.toList = rs) (hn : args.length + (fn.ntmps - args.length) = n) (h4 : n ≤ 524288)
    (h : D κ b (E n (numbered args 0)) H (Kf κ.c rs Q)) : ∃ v H', Pt κ f args H v H' ∧ Q v H' := by
  subst hr hn
  exact Pt.body hf hb h4 h

/-- what is known of the one function that is called -/
def only (f : FuncId) (S : Spec) : FuncId → Spec := fun g a H v H' => g = f → S a H v H'
theorem call_only {f : FuncId} {args : List AV} (S : Spec) (h : ∃ v H', Pt κ f args H v H' ∧ S args H v H') : ∃ v H', callT κ (only f S) f args H = some (v, H') ∧ S args H v H' := by
  obtain ⟨v, H', h1, h2⟩ := h
  obtain ⟨v, H', h3, h4⟩ := callT_run (T := only f S) ⟨v, H', h1, fun _ => h2⟩
  exact ⟨v, H', h3, h4 rfl⟩
def none_ : FuncId → Spec := fun _ _ _ _ _ => True

/-! ### the heap -/

theorem hat_ne {i j : Nat} (o : Option AObj) (h : j ≠ i) : hat (H.set i o) j = hat H j := by
  unfold hat; rw [List.getElem?_set_ne (fun e => h e.symm)]
theorem hat_eq {i : Nat} (o : Option AObj) (h : i < H.length) : hat (H.set i o) i = o := by
  unfold hat; simp [h]
theorem hat_nw {i : Nat} (o : AObj) (h : i < H.length) : hat (hnew H o) i = hat H i := by rw [hat_new, if_neg (by omega)]
theorem hat_nn (o : AObj) : hat (hnew H o) H.length = some o := by rw [hat_new, if_pos rfl]
theorem set_len {i : Nat} {o : Option AObj} : (H.set i o).length = H.length := List.length_set

/-- nothing below is changed but what is named -/
def Keep (H H' : AHeap) (S : Nat → Prop) : Prop := H.length ≤ H'.length ∧ ∀ j, j < H.length → ¬ S j → hat H' j = hat H j
theorem Keep.refl (S : Nat → Prop) : Keep H H S := ⟨Nat.le_refl _, fun _ _ _ => rfl⟩
theorem Keep.trans {H1 H2 : AHeap} {S : Nat → Prop} (h : Keep H H1 S) (k : Keep H1 H2 S) : Keep H H2 S :=
  ⟨Nat.le_trans h.1 k.1, fun j hj hs => (k.2 j (Nat.lt_of_lt_of_le hj h.1) hs).trans (h.2 j hj hs)⟩
/-- what was new in between may change too -/
theorem Keep.trans' {H1 H2 : AHeap} {S S' : Nat → Prop} (h : Keep H H1 S) (k : Keep H1 H2 S') (hs : ∀ j, j < H.length → S' j → S j) : Keep H H2 S :=
  ⟨Nat.le_trans h.1 k.1, fun j hj hn => (k.2 j (Nat.lt_of_lt_of_le hj h.1) (fun h' => hn (hs j hj h'))).trans (h.2 j hj hn)⟩
theorem Keep.set (i : Nat) (o : Option AObj) : Keep H (H.set i o) (fun j => j = i) := ⟨by simp, fun j _ h => hat_ne o h⟩
theorem Keep.new (o : AObj) (S : Nat → Prop) : Keep H (hnew H o) S := ⟨by simp [hnew], fun j h _ => hat_nw o h⟩
theorem Keep.mono {H' : AHeap} {S S' : Nat → Prop} (h : Keep H H' S) (hs : ∀ j, j < H.length → S j → S' j) : Keep H H' S' := ⟨h.1, fun j hj hn => h.2 j hj fun h' => hn (hs j hj h')⟩

/-! ### reading and writing -/

theorem rd_own {i off : Nat} {t e : Nat} {cs : List AV} (h : hat H i = some (.row t e cs)) : rd c H (.own i) off 1 = (cs[off]?).map fun x => [x] := by
  simp only [rd, rowOf, h, Option.bind_some]
  by_cases hl : off + 1 ≤ cs.length
  · rw [if_pos hl, List.drop_eq_getElem_cons (by omega), List.getElem?_eq_getElem (by omega)]
    rfl
  · rw [if_neg hl, List.getElem?_eq_none (by omega)]; rfl

theorem rd_row {l : Loc} {off : Nat} {cs : List AV} (h : rowOf c H l = some cs) : rd c H l off 1 = (cs[off]?).map fun x => [x] := by
  simp only [rd, h, Option.bind_some]
  by_cases hl : off + 1 ≤ cs.length
  · rw [if_pos hl, List.drop_eq_getElem_cons (by omega), List.getElem?_eq_getElem (by omega)]
    rfl
  · rw [if_neg hl, List.getElem?_eq_none (by omega)]; rfl

theorem wr_own {i off : Nat} {t e : Nat} {cs : List AV} {v : AV} (h : hat H i = some (.row t e cs)) (ho : off < cs.length) (hv : v.one = true) : wr H (.own i) off [v] = some (H.set i (some (.row t e (cs.set off v)))) := by
  simp only [wr, h]
  rw [if_pos ⟨by simp; omega, by simp [hv]⟩]
  congr 4
  simp only [setSeg, List.length_cons, List.length_nil, List.set_eq_take_append_cons_drop, if_pos ho, List.singleton_append, Nat.zero_add]

/-! ### slices of one cell each, as lists -/

def Sl (c : Ctx) (H : AHeap) (v : AV) (xs : List AV) : Prop :=
  ((v = .nilslice ∨ ∃ a, v = .odd a) ∧ xs = []) ∨ ∃ l st, v = .slice l 1 st xs.length ∧ (xs ≠ [] → ∃ cs, rowOf c H l = some cs ∧ (cs.drop st).take xs.length = xs)

def ptrAt (v : AV) (i : Nat) : AV := match v with | .slice l e st _ => .ptr l ((st + i) * e) | _ => .nilptr

theorem Sl.nil : Sl c H .nilslice [] := .inl ⟨.inl rfl, rfl⟩
theorem Sl.len {v : AV} {xs : List AV} (h : Sl c H v xs) {t e : TypeId} (ht : c.P.underlying t = some (.slice e)) : alen c H t v = some (.int .i64 xs.length) := by
  rcases h with ⟨rfl | ⟨a, rfl⟩, rfl⟩ | ⟨l, st, rfl, _⟩
  · simp [alen, ht]
  · simp [alen, ht]
  · simp [alen, ht]
theorem Sl.ia {v : AV} {xs : List AV} (h : Sl c H v xs) {t e : TypeId} (ht : c.P.underlying t = some (.slice e)) (hs : szOf c.P e = some 1) {i : Nat} (hi : i < xs.length) (k : IntKind) : aindexAddr c t v (.int k (i : Int)) = some (ptrAt v i) := by
  rcases h with ⟨_, rfl⟩ | ⟨l, st, rfl, _⟩
  · simp at hi
  · simp only [aindexAddr, ht, Option.bind_some, hs, ptrAt]
    rw [if_pos ⟨by simp, by omega, by omega⟩]
    simp
theorem Sl.ld {v : AV} {xs : List AV} (h : Sl c H v xs) {e : TypeId} (ha : isAggT c.P e = some false) {i : Nat} (hi : i < xs.length) : aload c H e (ptrAt v i) = some xs[i] := by
  rcases h with ⟨_, rfl⟩ | ⟨l, st, rfl, hx⟩
  · simp at hi
  · obtain ⟨cs, hr, hc⟩ := hx (by intro h0; rw [h0] at hi; simp at hi)
    have h1 : cs[st + i]? = some xs[i] := by
      have h2 := congrArg (fun l => l[i]?) hc
      rw [List.getElem?_take, if_pos hi, List.getElem?_drop, List.getElem?_eq_getElem hi] at h2
      exact h2
    simp only [ptrAt, aload, ha, Option.bind_some, Nat.mul_one, rd_row hr, h1, Option.map_some]
    rfl
theorem Sl.ext {v : AV} {xs : List AV} (h : Sl c H v xs) {H' : AHeap} (hk : ∀ b e st n, v = .slice (.own b) e st n → hat H' b = hat H b) : Sl c H' v xs := by
  rcases h with h | ⟨l, st, rfl, hx⟩
  · exact .inl h
  · refine .inr ⟨l, st, rfl, fun hn => ?_⟩
    obtain ⟨cs, hr, hc⟩ := hx hn
    refine ⟨cs, ?_, hc⟩
    cases l with
    | own b => simp only [rowOf, hk b _ _ _ rfl] at hr ⊢; exact hr
    | ext p => exact hr
/-- where a slice lies -/
def AV.at? : AV → Option Nat
  | .slice (.own b) _ _ _ => some b
  | _ => none
theorem Sl.keep {v : AV} {xs : List AV} (h : Sl c H v xs) {H' : AHeap} {S : Nat → Prop} (hk : Keep H H' S) (hv : ∀ b, v.at? = some b → b < H.length ∧ ¬ S b) : Sl c H' v xs :=
  h.ext fun b e st n hb => by subst hb; exact hk.2 b (hv b rfl).1 (hv b rfl).2

/-! ### maps from whole numbers to whole numbers -/

def mget (l : List (Int × Int × Nat)) (k : Int) : Option Int := (l.find? fun e => e.1 == k).map fun e => e.2.1
def enc (e : Int × Int × Nat) : AV × AV × Nat := (.int .i64 e.1, .int .i64 e.2.1, e.2.2)
def IM (H : AHeap) (m : Nat) (f : Int → Option Int) : Prop := ∃ l clock, hat H m = some (.map (l.map enc) clock) ∧ (l.map (·.1)).Nodup ∧ ∀ k, mget l k = f k
def upd1 (f : Int → Option Int) (k : Int) (v : Option Int) : Int → Option Int := fun q => if q = k then v else f q

theorem IM.keep {m : Nat} {f : Int → Option Int} (h : IM H m f) {H' : AHeap} (e : hat H' m = hat H m) : IM H' m f := by
  obtain ⟨l, k, h1, h2⟩ := h
  exact ⟨l, k, by rw [e]; exact h1, h2⟩
theorem IM.lt {m : Nat} {f : Int → Option Int} (h : IM H m f) : m < H.length := by
  obtain ⟨l, k, h1, h2⟩ := h
  exact hat_lt h1
theorem IM.new : IM (hnew H (.map [] 0)) H.length (fun _ => none) := ⟨[], 0, hat_nn _, by simp, fun k => rfl⟩

theorem find_enc (k : Int) : ∀ (l : List (Int × Int × Nat)) (i : Nat), findKey (.int .i64) (.int .i64 k) (l.map enc) i = some ((l.findIdx? fun e => e.1 == k).bind fun j => (l[j]?).map fun e => (i + j, .int .i64 e.2.1))
  | [], i => rfl
  | e :: r, i => by
    simp only [List.map_cons, findKey, enc, keyEq, if_true, Option.bind_some, List.findIdx?_cons]
    by_cases h : e.1 = k
    · subst h
      simp
    · have h1 : (k == e.1) = false := by simpa using fun e' => h e'.symm
      have h2 : (e.1 == k) = false := by simpa using h
      rw [h1, h2]
      simp only [Bool.false_eq_true, if_false]
      rw [find_enc k r (i + 1)]
      cases hq : r.findIdx? (fun e => e.1 == k) with
      | none => rfl
      | some j =>
        simp only [Option.bind_some, Option.map_some, List.getElem?_cons_succ]
        cases r[j]? with
        | none => rfl
        | some e' => simp only [Option.map_some]; congr 3; omega

theorem mget_idx (k : Int) (l : List (Int × Int × Nat)) : mget l k = ((l.findIdx? fun e => e.1 == k).bind fun j => (l[j]?).map fun e => e.2.1) := by
  induction l with
  | nil => rfl
  | cons e r ih =>
    simp only [mget, List.find?_cons, List.findIdx?_cons]
    cases h : (e.1 == k) with
    | true => simp
    | false =>
      simp only [mget] at ih
      simp only [ih]
      cases r.findIdx? (fun e => e.1 == k) <;> simp

theorem idx_key {k : Int} {l : List (Int × Int × Nat)} {j : Nat} (h : (l.findIdx? fun e => e.1 == k) = some j) : ∃ e, l[j]? = some e ∧ e.1 = k := by
  obtain ⟨hj, hp, _⟩ := List.findIdx?_eq_some_iff_getElem.1 h
  exact ⟨l[j], List.getElem?_eq_getElem hj, by simpa using hp⟩

theorem IM.find {m : Nat} {f : Int → Option Int} (h : IM H m f) (k : Int) : ∃ es clock, hat H m = some (.map es clock) ∧ ∃ r, findKey (.int .i64) (.int .i64 k) es 0 = some r ∧ r.map (·.2) = (f k).map (.int .i64) := by
  obtain ⟨l, clock, h1, hn, h2⟩ := h
  refine ⟨_, clock, h1, _, find_enc k l 0, ?_⟩
  rw [← h2 k, mget_idx]
  cases hq : l.findIdx? (fun e => e.1 == k) with
  | none => rfl
  | some j =>
    obtain ⟨e, he, _⟩ := idx_key hq
    simp [he]

theorem IM.look {m : Nat} {f : Int → Option Int} (h : IM H m f) {t kt vt : TypeId} (ht : c.P.underlying t = some (.map kt vt)) (hk : c.P.underlying kt = some (.int .i64)) (hz : zeroAV c.P vt = some (.int .i64 0)) (k : Int) (ok : Bool) :
    alookup c H t (.map (.own m)) (.int .i64 k) ok = some (if ok then .tuple [.int .i64 ((f k).getD 0), .bool (f k).isSome] else .int .i64 ((f k).getD 0)) := by
  obtain ⟨es, clock, h1, r, h2, h3⟩ := h.find k
  simp only [alookup, ht, Option.bind_some, hk, keyOk, if_true, entries, h1, h2]
  cases r with
  | none =>
    cases hf : f k with
    | none => simp only [hz, Option.map_some, Option.getD_none, Option.isSome_none]
    | some x => rw [hf] at h3; cases h3
  | some p =>
    obtain ⟨j, v⟩ := p
    cases hf : f k with
    | none => rw [hf] at h3; cases h3
    | some x =>
      rw [hf] at h3
      simp only [Option.map_some, Option.some.injEq] at h3
      subst h3
      rfl

theorem mget_none {l : List (Int × Int × Nat)} {k : Int} (h : ∀ e ∈ l, e.1 ≠ k) : mget l k = none := by
  simp only [mget, Option.map_eq_none_iff, List.find?_eq_none]
  intro e he; simpa using h e he
theorem mget_mem {l : List (Int × Int × Nat)} (hn : (l.map (·.1)).Nodup) {e : Int × Int × Nat} (he : e ∈ l) : mget l e.1 = some e.2.1 := by
  induction l with
  | nil => simp at he
  | cons a r ih =>
    simp only [List.map_cons, List.nodup_cons] at hn
    simp only [mget, List.find?_cons]
    rcases List.mem_cons.1 he with rfl | h
    · simp
    · have hne : a.1 ≠ e.1 := fun e' => hn.1 (by rw [e']; exact List.mem_map.2 ⟨e, h, rfl⟩)
      have : (a.1 == e.1) = false := by simpa using hne
      rw [this]
      exact ih hn.2 h
/-- two lists with the same entries read the same -/
theorem mget_iff {l : List (Int × Int × Nat)} (hn : (l.map (·.1)).Nodup) {k v : Int} : mget l k = some v ↔ ∃ b, (k, v, b) ∈ l := by
  constructor
  · intro h
    simp only [mget, Option.map_eq_some_iff] at h
    obtain ⟨e, he, rfl⟩ := h
    have h1 := List.find?_some he
    simp at h1
    subst h1
    exact ⟨e.2.2, List.mem_of_find?_eq_some he⟩
  · rintro ⟨b, hb⟩
    exact mget_mem hn hb

theorem er_map {α β : Type} (f : α → β) : ∀ (l : List α) (i : Nat), (l.map f).eraseIdx i = (l.eraseIdx i).map f
  | [], i => rfl
  | a :: r, 0 => rfl
  | a :: r, i + 1 => by simp only [List.map_cons, List.eraseIdx_cons_succ, er_map f r i]
theorem nodup_inj {α : Type} {l : List α} (h : l.Nodup) {i j : Nat} {hi : i < l.length} {hj : j < l.length} (e : l[i] = l[j]) : i = j := by
  have hp := List.pairwise_iff_getElem.1 h
  rcases Nat.lt_trichotomy i j with h1 | h1 | h1
  · exact absurd e (hp i j hi hj h1)
  · exact h1
  · exact absurd e.symm (hp j i hj hi h1)

theorem IM.put {m : Nat} {f : Int → Option Int} (h : IM H m f) {t kt vt : TypeId} (ht : c.P.underlying t = some (.map kt vt)) (hk : c.P.underlying kt = some (.int .i64)) (k v : Int) :
    ∃ o, amapUpdate c H t (.map (.own m)) (.int .i64 k) (.int .i64 v) = some (H.set m (some o)) ∧ ∀ H', hat H' m = some o → IM H' m (upd1 f k (some v)) := by
  obtain ⟨l, clock, h1, hn, h2⟩ := h
  simp only [amapUpdate, ht, Option.bind_some, hk, keyOk, if_true, h1, find_enc]
  cases hq : l.findIdx? (fun e => e.1 == k) with
  | none =>
    refine ⟨_, rfl, fun H' hH => ⟨l ++ [(k, v, clock)], clock + 1, by simpa [enc] using hH, ?_, ?_⟩⟩
    · have hno : ∀ e ∈ l, e.1 ≠ k := by
        rw [List.findIdx?_eq_none_iff] at hq
        intro e he; simpa using hq e he
      rw [List.map_append, List.nodup_append]
      refine ⟨hn, by simp, ?_⟩
      intro a ha b hb e
      obtain ⟨e1, he1, rfl⟩ := List.mem_map.1 ha
      simp at hb
      exact hno e1 he1 (e.trans hb)
    · intro q
      have hno : ∀ e ∈ l, e.1 ≠ k := by
        rw [List.findIdx?_eq_none_iff] at hq
        intro e he; simpa using hq e he
      unfold upd1
      rw [← h2 q]
      simp only [mget, List.find?_append]
      by_cases hqk : q = k
      · subst hqk
        rw [if_pos rfl]
        have : l.find? (fun e => e.1 == q) = none := by
          rw [List.find?_eq_none]; intro e he; simpa using hno e he
        rw [this]; simp
      · rw [if_neg hqk]
        have : (k == q) = false := by simpa using fun e => hqk e.symm
        cases l.find? (fun e => e.1 == q) with
        | none => simp [this]
        | some e => rfl
  | some j =>
    obtain ⟨e, he, hek⟩ := idx_key hq
    subst hek
    simp only [Option.bind_some, he, Option.map_some, Nat.zero_add]
    refine ⟨_, rfl, fun H' hH => ⟨l.set j (e.1, v, e.2.2), clock, ?_, ?_, ?_⟩⟩
    · rw [hH]
      congr 2
      apply List.ext_getElem?
      intro i
      rw [List.getElem?_modify, List.getElem?_map, List.getElem?_map, List.getElem?_set]
      have hjl : j < l.length := (List.getElem?_eq_some_iff.1 he).1
      by_cases hij : j = i
      · subst hij
        simp only [if_true, he, hjl, Option.map_some]
        rfl
      · simp only [if_neg hij]
        cases l[i]? <;> rfl
    · have : (l.set j (e.1, v, e.2.2)).map (·.1) = l.map (·.1) := by
        rw [List.map_set]
        apply List.ext_getElem?
        intro i
        rw [List.getElem?_set]
        by_cases hij : j = i
        · subst hij
          rw [if_pos rfl]
          have hjl : j < l.length := (List.getElem?_eq_some_iff.1 he).1
          rw [if_pos (by simpa using hjl), List.getElem?_map, he]; rfl
        · rw [if_neg hij]
      rw [this]; exact hn
    · intro q
      unfold upd1
      have hjl : j < l.length := (List.getElem?_eq_some_iff.1 he).1
      rw [← h2 q, mget_idx, mget_idx]
      have hfi : ∀ q, (l.set j (e.1, v, e.2.2)).findIdx? (fun x => x.1 == q) = l.findIdx? (fun x => x.1 == q) := by
        intro q
        have e1 : ∀ l : List (Int × Int × Nat), l.findIdx? (fun x => x.1 == q) = (l.map (·.1)).findIdx? (fun x => x == q) := by
          intro l; rw [List.findIdx?_map]; rfl
        rw [e1, e1]
        congr 1
        rw [List.map_set]
        apply List.ext_getElem?
        intro i
        rw [List.getElem?_set]
        by_cases hij : j = i
        · subst hij
          rw [if_pos rfl, if_pos (by simpa using hjl), List.getElem?_map, he]; rfl
        · rw [if_neg hij]
      rw [hfi]
      by_cases hqk : q = e.1
      · subst hqk
        rw [if_pos rfl, hq]
        simp [hjl]
      · rw [if_neg hqk]
        cases hq2 : l.findIdx? (fun x => x.1 == q) with
        | none => rfl
        | some i =>
          obtain ⟨e2, he2, hk2⟩ := idx_key hq2
          have hij : j ≠ i := by
            intro h; subst h
            rw [he] at he2; cases he2
            exact hqk hk2.symm
          simp [List.getElem?_set_ne hij]

theorem IM.del {m : Nat} {f : Int → Option Int} (h : IM H m f) {t kt vt : TypeId} (ht : c.P.underlying t = some (.map kt vt)) (hk : c.P.underlying kt = some (.int .i64)) (k : Int) :
    ∃ H', adelete c H t (.map (.own m)) (.int .i64 k) = some H' ∧ IM H' m (upd1 f k none) ∧ H'.length = H.length ∧ ∀ j, j ≠ m → hat H' j = hat H j := by
  obtain ⟨l, clock, h1, hn, h2⟩ := h
  have hm := hat_lt h1
  simp only [adelete, ht, Option.bind_some, hk, keyOk, if_true, h1, find_enc]
  cases hq : l.findIdx? (fun e => e.1 == k) with
  | none =>
    refine ⟨H, rfl, ⟨l, clock, h1, hn, fun q => ?_⟩, rfl, fun _ _ => rfl⟩
    unfold upd1
    by_cases hqk : q = k
    · subst hqk
      rw [if_pos rfl, mget_idx, hq]; rfl
    · rw [if_neg hqk]; exact h2 q
  | some j =>
    obtain ⟨e, he, hek⟩ := idx_key hq
    subst hek
    simp only [Option.bind_some, he, Option.map_some, Nat.zero_add]
    refine ⟨_, rfl, ⟨l.eraseIdx j, clock, ?_, ?_, ?_⟩, by simp, fun j hj => hat_ne _ hj⟩
    · rw [hat_eq _ hm]
      congr 2
      rw [er_map]
    · rw [← er_map]
      exact hn.sublist (List.eraseIdx_sublist _ _)
    · have hn' : ((l.eraseIdx j).map (·.1)).Nodup := by rw [← er_map]; exact hn.sublist (List.eraseIdx_sublist _ _)
      intro q
      unfold upd1
      rw [← h2 q]
      have hjl : j < l.length := (List.getElem?_eq_some_iff.1 he).1
      have hej : l[j] = e := (List.getElem?_eq_some_iff.1 he).2
      by_cases hqk : q = e.1
      · subst hqk
        rw [if_pos rfl]
        refine mget_none fun x hx hk => ?_
        obtain ⟨i, hi, hne, hxi⟩ : ∃ i, ∃ _ : i < l.length, i ≠ j ∧ l[i] = x := by
          obtain ⟨i, hi, rfl⟩ := List.getElem_of_mem hx
          rw [List.getElem_eraseIdx]
          rw [List.length_eraseIdx_of_lt hjl] at hi
          split
          · exact ⟨i, by omega, by omega, rfl⟩
          · exact ⟨i + 1, by omega, by omega, rfl⟩
        have : (l.map (·.1))[i]'(by simpa using hi) = (l.map (·.1))[j]'(by simpa using hjl) := by simp [hxi, hej, hk]
        exact hne (nodup_inj hn this)
      · rw [if_neg hqk]
        cases hg : mget l q with
        | some v =>
          obtain ⟨b, hb⟩ := (mget_iff hn).1 hg
          refine (mget_iff hn').2 ⟨b, ?_⟩
          obtain ⟨i, hi, hib⟩ := List.getElem_of_mem hb
          have hij : i ≠ j := by
            intro h; subst h
            rw [hej] at hib; rw [hib] at hqk; exact hqk rfl
          rw [List.mem_eraseIdx_iff_getElem]
          exact ⟨i, hi, hij, hib⟩
        | none =>
          cases hg2 : mget (l.eraseIdx j) q with
          | none => rfl
          | some v =>
            obtain ⟨b, hb⟩ := (mget_iff hn').1 hg2
            have := (mget_iff hn).2 ⟨b, List.mem_of_mem_eraseIdx hb⟩
            rw [hg] at this; cases this
/-! ### types -/
def infoSB (P : Program) (t : TypeId) : Option (Nat × Nat) := (P.info? t).map fun i => (i.size, i.bytes)

/-- an append, by the type's sizes alone -/
def aappend2 (c : Ctx) (H : AHeap) (st : TypeId) (s x : AV) : Option (AV × AHeap) :=
  (c.P.underlying st).bind fun d => match d with
  | .slice e => (infoSB c.P e).bind fun i => (zeroCells c.P e).bind fun z =>
    if 0 < i.1 ∧ 0 < i.2 ∧ z.length = i.1 then
    (source c H i.1 x).bind fun (n, cs) =>
    if n = 0 then match s with | .nilslice => some (s, H) | .slice _ _ _ _ => some (s, H) | _ => none
    else match s with
    | .nilslice => if n * i.2 ≤ 2 ^ 47 ∧ cs.all AV.one then some (.slice (fresh H) i.1 0 n, hnew H (.row e i.1 cs)) else none
    | .slice (.own b) esz start len =>
      if esz = i.1 ∧ cs.all AV.one then match hat H b with
      | some (.row ty esz' old) =>
        if ty = e ∧ esz' = esz ∧ (start + len) * esz ≤ old.length then
          if (start + len + n) * esz ≤ old.length then some (.slice (.own b) esz start (len + n), H.set b (some (.row ty esz (setSeg old ((start + len) * esz) cs))))
          else if (len + n) * i.2 ≤ 2 ^ 47 then
            some (.slice (fresh H) esz 0 (len + n), hnew (H.set b none) (.row ty esz ((old.drop (start * esz)).take (len * esz) ++ cs)))
          else none
        else none
      | some (.empty true) => if len = 0 ∧ start = 0 ∧ n * i.2 ≤ 2 ^ 47 then some (.slice (fresh H) esz 0 n, hnew H (.row e esz cs)) else none
      | _ => none
      else none
    | _ => none
    else none
  | _ => none
theorem aappend_eq (c : Ctx) (H : AHeap) (st : TypeId) (s x : AV) : aappend c H st s x = aappend2 c H st s x := by
  unfold aappend aappend2 infoSB
  congr 1
  funext d
  cases d <;> try rfl
  rename_i e
  simp only
  cases c.P.info? e <;> rfl

/-- a new row of cells -/
def amakeSlice2 (c : Ctx) (H : AHeap) (t : TypeId) : AV → AV → Option (AV × AHeap)
  | .int _ l, .int _ m => (c.P.underlying t).bind fun d => match d with
    | .slice e => (infoSB c.P e).bind fun i => (zeroCells c.P e).bind fun z =>
      if 0 ≤ l ∧ l ≤ m ∧ i.2 * m ≤ 2 ^ 47 ∧ m < 2 ^ 63 ∧ z.length = i.1 ∧ 0 < i.1 ∧ z.all AV.one then
        some (.slice (fresh H) i.1 0 l.toNat, hnew H (.row e i.1 (reps m.toNat z)))
      else none
    | _ => none
  | _, _ => none
theorem amake_eq (c : Ctx) (H : AHeap) (t : TypeId) (x y : AV) : amakeSlice c H t x y = amakeSlice2 c H t x y := by
  unfold amakeSlice amakeSlice2 infoSB
  split
  · congr 1
    funext d
    cases d <;> try rfl
    rename_i e
    simp only
    cases c.P.info? e <;> rfl
  · rename_i h
    split
    · rename_i k l k' m; exact absurd rfl (h k l k' m rfl)
    · rfl
theorem reps_rep (x : AV) : ∀ n, reps n [x] = List.replicate n x
  | 0 => rfl
  | n + 1 => by simp [reps, reps_rep x n, List.replicate_succ]
theorem ob_ft : ((some false : Option Bool) == some true) = false := rfl
theorem ob_tf : ((some true : Option Bool) == some false) = false := rfl
theorem ob_n (b : Bool) : ((none : Option Bool) == some b) = false := rfl

/-- what is known of two functions that are called -/
def two (f : FuncId) (S : Spec) (g : FuncId) (S' : Spec) : FuncId → Spec := fun h a H v H' => (h = f → S a H v H') ∧ (h = g → S' a H v H')
theorem call_two1 {f : FuncId} {args : List AV} (S : Spec) {g : FuncId} (S' : Spec) (hne : f ≠ g) (h : ∃ v H', Pt κ f args H v H' ∧ S args H v H') : ∃ v H', callT κ (two f S g S') f args H = some (v, H') ∧ S args H v H' := by
  obtain ⟨v, H', h1, h2⟩ := h
  obtain ⟨v, H', h3, h4⟩ := callT_run (T := two f S g S') ⟨v, H', h1, fun _ => h2, fun e => absurd e hne⟩
  exact ⟨v, H', h3, h4.1 rfl⟩
theorem call_two2 {f : FuncId} {args : List AV} (S : Spec) {g : FuncId} (S' : Spec) (hne : f ≠ g) (h : ∃ v H', Pt κ g args H v H' ∧ S' args H v H') : ∃ v H', callT κ (two f S g S') g args H = some (v, H') ∧ S' args H v H' := by
  obtain ⟨v, H', h1, h2⟩ := h
  obtain ⟨v, H', h3, h4⟩ := callT_run (T := two f S g S') ⟨v, H', h1, fun e => absurd e.symm hne, fun _ => h2⟩
  exact ⟨v, H', h3, h4.2 rfl⟩

/-- a region whose operations are run behind the look at its order -/
def R (κ : Kn) (T : FuncId → Spec) (ops : List Oper) (env : AEnv) (H : AHeap) (K : AEnv → AHeap → Prop) : Prop := ∃ env' H', asteps κ.c (callT κ T) ops ops env H = some (env', H') ∧ K env' H'
theorem D.drawR {id : Nat} {ops : Array Oper} (hs : staticOk ops.toList = true) (h : R κ T ops.toList env H (K .normal)) : D κ (.region id ops true) env H K := by
  obtain ⟨env', H', h1, h2⟩ := h
  exact D.draw hs h1 h2

/-! ### a row of one's own that grows -/

def Own (H : AHeap) (v : AV) (e : TypeId) (xs : List AV) : Prop :=
  (v = .nilslice ∧ xs = []) ∨ ∃ b, v = .slice (.own b) 1 0 xs.length ∧ hat H b = some (.row e 1 xs)

theorem Own.nil {e : TypeId} : Own H .nilslice e [] := .inl ⟨rfl, rfl⟩
theorem Own.sl {v : AV} {e : TypeId} {xs : List AV} (h : Own H v e xs) : Sl c H v xs := by
  rcases h with h | ⟨b, rfl, hb⟩
  · exact .inl ⟨.inl h.1, h.2⟩
  · exact .inr ⟨.own b, 0, rfl, fun _ => ⟨xs, by simp only [rowOf, hb], by simp⟩⟩
theorem Own.lt {v : AV} {e : TypeId} {xs : List AV} (h : Own H v e xs) {b : Nat} (hb : v.at? = some b) : b < H.length := by
  rcases h with ⟨rfl, _⟩ | ⟨b', rfl, h⟩
  · simp [AV.at?] at hb
  · simp only [AV.at?, Option.some.injEq] at hb; subst hb; exact hat_lt h
theorem Own.keep {v : AV} {e : TypeId} {xs : List AV} (h : Own H v e xs) {H' : AHeap} (hk : ∀ b, v.at? = some b → hat H' b = hat H b) : Own H' v e xs := by
  rcases h with h | ⟨b, rfl, h⟩
  · exact .inl h
  · exact .inr ⟨b, rfl, by rw [hk b rfl]; exact h⟩

/-- 's = append(s, x)' -/
theorem Own.app {v : AV} {e : TypeId} {xs : List AV} (h : Own H v e xs) {t : TypeId} {k : Nat} {z x : AV} (ht : c.P.underlying t = some (.slice e)) (hi : infoSB c.P e = some (1, k)) (hz : zeroCells c.P e = some [z]) (hk : 0 < k) (hx : x.one = true) (hn : (xs.length + 1) * k ≤ 2 ^ 47) :
    ∃ v' H', aappend c (hnew H (.row e 1 [x])) t v (.slice (.own H.length) 1 0 1) = some (v', H') ∧ Own H' v' e (xs ++ [x]) ∧ Keep H H' (fun j => v.at? = some j) ∧ (∃ b, v'.at? = some b ∧ H.length ≤ b) := by
  rw [aappend_eq]
  have hsrc : source c (hnew H (.row e 1 [x])) 1 (.slice (.own H.length) 1 0 1) = some (1, [x]) := by
    simp [source, rd_own (hat_nn _)]
  rcases h with ⟨rfl, rfl⟩ | ⟨b, rfl, hb⟩
  · refine ⟨.slice (.own (H.length + 1)) 1 0 1, hnew (hnew H (.row e 1 [x])) (.row e 1 [x]), ?_, .inr ⟨H.length + 1, rfl, ?_⟩, ⟨by simp [hnew], fun j hj _ => ?_⟩, H.length + 1, rfl, by omega⟩
    · simp only [aappend2, ht, Option.bind_some, hi, hz, hsrc]
      rw [if_pos ⟨by omega, hk, by trivial⟩, if_neg (by omega), if_pos ⟨by simpa using hn, by simp [hx]⟩]
      simp [fresh, len_new]
    · have := hat_nn (H := hnew H (.row e 1 [x])) (.row e 1 [x])
      rw [len_new] at this
      exact this
    · rw [hat_nw _ (by rw [len_new]; omega), hat_nw _ hj]
  · have hbl := hat_lt hb
    have hb' : hat (hnew H (.row e 1 [x])) b = some (.row e 1 xs) := by rw [hat_nw _ hbl]; exact hb
    refine ⟨.slice (.own (H.length + 1)) 1 0 (xs.length + 1), hnew ((hnew H (.row e 1 [x])).set b none) (.row e 1 (xs ++ [x])), ?_, .inr ⟨H.length + 1, by simp, ?_⟩, ⟨by simp [hnew]; omega, fun j hj hne => ?_⟩, H.length + 1, rfl, by omega⟩
    · simp only [aappend2, ht, Option.bind_some, hi, hz, hsrc]
      rw [if_pos ⟨by omega, hk, by trivial⟩, if_neg (by omega), if_pos ⟨by trivial, by simp [hx]⟩, hb']
      simp only []
      rw [if_pos ⟨by trivial, by trivial, by simp⟩, if_neg (by simp), if_pos hn]
      simp [fresh, len_new]
    · have := hat_nn (H := (hnew H (.row e 1 [x])).set b none) (.row e 1 (xs ++ [x]))
      rw [List.length_set, len_new] at this
      exact this
    · have hjb : j ≠ b := fun e' => hne (by rw [e']; rfl)
      rw [hat_nw _ (by rw [List.length_set, len_new]; omega), hat_ne _ hjb, hat_nw _ hj]

theorem D.regC {id : Nat} {ops : Array Oper} {env' : AEnv} {H' : AHeap} {f : FuncId} {as : List AV} {H0 : AHeap} {r : AV × AHeap} (_ : callT κ T f as H0 = some r) (h : asteps κ.c (callT κ T) ops.toList ops.toList env H = some (env', H')) (k : K .normal env' H') : D κ (.region id ops false) env H K := D.region h k
theorem D.drawC {id : Nat} {ops : Array Oper} {env' : AEnv} {H' : AHeap} {f : FuncId} {as : List AV} {H0 : AHeap} {r : AV × AHeap} (_ : callT κ T f as H0 = some r) (hs : staticOk ops.toList = true) (h : asteps κ.c (callT κ T) ops.toList ops.toList env H = some (env', H')) (k : K .normal env' H') : D κ (.region id ops true) env H K := D.draw hs h k

/-- what code is to reach, if it goes on -/
def Kc (P : AEnv → AHeap → Prop) : AExit → AEnv → AHeap → Prop := fun e env H => match e with
  | .normal => P env H
  | _ => False
theorem Kc_n {P : AEnv → AHeap → Prop} : Kc P .normal env H = P env H := rfl
theorem D.cut {code : Code} (P : AEnv → AHeap → Prop) (h : D κ code env H (Kc P)) (k : ∀ env' H', P env' H' → K .normal env' H') : D κ code env H K :=
  h.mono fun e env' H' hp => by
    cases e with
    | normal => exact k env' H' hp
    | _ => exact hp.elim
/-- the same, where the code may also return or leave -/
def Kx (P : AEnv → AHeap → Prop) (K : AExit → AEnv → AHeap → Prop) : AExit → AEnv → AHeap → Prop := fun e env H => match e with
  | .normal => P env H
  | e => K e env H
theorem Kx_n {P : AEnv → AHeap → Prop} : Kx P K .normal env H = P env H := rfl
theorem Kx_e {P : AEnv → AHeap → Prop} {i : Nat} : Kx P K (.exit i) env H = K (.exit i) env H := rfl
theorem Kx_r {P : AEnv → AHeap → Prop} : Kx P K .ret env H = K .ret env H := rfl
theorem D.cutx {code : Code} (P : AEnv → AHeap → Prop) (h : D κ code env H (Kx P K)) (k : ∀ env' H', P env' H' → K .normal env' H') : D κ code env H K :=
  h.mono fun e env' H' hp => by
    cases e with
    | normal => exact k env' H' hp
    | _ => exact hp
theorem cells_bool (b : Bool) : (AV.bool b).cells = [AV.bool b] := rfl
theorem one_bool (b : Bool) : (AV.bool b).one = true := rfl
theorem cells_int (k : IntKind) (n : Int) : (AV.int k n).cells = [AV.int k n] := rfl
theorem one_int (k : IntKind) (n : Int) : (AV.int k n).one = true := rfl
theorem cells_str (s : List UInt8) : (AV.str s).cells = [AV.str s] := rfl
theorem one_str (s : List UInt8) : (AV.str s).one = true := rfl
theorem cells_nilptr  : (AV.nilptr ).cells = [AV.nilptr ] := rfl
theorem one_nilptr  : (AV.nilptr ).one = true := rfl
theorem cells_ptr (l : Loc) (o : Nat) : (AV.ptr l o).cells = [AV.ptr l o] := rfl
theorem one_ptr (l : Loc) (o : Nat) : (AV.ptr l o).one = true := rfl
theorem cells_nilslice  : (AV.nilslice ).cells = [AV.nilslice ] := rfl
theorem one_nilslice  : (AV.nilslice ).one = true := rfl
theorem cells_slice (l : Loc) (a b d : Nat) : (AV.slice l a b d).cells = [AV.slice l a b d] := rfl
theorem one_slice (l : Loc) (a b d : Nat) : (AV.slice l a b d).one = true := rfl
theorem cells_nilmap  : (AV.nilmap ).cells = [AV.nilmap ] := rfl
theorem one_nilmap  : (AV.nilmap ).one = true := rfl
theorem cells_map (l : Loc) : (AV.map l).cells = [AV.map l] := rfl
theorem one_map (l : Loc) : (AV.map l).one = true := rfl
theorem cells_nilfunc  : (AV.nilfunc ).cells = [AV.nilfunc ] := rfl
theorem one_nilfunc  : (AV.nilfunc ).one = true := rfl
theorem cells_func (f : Fn) (a b : List AV) : (AV.func f a b).cells = [AV.func f a b] := rfl
theorem one_func (f : Fn) (a b : List AV) : (AV.func f a b).one = true := rfl
theorem cells_niliface  : (AV.niliface ).cells = [AV.niliface ] := rfl
theorem one_niliface  : (AV.niliface ).one = true := rfl
theorem cells_iface (t : TypeId) (v : AV) : (AV.iface t v).cells = [AV.iface t v] := rfl
theorem one_iface (t : TypeId) (v : AV) : (AV.iface t v).one = true := rfl
theorem cells_agg (l : List AV) : (AV.agg l).cells = l := rfl

/-! ### operations, one rule each (not by unfolding, so that the kernel need not find its way) -/
section ops
variable {call : Callee} {ops : List Oper}
/-- the rest of a region, behind a result -/
def nxt (c : Ctx) (call : Callee) (ops r : List Oper) (d : Option Tmp) (env : AEnv) : Option (ARes × AHeap) → Option (AEnv × AHeap)
  | some (.val v, H) => asteps c call ops r (eput env d (some v)) H
  | some (.skip, H) => asteps c call ops r (eput env d (some .undef)) H
  | some (.call f args, H) => (call f args H).bind fun p => asteps c call ops r (eput env d (some p.1)) p.2
  | none => none
def nxc (c : Ctx) (call : Callee) (ops r : List Oper) (d : Option Tmp) (env : AEnv) : Option (AV × AHeap) → Option (AEnv × AHeap)
  | some (v, H) => asteps c call ops r (eput env d (some v)) H
  | none => none
def nif (c : Ctx) (call : Callee) (ops r : List Oper) (d : Option Tmp) (op : Op) (env : AEnv) (H : AHeap) (w : Bool) : Option (Option Bool) → Option (AEnv × AHeap)
  | some y => if y = some w then nxt c call ops r d env (aop c env op H) else asteps c call ops r (eput env d (some .undef)) H
  | none => none
theorem s_nil (env : AEnv) (H : AHeap) : asteps c call ops [] env H = some (env, H) := Eq.trans rfl (Eq.refl _)
theorem s_go (d : Option Tmp) (op : Op) (ty : TypeId) (pos : String) (af : Array Edge) (r : List Oper) (env : AEnv) (H : AHeap) :
    asteps c call ops ({ dst := d, op := op, type := ty, pos := pos, after := af, guard := none } :: r) env H = nxt c call ops r d env (aop c env op H) := by
  simp only [asteps, astep, awanted, Option.bind_some, if_true]
  cases aop c env op H with
  | none => rfl
  | some p =>
    obtain ⟨x, H'⟩ := p
    cases x with
    | call f args =>
      simp only [Option.bind_some, nxt]
      cases call f args H' <;> rfl
    | _ => rfl
theorem s_if (d : Option Tmp) (op : Op) (ty : TypeId) (pos : String) (af : Array Edge) (j : Nat) (w : Bool) (r : List Oper) (env : AEnv) (H : AHeap) :
    asteps c call ops ({ dst := d, op := op, type := ty, pos := pos, after := af, guard := some (j, w) } :: r) env H = nif c call ops r d op env H w (ayield ops env j) := by
  simp only [asteps, astep, awanted]
  cases ayield ops env j with
  | none => rfl
  | some y =>
    simp only [Option.map_some, Option.bind_some, nif]
    by_cases h : y = some w
    · have h' : (y == some w) = true := by simpa using h
      rw [h', if_pos h]
      simp only [if_true]
      cases aop c env op H with
      | none => rfl
      | some p =>
        obtain ⟨x, H'⟩ := p
        cases x with
        | call f args =>
          simp only [Option.bind_some, nxt]
          cases call f args H' <;> rfl
        | _ => rfl
    · have h' : (y == some w) = false := by simpa using h
      rw [h', if_neg h]
      rfl
theorem n_val (r : List Oper) (d : Option Tmp) (env : AEnv) (v : AV) (H : AHeap) : nxt c call ops r d env (some (.val v, H)) = asteps c call ops r (eput env d (some v)) H := Eq.trans rfl (Eq.refl _)
theorem n_skip (r : List Oper) (d : Option Tmp) (env : AEnv) (H : AHeap) : nxt c call ops r d env (some (.skip, H)) = asteps c call ops r (eput env d (some .undef)) H := Eq.trans rfl (Eq.refl _)
theorem n_call (r : List Oper) (d : Option Tmp) (env : AEnv) (f : FuncId) (args : List AV) (H : AHeap) : nxt c call ops r d env (some (.call f args, H)) = nxc c call ops r d env (call f args H) := by
  simp only [nxt]; cases call f args H <;> rfl
theorem n_back (r : List Oper) (d : Option Tmp) (env : AEnv) (v : AV) (H : AHeap) : nxc c call ops r d env (some (v, H)) = asteps c call ops r (eput env d (some v)) H := Eq.trans rfl (Eq.refl _)
theorem i_tt (r : List Oper) (d : Option Tmp) (op : Op) (env : AEnv) (H : AHeap) : nif c call ops r d op env H true (some (some true)) = nxt c call ops r d env (aop c env op H) := by simp only [nif, if_true]
theorem i_ff (r : List Oper) (d : Option Tmp) (op : Op) (env : AEnv) (H : AHeap) : nif c call ops r d op env H false (some (some false)) = nxt c call ops r d env (aop c env op H) := by simp only [nif, if_true]
theorem i_tf (r : List Oper) (d : Option Tmp) (op : Op) (env : AEnv) (H : AHeap) : nif c call ops r d op env H true (some (some false)) = asteps c call ops r (eput env d (some .undef)) H := by simp [nif]
theorem i_ft (r : List Oper) (d : Option Tmp) (op : Op) (env : AEnv) (H : AHeap) : nif c call ops r d op env H false (some (some true)) = asteps c call ops r (eput env d (some .undef)) H := by simp [nif]
theorem i_n (r : List Oper) (d : Option Tmp) (op : Op) (env : AEnv) (H : AHeap) (w : Bool) : nif c call ops r d op env H w (some none) = asteps c call ops r (eput env d (some .undef)) H := by simp [nif]
theorem p_some (v : AV) (H : AHeap) : pair (some v) H = some (.val v, H) := Eq.trans rfl (Eq.refl _)
theorem b_some (v : AV) (H : AHeap) : both (some (v, H)) = some (.val v, H) := Eq.trans rfl (Eq.refl _)
theorem d_some (H : AHeap) : done (some H) = some (.skip, H) := Eq.trans rfl (Eq.refl _)
variable (env : AEnv) (H : AHeap)
theorem v_tmp (t : Tmp) : aval env (.tmp t) = eget env t := Eq.trans rfl (Eq.refl _)
theorem v_const (v : Value) : aval env (.const v) = constAV v := Eq.trans rfl (Eq.refl _)
theorem v_func (f : FuncId) : aval env (.func f) = some (.func (.func f) [] []) := Eq.trans rfl (Eq.refl _)
theorem v_glob (g : Nat) : aval env (.global g) = some (.ptr (.ext [0, g]) 0) := Eq.trans rfl (Eq.refl _)
theorem vs_nil : avals env [] = some [] := Eq.trans rfl (Eq.refl _)
theorem vs_cons (x : Operand) (r : List Operand) : avals env (x :: r) = (aval env x).bind fun a => (avals env r).bind fun b => some (a :: b) := Eq.trans rfl (Eq.refl _)
theorem o_move (x : Operand) : aop c env (.move x) H = pair (aval env x) H := Eq.trans rfl (Eq.refl _)
theorem o_assign (x : Operand) : aop c env (.assign x) H = pair (aval env x) H := Eq.trans rfl (Eq.refl _)
theorem o_pick (q a b : Operand) : aop c env (.pick q a b) H = (aval env q).bind fun v => match v with | .bool t => pair (if t then aval env a else aval env b) H | _ => none := Eq.trans rfl (Eq.refl _)
theorem o_alloc (t : TypeId) : aop c env (.alloc t) H = (zeroCells c.P t).bind fun z => both (anew c H t z) := Eq.trans rfl (Eq.refl _)
theorem o_box (t : TypeId) (x : Operand) : aop c env (.box t x) H = (aval env x).bind fun v => both (anew c H t v.cells) := Eq.trans rfl (Eq.refl _)
theorem o_build (t : TypeId) (ps : Array (Nat × Operand)) : aop c env (.build t ps) H = (mapO (fun p => (aval env p.2).map fun v => (p.1, v)) ps.toList).bind fun l => pair (abuild c t l) H := Eq.trans rfl (Eq.refl _)
theorem o_bslice (t : TypeId) (n : Nat) (ps : Array (Nat × Operand)) : aop c env (.buildSlice t n ps) H = (mapO (fun p => (aval env p.2).map fun v => (p.1, v)) ps.toList).bind fun l => both (abuildSlice c H t n l) := Eq.trans rfl (Eq.refl _)
theorem o_load (t : TypeId) (a : Operand) : aop c env (.load t a) H = (aval env a).bind fun p => pair (aload c H t p) H := Eq.trans rfl (Eq.refl _)
theorem o_store (t : TypeId) (a x : Operand) : aop c env (.store t a x) H = (aval env a).bind fun p => (aval env x).bind fun v => done (astore c H t p v) := Eq.trans rfl (Eq.refl _)
theorem o_nil (x : Operand) : aop c env (.nilCheck x) H = (aval env x).bind fun v => match v with
    | .ptr l off => some (.val (.ptr l off), H)
    | .func (.func f) a b => some (.val (.func (.func f) a b), H)
    | .iface t v => some (.val (.iface t v), H)
    | _ => none := Eq.trans rfl (Eq.refl _)
theorem o_bin (op : BinOp) (t : TypeId) (x y : Operand) (yt : TypeId) : aop c env (.binOp op t x y yt) H = (aval env x).bind fun a => (aval env y).bind fun b => pair (abin c op t a b) H := Eq.trans rfl (Eq.refl _)
theorem o_un (op : UnOp) (t : TypeId) (x : Operand) : aop c env (.unOp op t x) H = (aval env x).bind fun a => pair (aun op a) H := Eq.trans rfl (Eq.refl _)
theorem o_conv (s d : TypeId) (x : Operand) : aop c env (.convert s d x) H = (aval env x).bind fun a => pair (aconv c s d a) H := Eq.trans rfl (Eq.refl _)
theorem o_mkfn (fn : Fn) (f k : Array Operand) : aop c env (.makeFunc fn f k) H = (avals env f.toList).bind fun a => (avals env k.toList).bind fun b => some (.val (.func fn a b), H) := Eq.trans rfl (Eq.refl _)
theorem o_mkmap (t : TypeId) : aop c env (.makeMap t none) H = some (.val (.map (fresh H)), hnew H (.map [] 0)) := Eq.trans rfl (Eq.refl _)
theorem o_mksl (t : TypeId) (l m : Operand) : aop c env (.makeSlice t l m) H = (aval env l).bind fun a => (aval env m).bind fun b => both (amakeSlice c H t a b) := Eq.trans rfl (Eq.refl _)
theorem o_slice (t : TypeId) (x : Operand) (lo hi mx : Option Operand) : aop c env (.slice t x lo hi mx) H = (aval env x).bind fun a => (optval env lo).bind fun l => (optval env hi).bind fun h => (optval env mx).bind fun m => both (aslice c H t a l h m) := Eq.trans rfl (Eq.refl _)
theorem o_fa (s : TypeId) (x : Operand) (f : Nat) : aop c env (.fieldAddr s x f) H = (aval env x).bind fun a => pair (afieldAddr c s a f) H := Eq.trans rfl (Eq.refl _)
theorem o_field (s : TypeId) (x : Operand) (f : Nat) : aop c env (.field s x f) H = (aval env x).bind fun a => pair (afield c s a f) H := Eq.trans rfl (Eq.refl _)
theorem o_ia (t : TypeId) (x i : Operand) : aop c env (.indexAddr t x i) H = (aval env x).bind fun a => (aval env i).bind fun b => pair (aindexAddr c t a b) H := Eq.trans rfl (Eq.refl _)
theorem o_idx (t : TypeId) (x i : Operand) : aop c env (.index t x i) H = (aval env x).bind fun a => (aval env i).bind fun b => pair (aindex c t a b) H := Eq.trans rfl (Eq.refl _)
theorem o_look (t : TypeId) (m k : Operand) (ok : Bool) : aop c env (.lookup t m k ok) H = (aval env m).bind fun a => (aval env k).bind fun b => pair (alookup c H t a b ok) H := Eq.trans rfl (Eq.refl _)
theorem o_mapup (t : TypeId) (m k v : Operand) : aop c env (.mapUpdate t m k v) H = (aval env m).bind fun a => (aval env k).bind fun b => (aval env v).bind fun x => done (amapUpdate c H t a b x) := Eq.trans rfl (Eq.refl _)
theorem o_ext (x : Operand) (i : Nat) : aop c env (.extract x i) H = (aval env x).bind fun v => match v with | .tuple l => pair (l[i]?) H | _ => none := Eq.trans rfl (Eq.refl _)
theorem o_call (f : FuncId) (as : Array Operand) (ts : Array TypeId) : aop c env (.call { callee := .value (.func f), args := as, argTypes := ts }) H = (avals env as.toList).bind fun args => if hasBody c.P f = true then some (.call f args, H) else (aext c.P f args).map fun v => (.val v, H) := by
  simp only [aop, acallee, aval, Option.bind_some, List.nil_append, List.append_nil]
theorem o_built (b : Builtin) (as : Array Operand) (ts : Array TypeId) : aop c env (.call { callee := .builtin b, args := as, argTypes := ts }) H = (avals env as.toList).bind fun args => both (abuiltin c H b ts.toList args) := by
  simp only [aop, acallee]
  congr 1
theorem bu_len (t : TypeId) (ts : List TypeId) (x : AV) : abuiltin c H .len (t :: ts) [x] = (alen c H t x).map fun v => (v, H) := Eq.trans rfl (Eq.refl _)
def appOf (d : Option TypeDesc) (r : Option (AV × AHeap)) : Option (AV × AHeap) := d.bind fun d => match d with | .int _ => none | _ => r
theorem bu_app (t t2 : TypeId) (ts : List TypeId) (s x : AV) : abuiltin c H .append (t :: t2 :: ts) [s, x] = appOf (c.P.underlying t2) (aappend c H t s x) := Eq.trans rfl (Eq.refl _)
theorem app_sl (e : TypeId) (r : Option (AV × AHeap)) : appOf (some (.slice e)) r = r := Eq.trans rfl (Eq.refl _)
theorem bu_copy (t : TypeId) (ts : List TypeId) (d s : AV) : abuiltin c H .copy (t :: ts) [d, s] = acopy c H t d s := Eq.trans rfl (Eq.refl _)
theorem bu_del (t : TypeId) (ts : List TypeId) (m k : AV) : abuiltin c H .delete (t :: ts) [m, k] = (adelete c H t m k).map fun H' => (.tuple [], H') := Eq.trans rfl (Eq.refl _)
theorem bu_max (ts : List TypeId) (l : List AV) : abuiltin c H .max ts l = (aminmax true l).map fun v => (v, H) := by cases ts <;> rfl
theorem bu_min (ts : List TypeId) (l : List AV) : abuiltin c H .min ts l = (aminmax false l).map fun v => (v, H) := by cases ts <;> rfl
theorem o_inv (x : Operand) (name : String) (as : Array Operand) (ts : Array TypeId) : aop c env (.call { callee := .invoke x name, args := as, argTypes := ts }) H = (avals env as.toList).bind fun args => (aval env x).bind fun r => match r with
    | .iface t v => (amethod c H t v name).bind fun p => if hasBody c.P p.1 = true then some (.call p.1 (p.2 :: args), H) else none
    | _ => none := by
  simp only [aop, acallee]
  cases avals env as.toList with
  | none => rfl
  | some args => cases aval env x with
    | none => rfl
    | some r => cases r <;> rfl
theorem o_mkif (t : TypeId) (x : Operand) : aop c env (.makeInterface t x) H = (aval env x).bind fun a => (c.P.underlying t).bind fun d => match d with
    | .interface _ => none
    | _ => some (.val (.iface t a), H) := Eq.trans rfl (Eq.refl _)
theorem o_ta (x : Operand) (xt t : TypeId) (ok : Bool) : aop c env (.typeAssert x xt t ok) H = (aval env x).bind fun v => (c.P.underlying t).bind fun d => match d, v with
    | .interface _, _ => none
    | _, .iface u w => if u = t then some (.val (if ok then .tuple [w, .bool true] else w), H) else if ok then (zeroAV c.P t).map fun z => (.val (.tuple [z, .bool false]), H) else none
    | _, .niliface => if ok then (zeroAV c.P t).map fun z => (.val (.tuple [z, .bool false]), H) else none
    | _, _ => none := Eq.trans rfl (Eq.refl _)
theorem o_ment (t : TypeId) (m k : Operand) : aop c env (.mapEntry t m k) H = (aval env m).bind fun a => (aval env k).bind fun b => both (amapEntry c H t a b) := Eq.trans rfl (Eq.refl _)
theorem o_est (t : TypeId) (m s v : Operand) : aop c env (.entryStore t m s v) H = (aval env m).bind fun a => (aval env s).bind fun b => (aval env v).bind fun x => done (aentryStore H a b x) := Eq.trans rfl (Eq.refl _)
end ops

/-! ### maps with their entries' order -/
structure ML (H : AHeap) (m : Nat) (l : List (Int × Int × Nat)) (clock : Nat) : Prop where
  at_ : hat H m = some (.map (l.map enc) clock)
  nodup : (l.map (·.1)).Nodup
  born : ∀ e ∈ l, e.2.2 < clock
  bnd : (l.map (·.2.2)).Nodup
theorem ML.keep {m : Nat} {l : List (Int × Int × Nat)} {k : Nat} (h : ML H m l k) {H' : AHeap} (e : hat H' m = hat H m) : ML H' m l k := ⟨by rw [e]; exact h.at_, h.nodup, h.born, h.bnd⟩
theorem ML.im {m : Nat} {l : List (Int × Int × Nat)} {k : Nat} (h : ML H m l k) : IM H m (mget l) := ⟨l, k, h.at_, h.nodup, fun _ => rfl⟩
theorem ML.lt {m : Nat} {l : List (Int × Int × Nat)} {k : Nat} (h : ML H m l k) : m < H.length := hat_lt h.at_
theorem idx_none {k : Int} {l : List (Int × Int × Nat)} (h : mget l k = none) : (l.findIdx? fun e => e.1 == k) = none := by
  cases hq : l.findIdx? (fun e => e.1 == k) with
  | none => rfl
  | some j =>
    obtain ⟨e, he, hk⟩ := idx_key hq
    rw [mget_idx, hq, Option.bind_some, he] at h
    cases h
theorem stamp_last {k : Int} {v : AV} : ∀ (l : List (Int × Int × Nat)) (j clock : Nat), (∀ e ∈ l, e.2.2 < clock) → stampAt (clock : Int) (l.map enc ++ [(.int .i64 k, v, clock)]) j = some (j + l.length)
  | [], j, clock, _ => by simp [stampAt]
  | e :: r, j, clock, h => by
    have h1 : e.2.2 < clock := h e (by simp)
    have h2 : ((e.2.2 : Int) == (clock : Int)) = false := by simp; omega
    simp only [List.map_cons, List.cons_append, stampAt, enc, h2, Bool.false_eq_true, if_false]
    rw [stamp_last r (j + 1) clock (fun x hx => h x (by simp [hx]))]
    simp; omega
/-- a new entry, put and then stored into -/
theorem ML.ent {m : Nat} {l : List (Int × Int × Nat)} {clock : Nat} (h : ML H m l clock) {t kt vt : TypeId} (ht : c.P.underlying t = some (.map kt vt)) (hk : c.P.underlying kt = some (.int .i64)) (hz : zeroAV c.P vt = some (.int .i64 0)) {k : Int} (v : Int) (h0 : mget l k = none) :
    amapEntry c H t (.map (.own m)) (.int .i64 k) = some (.tuple [.int .i64 0, .int .i64 clock], H.set m (some (.map (l.map enc ++ [(.int .i64 k, .int .i64 0, clock)]) (clock + 1)))) ∧
    aentryStore (H.set m (some (.map (l.map enc ++ [(.int .i64 k, .int .i64 0, clock)]) (clock + 1)))) (.map (.own m)) (.int .i64 clock) (.int .i64 v) = some (H.set m (some (.map ((l ++ [(k, v, clock)]).map enc) (clock + 1)))) ∧
    ML (H.set m (some (.map ((l ++ [(k, v, clock)]).map enc) (clock + 1)))) m (l ++ [(k, v, clock)]) (clock + 1) := by
  have hm := h.lt
  have hno : ∀ e ∈ l, e.1 ≠ k := by
    intro e he hk'
    have := mget_mem h.nodup he
    rw [hk', h0] at this; cases this
  refine ⟨?_, ?_, ⟨hat_eq _ hm, ?_, ?_, ?_⟩⟩
  · simp only [amapEntry, ht, Option.bind_some, hk, keyOk, if_true, h.at_, find_enc, idx_none h0, Option.bind_none, hz, Option.map_some]
  · simp only [aentryStore, hat_eq _ hm, stamp_last l 0 clock h.born, Option.map_some, List.set_set]
    congr 4
    rw [Nat.zero_add, List.map_append]
    apply List.ext_getElem?
    intro i
    rw [List.getElem?_modify]
    by_cases hi : l.length = i
    · subst hi
      rw [List.getElem?_append_right (by simp), List.getElem?_append_right (by simp)]
      simp [enc]
    · rcases Nat.lt_or_ge i l.length with h1 | h1
      · rw [List.getElem?_append_left (by simpa using h1), List.getElem?_append_left (by simpa using h1)]
        simp only [if_neg hi]
        cases (l.map enc)[i]? <;> rfl
      · rw [List.getElem?_eq_none (by simp; omega), List.getElem?_eq_none (by simp; omega)]; rfl
  · rw [List.map_append, List.nodup_append]
    refine ⟨h.nodup, by simp, ?_⟩
    intro a ha b hb e
    obtain ⟨x, hx, rfl⟩ := List.mem_map.1 ha
    simp at hb
    exact hno x hx (e.trans hb)
  · intro e he
    rcases List.mem_append.1 he with h1 | h1
    · have := h.born e h1; omega
    · simp at h1; subst h1; simp
  · rw [List.map_append, List.nodup_append]
    refine ⟨h.bnd, by simp, ?_⟩
    intro a ha b hb e
    obtain ⟨x, hx, rfl⟩ := List.mem_map.1 ha
    simp at hb
    have := h.born x hx; omega
/-- an entry taken out -/
theorem ML.del {m : Nat} {l : List (Int × Int × Nat)} {clock : Nat} (h : ML H m l clock) {t kt vt : TypeId} (ht : c.P.underlying t = some (.map kt vt)) (hk : c.P.underlying kt = some (.int .i64)) {k v : Int} (h0 : mget l k = some v) :
    ∃ l', adelete c H t (.map (.own m)) (.int .i64 k) = some (H.set m (some (.map (l'.map enc) clock))) ∧ ML (H.set m (some (.map (l'.map enc) clock))) m l' clock ∧ l'.length + 1 = l.length ∧ ∀ e, e ∈ l' ↔ e ∈ l ∧ e.1 ≠ k := by
  have hm := h.lt
  cases hq : l.findIdx? (fun e => e.1 == k) with
  | none => rw [mget_idx, hq] at h0; cases h0
  | some j =>
    obtain ⟨e, he, hek⟩ := idx_key hq
    have hjl : j < l.length := (List.getElem?_eq_some_iff.1 he).1
    have hej : l[j] = e := (List.getElem?_eq_some_iff.1 he).2
    refine ⟨l.eraseIdx j, ?_, ⟨hat_eq _ hm, ?_, ?_, ?_⟩, by rw [List.length_eraseIdx_of_lt hjl]; omega, ?_⟩
    · simp only [adelete, ht, Option.bind_some, hk, keyOk, if_true, h.at_, find_enc, hq, he, Option.map_some, Nat.zero_add, er_map]
    · rw [← er_map]; exact h.nodup.sublist (List.eraseIdx_sublist _ _)
    · intro x hx; exact h.born x (List.mem_of_mem_eraseIdx hx)
    · rw [← er_map]; exact h.bnd.sublist (List.eraseIdx_sublist _ _)
    · intro x
      rw [List.mem_eraseIdx_iff_getElem]
      constructor
      · rintro ⟨i, hi, hij, rfl⟩
        refine ⟨List.getElem_mem hi, fun hk' => ?_⟩
        have : (l.map (·.1))[i]'(by simpa using hi) = (l.map (·.1))[j]'(by simpa using hjl) := by simp [hk', hej, hek]
        exact hij (nodup_inj h.nodup this)
      · rintro ⟨hx, hk'⟩
        obtain ⟨i, hi, rfl⟩ := List.getElem_of_mem hx
        refine ⟨i, hi, fun e => ?_, rfl⟩
        subst e
        rw [hej, hek] at hk'; exact hk' rfl
end Go.AM
