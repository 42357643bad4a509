/- SlotsPlay (own work), the parts ahead of the loop. -/
import Derived.Test.YtiheacfcmefaeaaSt
import Derived.Test.YtiheacfcmefaeaaAmArgs2
import Derived.Test.YtiheacfcmefaeaaAmStill
namespace Go.Proofs.Ytiheacfcmefaeaa.sy
open Go.AM Go.AM.Hp
set_option linter.unusedSimpArgs false
set_option linter.unusedVariables false
variable {G : List Nat → Option (List AV)} {base : Nat} {w0 : World}
set_option maxRecDepth 100000
/-- deeds that came in: kind and id -/
structure Deeds (G : List Nat → Option (List AV)) (base : Nat) (w0 : World) (v : AV) (ds : List (Int × Int)) : Prop where
  len : ∀ H, alen (kn G base w0).c H 22 v = some (.int .i64 ds.length)
  at_ : ∀ H i (h : i < ds.length), ∃ p, aindexAddr (kn G base w0).c 22 v (.int .i64 (i : Int)) = some p ∧ aload (kn G base w0).c H 29 p = some (.agg [.int .i64 ds[i].1, .int .i64 ds[i].2])
  rng : ∀ d ∈ ds, -9223372036854775808 ≤ d.2 ∧ d.2 ≤ 9223372036854775807
theorem deeds_of {W : World} {u : AV} (g : ∃ v n, [u] = [v] ∧ SlG Try.prog W v 2 n (fun vs => ∃ a b, vs = [AV.int .i64 a, AV.int .i64 b] ∧ (Lit.int .i64 a).wf = true ∧ (Lit.int .i64 b).wf = true)) : ∃ ds, Deeds (decG Try.prog W) base w0 u ds := by
  obtain ⟨v, n, hv, h⟩ := g
  simp at hv
  subst hv
  obtain ⟨zs, z1, z2, z3, z4⟩ := h.pairs
  have rng : ∀ d ∈ zs, -9223372036854775808 ≤ d.2 ∧ d.2 ≤ 9223372036854775807 := by
    intro d hd
    have := (z3 d hd).2
    simp only [Lit.wf, IntKind.min, IntKind.max, IntKind.signed, IntKind.bits, Bool.and_eq_true, decide_eq_true_eq] at this
    simp at this
    omega
  refine ⟨zs, ?_, ?_, rng⟩
  · intro H
    rcases z4 with ⟨h0, rfl | ⟨a, rfl⟩⟩ | ⟨path, cs, rfl, hG, hc⟩
    · have : zs = [] := List.length_eq_zero_iff.1 (by omega)
      subst this; simp [alen, kn_P, Try.underlying22]
    · have : zs = [] := List.length_eq_zero_iff.1 (by omega)
      subst this; simp [alen, kn_P, Try.underlying22]
    · simp only [alen, kn_P, Try.underlying22, Option.bind_some, z1]
  · intro H i hi
    rcases z4 with ⟨h0, _⟩ | ⟨path, cs, rfl, hG, hc⟩
    · omega
    · obtain ⟨c1, c2⟩ := hc i hi
      refine ⟨.ptr (.ext path) (i * 2), ?_, ?_⟩
      · simp only [aindexAddr, kn_P, Try.underlying22, Option.bind_some, sz29]
        rw [if_pos ⟨by trivial, by omega, by omega⟩]
        simp
      · have hG' : (kn (decG Try.prog W) base w0).c.G path = some cs := hG
        simp only [aload, kn_P, ag29, Option.bind_some, if_true, sz29, rd, rowOf, hG', if_pos c1, c2, Option.map_some]
theorem wr_box {H : AHeap} {t e : Nat} {cs vs : List AV} (hl : vs.length = cs.length) (h1 : vs.all AV.one = true) : wr (hnew H (.row t e cs)) (.own H.length) 0 vs = some (hnew H (.row t e vs)) := by
  simp only [wr, hat_nn]
  rw [if_pos ⟨by omega, h1⟩]
  simp only [setSeg, List.take_zero, List.nil_append, Nat.zero_add, hl, List.drop_length, List.append_nil, hnew]
  simp
/-- the tables of the document's answer, beside the slots -/
structure PS (H : AHeap) (s : Nat) (o : Tb) (k : Nat) (f : Int → Option Int) (c : Nat) (ba bn : Nat) (ats : List Int) (ons : List Bool) : Prop where
  t : T H s o k f c
  al : ats.length = k
  ol : ons.length = k
  ha : hat H ba = some (.row 3 1 (ints ats))
  hn : hat H bn = some (.row 4 1 (ons.map AV.bool))
  on_ : ∀ j : Nat, j < k → (ons.getD j false = true ↔ ∃ q, f q = some (j : Int))
  at_ : ∀ q (j : Nat), f q = some (j : Int) → ats.getD j 0 = q
  na : ∀ j, (j = s ∨ Own o j) → j ≠ ba ∧ j ≠ bn
variable {H : AHeap} {s : Nat} {o : Tb} {k : Nat} {f : Int → Option Int} {c ba bn : Nat} {ats : List Int} {ons : List Bool}
theorem PS.lda (h : PS H s o k f c ba bn ats ons) {j : Nat} (hj : j < k) : aload (kn G base w0).c H 3 (.ptr (.own ba) j) = some (.int .i64 (ats.getD j 0)) :=
  own_ld h.ha (by simp [ints, List.getD_eq_getElem?_getD, List.getElem?_eq_getElem (show j < ats.length by rw [h.al]; exact hj)]) ag3
theorem PS.ldn (h : PS H s o k f c ba bn ats ons) {j : Nat} (hj : j < k) : aload (kn G base w0).c H 4 (.ptr (.own bn) j) = some (.bool (ons.getD j false)) :=
  own_ld h.hn (by simp [List.getD_eq_getElem?_getD, List.getElem?_eq_getElem (show j < ons.length by rw [h.ol]; exact hj)]) ag4
theorem PS.keep {H' : AHeap} (h : PS H s o k f c ba bn ats ons) (hk : Keep H H' (fun _ => False)) : PS H' s o k f c ba bn ats ons :=
  ⟨h.t.keepF hk, h.al, h.ol, by rw [hk.2 _ (hat_lt h.ha) id]; exact h.ha, by rw [hk.2 _ (hat_lt h.hn) id]; exact h.hn, h.on_, h.at_, h.na⟩
theorem PS.ne (h : PS H s o k f c ba bn ats ons) : ba ≠ bn := by
  intro e; have h1 := h.ha; rw [e, h.hn] at h1; cases h1
theorem ix27 {b n i : Nat} (hi : i < n) : aindexAddr (kn G base w0).c 27 (.slice (.own b) 1 0 n) (.int .i64 (i : Int)) = some (.ptr (.own b) i) := own_ix Try.underlying27 sz4 hi
theorem ix26 {b n i : Nat} (hi : i < n) : aindexAddr (kn G base w0).c 26 (.slice (.own b) 1 0 n) (.int .i64 (i : Int)) = some (.ptr (.own b) i) := own_ix Try.underlying26 sz3 hi
/-- what the look through the tables comes to -/
def Seen (k : Nat) (f : Int → Option Int) (id slot free : Int) : Prop :=
  ((∃ x : Nat, slot = x ∧ x < k ∧ f id = some (x : Int)) ∨ (slot = -1 ∧ f id = none)) ∧
  ((∃ y : Nat, free = y ∧ y < k ∧ (∀ q, f q ≠ some (y : Int)) ∧ ∀ z : Nat, z < y → ∃ q, f q = some (z : Int)) ∨ (free = -1 ∧ ∀ y : Nat, y < k → ∃ q, f q = some (y : Int)))
def Look (k : Nat) (ats : List Int) (ons : List Bool) (id : Int) (m : Nat) (slot free : Int) : Prop :=
  ((∃ x : Nat, slot = x ∧ m ≤ x ∧ x < k ∧ ons.getD x false = true ∧ ats.getD x 0 = id) ∨ (slot = -1 ∧ ∀ x, m ≤ x → x < k → ons.getD x false = true → ats.getD x 0 ≠ id)) ∧
  ((∃ y : Nat, free = y ∧ m ≤ y ∧ y < k ∧ ons.getD y false = false ∧ ∀ z, m ≤ z → z < y → ons.getD z false = true) ∨ (free = -1 ∧ ∀ y, m ≤ y → y < k → ons.getD y false = true))
theorem Look.seen (h : PS H s o k f c ba bn ats ons) {id slot free : Int} (hl : Look k ats ons id 0 slot free) : Seen k f id slot free := by
  obtain ⟨h1, h2⟩ := hl
  refine ⟨?_, ?_⟩
  · rcases h1 with ⟨x, e, _, hx, ho, ha⟩ | ⟨e, hno⟩
    · obtain ⟨q, hq⟩ := (h.on_ x hx).1 ho
      have := h.at_ q x hq
      rw [ha] at this
      subst this
      exact .inl ⟨x, e, hx, hq⟩
    · refine .inr ⟨e, ?_⟩
      cases hf : f id with
      | none => rfl
      | some y =>
        obtain ⟨n, rfl, hn⟩ := h.t.rng hf
        exact absurd (h.at_ id n hf) (hno n (by omega) hn ((h.on_ n hn).2 ⟨id, hf⟩))
  · rcases h2 with ⟨y, e, _, hy, ho, hz⟩ | ⟨e, hall⟩
    · refine .inl ⟨y, e, hy, fun q hq => ?_, fun z hz' => (h.on_ z (by omega)).1 (hz z (by omega) hz')⟩
      have := (h.on_ y hy).2 ⟨q, hq⟩
      rw [ho] at this; cases this
    · exact .inr ⟨e, fun y hy => (h.on_ y hy).1 (hall y (by omega) hy)⟩
theorem Look.start (id : Int) : Look k ats ons id k (-1) (-1) := ⟨.inr ⟨rfl, fun x h1 h2 => by omega⟩, .inr ⟨rfl, fun x h1 h2 => by omega⟩⟩
theorem Look.off {id slot free : Int} {m : Nat} (h : Look k ats ons id (m + 1) slot free) (hm : m < k) (ho : ons.getD m false = false) : Look k ats ons id m slot m := by
  obtain ⟨h1, h2⟩ := h
  refine ⟨?_, .inl ⟨m, rfl, by omega, hm, ho, fun z h3 h4 => by omega⟩⟩
  rcases h1 with ⟨x, e, a1, a2, a3, a4⟩ | ⟨e, hno⟩
  · exact .inl ⟨x, e, by omega, a2, a3, a4⟩
  · refine .inr ⟨e, fun x a1 a2 a3 => ?_⟩
    by_cases hx : x = m
    · subst hx; rw [ho] at a3; cases a3
    · exact hno x (by omega) a2 a3
theorem Look.on {id slot free : Int} {m : Nat} (h : Look k ats ons id (m + 1) slot free) (hm : m < k) (ho : ons.getD m false = true) : Look k ats ons id m (if ats.getD m 0 = id then (m : Int) else slot) free := by
  obtain ⟨h1, h2⟩ := h
  refine ⟨?_, ?_⟩
  · split
    · rename_i he
      exact .inl ⟨m, rfl, by omega, hm, ho, he⟩
    · rename_i he
      rcases h1 with ⟨x, e, a1, a2, a3, a4⟩ | ⟨e, hno⟩
      · exact .inl ⟨x, e, by omega, a2, a3, a4⟩
      · refine .inr ⟨e, fun x a1 a2 a3 => ?_⟩
        by_cases hx : x = m
        · subst hx; exact he
        · exact hno x (by omega) a2 a3
  · rcases h2 with ⟨y, e, a1, a2, a3, a4⟩ | ⟨e, hall⟩
    · refine .inl ⟨y, e, by omega, a2, a3, fun z b1 b2 => ?_⟩
      by_cases hz : z = m
      · subst hz; exact ho
      · exact a4 z (by omega) b2
    · refine .inr ⟨e, fun y a1 a2 => ?_⟩
      by_cases hy : y = m
      · subst hy; exact ho
      · exact hall y (by omega) a2
theorem PS.putU {H2 : AHeap} {id : Int} {j : Nat} (hP : PS H s o k f c ba bn ats ons) (hT : T H2 s o k (upd1 f id (some (j : Int))) (c + 1)) (hK : Keep H H2 (Own o)) (hj : j < k) (hno : f id = none) (hfree : ∀ q, f q ≠ some (j : Int)) :
    ∃ H3 H4, wr H2 (.own bn) j [.bool true] = some H3 ∧ wr H3 (.own ba) j [.int .i64 id] = some H4 ∧ PS H4 s o k (upd1 f id (some (j : Int))) (c + 1) ba bn (ats.set j id) (ons.set j true) ∧ ∀ b, b ≠ ba → b ≠ bn → hat H3 b = hat H2 b ∧ hat H4 b = hat H2 b := by
  have la := hat_lt hP.ha
  have ln := hat_lt hP.hn
  have ha2 : hat H2 ba = some (.row 3 1 (ints ats)) := (hK.2 ba la (fun e => (hP.na _ (.inr e)).1 rfl)).trans hP.ha
  have hn2 : hat H2 bn = some (.row 4 1 (ons.map AV.bool)) := (hK.2 bn ln (fun e => (hP.na _ (.inr e)).2 rfl)).trans hP.hn
  have hne := hP.ne
  have w1 := wr_own hn2 (off := j) (v := .bool true) (by rw [List.length_map, hP.ol]; exact hj) rfl
  have ha3 : hat (H2.set bn (some (.row 4 1 ((ons.map AV.bool).set j (.bool true))))) ba = some (.row 3 1 (ints ats)) := (hat_ne _ hne).trans ha2
  have w2 := wr_own ha3 (off := j) (v := .int .i64 id) (by rw [ints_len, hP.al]; exact hj) rfl
  have l2 := hK.1
  refine ⟨_, _, w1, w2, ⟨hT.keep fun b hb => ?_, by rw [List.length_set]; exact hP.al, by rw [List.length_set]; exact hP.ol, ?_, ?_, ?_, ?_, hP.na⟩, fun b h1 h2 => ⟨hat_ne _ h2, (hat_ne _ h1).trans (hat_ne _ h2)⟩⟩
  · obtain ⟨q1, q2⟩ := hP.na b hb
    rw [hat_ne _ q1, hat_ne _ q2]
  · rw [hat_eq _ (by rw [List.length_set]; omega), ints, ints, List.map_set]
  · rw [hat_ne _ (fun e => hne e.symm), hat_eq _ (by omega), List.map_set]
  · intro i hi
    rw [getD_set]
    by_cases hij : j = i
    · subst hij
      rw [if_pos ⟨rfl, by rw [hP.ol]; exact hj⟩]
      exact ⟨fun _ => ⟨id, by simp [upd1]⟩, fun _ => rfl⟩
    · rw [if_neg (fun e => hij e.1), hP.on_ i hi]
      constructor
      · rintro ⟨q, hq⟩
        refine ⟨q, ?_⟩
        unfold upd1
        rw [if_neg (fun e => by subst e; rw [hno] at hq; cases hq)]
        exact hq
      · rintro ⟨q, hq⟩
        unfold upd1 at hq
        split at hq
        · simp only [Option.some.injEq] at hq; omega
        · exact ⟨q, hq⟩
  · intro q i hq
    unfold upd1 at hq
    rw [getD_set]
    split at hq
    · rename_i e
      simp only [Option.some.injEq] at hq
      rw [if_pos ⟨by omega, by rw [hP.al]; exact hj⟩, e]
    · rw [if_neg (fun e => hfree q (by rw [hq, e.1]))]
      exact hP.at_ q i hq
theorem PS.dropU {H2 : AHeap} {id : Int} {x b' c' : Nat} (hP : PS H s o k f c ba bn ats ons) (hT : T H2 s ⟨o.bi, o.bu, o.m, o.pf, b'⟩ k (upd1 f id none) c') (hb : b' = o.bf ∨ H.length ≤ b') (hK : Keep H H2 (Own o)) (hx : f id = some (x : Int)) (hxk : x < k) :
    ∃ H3, wr H2 (.own bn) x [.bool false] = some H3 ∧ PS H3 s ⟨o.bi, o.bu, o.m, o.pf, b'⟩ k (upd1 f id none) c' ba bn ats (ons.set x false) := by
  have la := hat_lt hP.ha
  have ln := hat_lt hP.hn
  have ha2 : hat H2 ba = some (.row 3 1 (ints ats)) := (hK.2 ba la (fun e => (hP.na _ (.inr e)).1 rfl)).trans hP.ha
  have hn2 : hat H2 bn = some (.row 4 1 (ons.map AV.bool)) := (hK.2 bn ln (fun e => (hP.na _ (.inr e)).2 rfl)).trans hP.hn
  have hne := hP.ne
  have w1 := wr_own hn2 (off := x) (v := .bool false) (by rw [List.length_map, hP.ol]; exact hxk) rfl
  have l2 := hK.1
  have na' : ∀ j, (j = s ∨ Own ⟨o.bi, o.bu, o.m, o.pf, b'⟩ j) → j ≠ ba ∧ j ≠ bn := by
    rintro j (e | e | e | e | e | e)
    · exact hP.na j (.inl e)
    · exact hP.na j (.inr (.inl e))
    · exact hP.na j (.inr (.inr (.inl e)))
    · exact hP.na j (.inr (.inr (.inr (.inl e))))
    · exact hP.na j (.inr (.inr (.inr (.inr (.inl e)))))
    · simp only [] at e
      rcases hb with hb | hb
      · exact hP.na j (.inr (.inr (.inr (.inr (.inr (e.trans hb))))))
      · exact ⟨by omega, by omega⟩
  refine ⟨_, w1, ⟨hT.keep fun b hb => hat_ne _ (na' b hb).2, hP.al, by rw [List.length_set]; exact hP.ol, (hat_ne _ hne).trans ha2, ?_, ?_, ?_, na'⟩⟩
  · rw [hat_eq _ (by omega), List.map_set]
  · intro i hi
    rw [getD_set]
    by_cases hij : x = i
    · subst hij
      rw [if_pos ⟨rfl, by rw [hP.ol]; exact hxk⟩]
      refine ⟨fun h => (by cases h), ?_⟩
      rintro ⟨q, hq⟩
      unfold upd1 at hq
      split at hq
      · cases hq
      · rename_i hne'
        exact absurd (hP.t.inj hq hx) hne'
    · rw [if_neg (fun e => hij e.1), hP.on_ i hi]
      constructor
      · rintro ⟨q, hq⟩
        refine ⟨q, ?_⟩
        unfold upd1
        rw [if_neg (fun e => by subst e; rw [hx] at hq; simp only [Option.some.injEq] at hq; omega)]
        exact hq
      · rintro ⟨q, hq⟩
        unfold upd1 at hq
        split at hq
        · cases hq
        · exact ⟨q, hq⟩
  · intro q i hq
    unfold upd1 at hq
    split at hq
    · cases hq
    · exact hP.at_ q i hq
end Go.Proofs.Ytiheacfcmefaeaa.sy
