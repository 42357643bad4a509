/- slots.Put (own work). -/
import Derived.Test.YtecfofmndpgnjaaSn
namespace Go.Proofs.Ytecfofmndpgnjaa.sy
open Go.AM Go.AM.Hp
set_option linter.unusedSimpArgs false
set_option linter.unusedVariables false
variable {G : List Nat → Option (List AV)} {base : Nat} {w0 : World}
set_option maxRecDepth 100000
variable {H : AHeap} {s : Nat} {o : Tb} {k : Nat} {ids : List Int} {us : List Bool} {l : List (Int × Int × Nat)} {clk : Nat} {a : List Int}
def Own (o : Tb) (j : Nat) : Prop := j = o.bi ∨ j = o.bu ∨ j = o.m ∨ j = o.pf ∨ j = o.bf
theorem Sts.apart (h : Sts H s o k ids us l clk a) : s ≠ o.bi ∧ s ≠ o.bu ∧ s ≠ o.m ∧ s ≠ o.pf ∧ s ≠ o.bf ∧ o.bi ≠ o.bu ∧ o.bi ≠ o.m ∧ o.bi ≠ o.pf ∧ o.bu ≠ o.m ∧ o.bu ≠ o.pf ∧ o.bu ≠ o.bf ∧ o.m ≠ o.pf ∧ o.m ≠ o.bf := by
  obtain ⟨cells, c1, _⟩ := h.fr.row
  have r := h.row; have r1 := h.hi; have r2 := h.hu; have r3 := h.ml.at_; have r4 := h.fr.var
  refine ⟨?_, ?_, ?_, ?_, ?_, ?_, ?_, ?_, ?_, ?_, ?_, ?_, ?_⟩ <;> intro e
  · rw [e, r1] at r; cases r
  · rw [e, r2] at r; cases r
  · rw [e, r3] at r; cases r
  · rw [e, r4] at r; cases r
  · rw [e, c1] at r; cases r
  · rw [e, r2] at r1; cases r1
  · rw [e, r3] at r1; cases r1
  · rw [e, r4] at r1; cases r1
  · rw [e, r3] at r2; cases r2
  · rw [e, r4] at r2; cases r2
  · rw [e, c1] at r2; cases r2
  · rw [e, r4] at r3; cases r3
  · rw [e, c1] at r3; cases r3
theorem getD_set {α : Type} (l : List α) (n j : Nat) (v d : α) : (l.set n v).getD j d = if n = j ∧ n < l.length then v else l.getD j d := by
  simp only [List.getD_eq_getElem?_getD, List.getElem?_set]
  by_cases h : n = j
  · subst h
    by_cases h2 : n < l.length
    · simp [h2]
    · simp [h2]
  · simp [h]
/-- one is put in -/
theorem Inv.put (hI : Inv k ids us l a) (hil : ids.length = k) (hul : us.length = k) {id : Int} (hid : -9223372036854775808 ≤ id ∧ id ≤ 9223372036854775807) (hno : mget l id = none) {n : Nat} {a' : List Int} (hp : ((n : Int) :: a').Perm a) (hh : Heap a' a'.length) (c : Nat) :
    n < k ∧ Inv k (ids.set n id) (us.set n true) (l ++ [(id, (n : Int), c)]) a' := by
  obtain ⟨n', e1, hn, hu⟩ := (hI.free n).1 (hp.mem_iff.1 (by simp))
  obtain rfl : n = n' := by omega
  have hnd := (hp.nodup_iff).2 hI.nd
  obtain ⟨nd1, nd2⟩ := List.nodup_cons.1 hnd
  have hnk : ∀ e ∈ l, e.1 ≠ id := by
    intro e he heq
    have := List.find?_eq_none.1 (Option.map_eq_none_iff.1 hno) e he
    simp [heq] at this
  refine ⟨hn, hI.k4, ?_, ?_, ?_, nd2, hh, ?_, ?_⟩
  · intro e he
    rcases List.mem_append.1 he with he | he
    · obtain ⟨j, h1, h2, h3, h4⟩ := hI.fwd e he
      have hjn : n ≠ j := by intro e'; subst e'; rw [hu] at h4; cases h4
      exact ⟨j, h1, h2, by rw [getD_set, if_neg (by omega)]; exact h3, by rw [getD_set, if_neg (by omega)]; exact h4⟩
    · simp at he; subst he
      exact ⟨n, rfl, hn, by rw [getD_set, if_pos ⟨rfl, by omega⟩], by rw [getD_set, if_pos ⟨rfl, by omega⟩]⟩
  · intro j hj hju
    by_cases hjn : n = j
    · subst hjn
      exact ⟨c, by rw [getD_set, if_pos ⟨rfl, by omega⟩]; simp⟩
    · rw [getD_set, if_neg (by omega)] at hju ⊢
      obtain ⟨b, hb⟩ := hI.bwd j hj hju
      exact ⟨b, List.mem_append_left _ hb⟩
  · intro x
    have hx : x ∈ a ↔ x = n ∨ x ∈ a' := by rw [← hp.mem_iff]; simp
    constructor
    · intro hxa
      obtain ⟨j, h1, h2, h3⟩ := (hI.free x).1 (hx.2 (.inr hxa))
      have hjn : n ≠ j := by rintro rfl; subst h1; exact nd1 hxa
      exact ⟨j, h1, h2, by rw [getD_set, if_neg (by omega)]; exact h3⟩
    · rintro ⟨j, h1, h2, h3⟩
      by_cases hjn : n = j
      · subst hjn; rw [getD_set, if_pos ⟨rfl, by omega⟩] at h3; cases h3
      · rw [getD_set, if_neg (by omega)] at h3
        rcases hx.1 ((hI.free x).2 ⟨j, h1, h2, h3⟩) with h | h
        · omega
        · exact h
  · have := hp.length_eq; have := hI.cnt; simp at *; omega
  · intro e he
    rcases List.mem_append.1 he with he | he
    · exact hI.rng e he
    · simp at he; subst he; exact hid
def PutS (id : Int) (H : AHeap) (s : Nat) (o : Tb) (k : Nat) (ids : List Int) (us : List Bool) (l : List (Int × Int × Nat)) (clk : Nat) (a : List Int) : AV → AHeap → Prop := fun r H' =>
  (∃ x, mget l id = some x ∧ r = .tuple [.int .i64 0, .int .i64 4] ∧ H' = H) ∨ (mget l id = none ∧ a = [] ∧ r = .tuple [.int .i64 0, .int .i64 6] ∧ H' = H) ∨
  (mget l id = none ∧ ∃ (n : Nat) (a' : List Int), n < k ∧ ((n : Int) :: a').Perm a ∧ (∀ y ∈ a, (n : Int) ≤ y) ∧ r = .tuple [.int .i64 n, .int .i64 0] ∧ Sts H' s o k (ids.set n id) (us.set n true) (l ++ [(id, (n : Int), clk)]) (clk + 1) a' ∧ Inv k (ids.set n id) (us.set n true) (l ++ [(id, (n : Int), clk)]) a' ∧ Keep H H' (Own o))
theorem put_ok (hT : Sts H s o k ids us l clk a) (hI : Inv k ids us l a) {id : Int} (hid : -9223372036854775808 ≤ id ∧ id ≤ 9223372036854775807) : ∃ r H', Pt (kn G base w0) 29 [.ptr (.own s) 0, .int .i64 id] H r H' ∧ PutS id H s o k ids us l clk a r H' := by
  have l2 := own_ld (G := G) (base := base) (w0 := w0) (i := 2) hT.row rfl ag75
  have l3 := own_ld (G := G) (base := base) (w0 := w0) (i := 3) hT.row rfl ag76
  have lk := hT.ml.im.look (c := (kn G base w0).c) Try.underlying75 Try.underlying3 za3 id true
  refine Pt.fn (n := 62) (rs := [.tmp 4, .tmp 5]) Try.func29 (b := _) rfl rfl rfl (by decide) ?_
  refine D.sq (D.region (T := none_) (by simp only [rulesA, numbered, ayield, mapO, constAV, scAV, optval, abin, aint, acmp, aconv, aun, aeq, aminmax, afieldAddr, abuild, anew, fieldPlaces, afill, setSeg, kn_P, Option.bind_some, Option.bind_none, Option.map_some, Option.isSome_some, if_true, if_false, List.getElem?_toArray, List.getElem?_cons_zero, List.getElem?_cons_succ, beq_self_eq_true, Bool.not_true, Bool.not_false, List.length_cons, List.length_nil, Bool.false_eq_true, decide_true, decide_false, and_self, and_true, true_and, List.all_cons, List.all_nil, Bool.and_self, Bool.and_true, List.take_zero, List.take_succ_cons, List.drop_zero, List.drop_succ_cons, List.nil_append, List.cons_append, Nat.zero_add, Nat.le_refl, bne_self_eq_false, Nat.reduceAdd, Nat.reduceMul, Nat.reducePow, Nat.reduceSub, Nat.reduceEqDiff, Nat.reduceLT, Nat.reduceLeDiff, Int.reduceEq, Int.reduceNe, Int.reduceLT, Int.reduceLE, Int.reduceAdd, Int.reduceSub, Int.reduceToNat, Int.reduceBNe, Int.reduceBEq, tyR]; with_reducible rfl) ?_)
  simp only [Ks_n, Ks_e, Ks_r, Kb_n, Kb_e, Kb_r, Kl_n, Kl_e, Kl_r, Kf_r, Kf_n, Kc_n, Kx_n, Kx_e, Kx_r, Kb_ne, ne_eq, Nat.reduceEqDiff, not_false_eq_true]
  refine D.sq (D.sq (D.region (T := none_) (by simp only [rulesA, numbered, ayield, mapO, constAV, scAV, optval, abin, aint, acmp, aconv, aun, aeq, aminmax, afieldAddr, abuild, anew, fieldPlaces, afill, setSeg, kn_P, Option.bind_some, Option.bind_none, Option.map_some, Option.isSome_some, if_true, if_false, List.getElem?_toArray, List.getElem?_cons_zero, List.getElem?_cons_succ, beq_self_eq_true, Bool.not_true, Bool.not_false, List.length_cons, List.length_nil, Bool.false_eq_true, decide_true, decide_false, and_self, and_true, true_and, List.all_cons, List.all_nil, Bool.and_self, Bool.and_true, List.take_zero, List.take_succ_cons, List.drop_zero, List.drop_succ_cons, List.nil_append, List.cons_append, Nat.zero_add, Nat.le_refl, bne_self_eq_false, Nat.reduceAdd, Nat.reduceMul, Nat.reducePow, Nat.reduceSub, Nat.reduceEqDiff, Nat.reduceLT, Nat.reduceLeDiff, Int.reduceEq, Int.reduceNe, Int.reduceLT, Int.reduceLE, Int.reduceAdd, Int.reduceSub, Int.reduceToNat, Int.reduceBNe, Int.reduceBEq, tyR]; with_reducible rfl) ?_))
  simp only [Ks_n, Ks_e, Ks_r, Kb_n, Kb_e, Kb_r, Kl_n, Kl_e, Kl_r, Kf_r, Kf_n, Kc_n, Kx_n, Kx_e, Kx_r, Kb_ne, ne_eq, Nat.reduceEqDiff, not_false_eq_true]
  refine D.cond (by simp only [rulesA, numbered, ayield, mapO, constAV, scAV, optval, abin, aint, acmp, aconv, aun, aeq, aminmax, afieldAddr, abuild, anew, fieldPlaces, afill, setSeg, kn_P, Option.bind_some, Option.bind_none, Option.map_some, Option.isSome_some, if_true, if_false, List.getElem?_toArray, List.getElem?_cons_zero, List.getElem?_cons_succ, beq_self_eq_true, Bool.not_true, Bool.not_false, List.length_cons, List.length_nil, Bool.false_eq_true, decide_true, decide_false, and_self, and_true, true_and, List.all_cons, List.all_nil, Bool.and_self, Bool.and_true, List.take_zero, List.take_succ_cons, List.drop_zero, List.drop_succ_cons, List.nil_append, List.cons_append, Nat.zero_add, Nat.le_refl, bne_self_eq_false, Nat.reduceAdd, Nat.reduceMul, Nat.reducePow, Nat.reduceSub, Nat.reduceEqDiff, Nat.reduceLT, Nat.reduceLeDiff, Int.reduceEq, Int.reduceNe, Int.reduceLT, Int.reduceLE, Int.reduceAdd, Int.reduceSub, Int.reduceToNat, Int.reduceBNe, Int.reduceBEq, tyR]; with_reducible rfl) (fun h => ?_) (fun h => ?_)
  · cases h
  refine D.skip ?_
  simp only [Ks_n, Ks_e, Ks_r, Kb_n, Kb_e, Kb_r, Kl_n, Kl_e, Kl_r, Kf_r, Kf_n, Kc_n, Kx_n, Kx_e, Kx_r, Kb_ne, ne_eq, Nat.reduceEqDiff, not_false_eq_true]
  refine D.sq (D.sq (D.region (T := none_) (by simp only [rulesA, numbered, ayield, mapO, constAV, scAV, optval, abin, aint, acmp, aconv, aun, aeq, aminmax, afieldAddr, abuild, anew, fieldPlaces, afill, setSeg, kn_P, Option.bind_some, Option.bind_none, Option.map_some, Option.isSome_some, if_true, if_false, List.getElem?_toArray, List.getElem?_cons_zero, List.getElem?_cons_succ, beq_self_eq_true, Bool.not_true, Bool.not_false, List.length_cons, List.length_nil, Bool.false_eq_true, decide_true, decide_false, and_self, and_true, true_and, List.all_cons, List.all_nil, Bool.and_self, Bool.and_true, List.take_zero, List.take_succ_cons, List.drop_zero, List.drop_succ_cons, List.nil_append, List.cons_append, Nat.zero_add, Nat.le_refl, bne_self_eq_false, Nat.reduceAdd, Nat.reduceMul, Nat.reducePow, Nat.reduceSub, Nat.reduceEqDiff, Nat.reduceLT, Nat.reduceLeDiff, Int.reduceEq, Int.reduceNe, Int.reduceLT, Int.reduceLE, Int.reduceAdd, Int.reduceSub, Int.reduceToNat, Int.reduceBNe, Int.reduceBEq, tyR, l2, lk]; with_reducible rfl) ?_))
  simp only [Ks_n, Ks_e, Ks_r, Kb_n, Kb_e, Kb_r, Kl_n, Kl_e, Kl_r, Kf_r, Kf_n, Kc_n, Kx_n, Kx_e, Kx_r, Kb_ne, ne_eq, Nat.reduceEqDiff, not_false_eq_true]
  refine D.sq (D.region (T := none_) (by simp only [rulesA, numbered, ayield, mapO, constAV, scAV, optval, abin, aint, acmp, aconv, aun, aeq, aminmax, afieldAddr, abuild, anew, fieldPlaces, afill, setSeg, kn_P, Option.bind_some, Option.bind_none, Option.map_some, Option.isSome_some, if_true, if_false, List.getElem?_toArray, List.getElem?_cons_zero, List.getElem?_cons_succ, beq_self_eq_true, Bool.not_true, Bool.not_false, List.length_cons, List.length_nil, Bool.false_eq_true, decide_true, decide_false, and_self, and_true, true_and, List.all_cons, List.all_nil, Bool.and_self, Bool.and_true, List.take_zero, List.take_succ_cons, List.drop_zero, List.drop_succ_cons, List.nil_append, List.cons_append, Nat.zero_add, Nat.le_refl, bne_self_eq_false, Nat.reduceAdd, Nat.reduceMul, Nat.reducePow, Nat.reduceSub, Nat.reduceEqDiff, Nat.reduceLT, Nat.reduceLeDiff, Int.reduceEq, Int.reduceNe, Int.reduceLT, Int.reduceLE, Int.reduceAdd, Int.reduceSub, Int.reduceToNat, Int.reduceBNe, Int.reduceBEq, tyR]; with_reducible rfl) ?_)
  simp only [Ks_n, Ks_e, Ks_r, Kb_n, Kb_e, Kb_r, Kl_n, Kl_e, Kl_r, Kf_r, Kf_n, Kc_n, Kx_n, Kx_e, Kx_r, Kb_ne, ne_eq, Nat.reduceEqDiff, not_false_eq_true]
  cases hm : mget l id with
  | some x =>
    refine D.cond (by simp only [rulesA, numbered, ayield, mapO, constAV, scAV, optval, abin, aint, acmp, aconv, aun, aeq, aminmax, afieldAddr, abuild, anew, fieldPlaces, afill, setSeg, kn_P, Option.bind_some, Option.bind_none, Option.map_some, Option.isSome_some, if_true, if_false, List.getElem?_toArray, List.getElem?_cons_zero, List.getElem?_cons_succ, beq_self_eq_true, Bool.not_true, Bool.not_false, List.length_cons, List.length_nil, Bool.false_eq_true, decide_true, decide_false, and_self, and_true, true_and, List.all_cons, List.all_nil, Bool.and_self, Bool.and_true, List.take_zero, List.take_succ_cons, List.drop_zero, List.drop_succ_cons, List.nil_append, List.cons_append, Nat.zero_add, Nat.le_refl, bne_self_eq_false, Nat.reduceAdd, Nat.reduceMul, Nat.reducePow, Nat.reduceSub, Nat.reduceEqDiff, Nat.reduceLT, Nat.reduceLeDiff, Int.reduceEq, Int.reduceNe, Int.reduceLT, Int.reduceLE, Int.reduceAdd, Int.reduceSub, Int.reduceToNat, Int.reduceBNe, Int.reduceBEq, tyR, hm, Option.isSome_some]; with_reducible rfl) (fun h => ?_) (fun h => ?_)
    rotate_left
    · cases h
    refine D.sq (D.region (T := none_) (by simp only [rulesA, numbered, ayield, mapO, constAV, scAV, optval, abin, aint, acmp, aconv, aun, aeq, aminmax, afieldAddr, abuild, anew, fieldPlaces, afill, setSeg, kn_P, Option.bind_some, Option.bind_none, Option.map_some, Option.isSome_some, if_true, if_false, List.getElem?_toArray, List.getElem?_cons_zero, List.getElem?_cons_succ, beq_self_eq_true, Bool.not_true, Bool.not_false, List.length_cons, List.length_nil, Bool.false_eq_true, decide_true, decide_false, and_self, and_true, true_and, List.all_cons, List.all_nil, Bool.and_self, Bool.and_true, List.take_zero, List.take_succ_cons, List.drop_zero, List.drop_succ_cons, List.nil_append, List.cons_append, Nat.zero_add, Nat.le_refl, bne_self_eq_false, Nat.reduceAdd, Nat.reduceMul, Nat.reducePow, Nat.reduceSub, Nat.reduceEqDiff, Nat.reduceLT, Nat.reduceLeDiff, Int.reduceEq, Int.reduceNe, Int.reduceLT, Int.reduceLE, Int.reduceAdd, Int.reduceSub, Int.reduceToNat, Int.reduceBNe, Int.reduceBEq, tyR]; with_reducible rfl) ?_)
    simp only [Ks_n, Ks_e, Ks_r, Kb_n, Kb_e, Kb_r, Kl_n, Kl_e, Kl_r, Kf_r, Kf_n, Kc_n, Kx_n, Kx_e, Kx_r, Kb_ne, ne_eq, Nat.reduceEqDiff, not_false_eq_true]
    refine D.ret ?_
    simp only [Ks_n, Ks_e, Ks_r, Kb_n, Kb_e, Kb_r, Kl_n, Kl_e, Kl_r, Kf_r, Kf_n, Kc_n, Kx_n, Kx_e, Kx_r, Kb_ne, ne_eq, Nat.reduceEqDiff, not_false_eq_true]
    refine ⟨_, by simp only [resOf, aresult, rulesA, numbered, ayield, mapO, constAV, scAV, optval, abin, aint, acmp, aconv, aun, aeq, aminmax, afieldAddr, abuild, anew, fieldPlaces, afill, setSeg, kn_P, Option.bind_some, Option.bind_none, Option.map_some, Option.isSome_some, if_true, if_false, List.getElem?_toArray, List.getElem?_cons_zero, List.getElem?_cons_succ, beq_self_eq_true, Bool.not_true, Bool.not_false, List.length_cons, List.length_nil, Bool.false_eq_true, decide_true, decide_false, and_self, and_true, true_and, List.all_cons, List.all_nil, Bool.and_self, Bool.and_true, List.take_zero, List.take_succ_cons, List.drop_zero, List.drop_succ_cons, List.nil_append, List.cons_append, Nat.zero_add, Nat.le_refl, bne_self_eq_false, Nat.reduceAdd, Nat.reduceMul, Nat.reducePow, Nat.reduceSub, Nat.reduceEqDiff, Nat.reduceLT, Nat.reduceLeDiff, Int.reduceEq, Int.reduceNe, Int.reduceLT, Int.reduceLE, Int.reduceAdd, Int.reduceSub, Int.reduceToNat, Int.reduceBNe, Int.reduceBEq, tyR]; with_reducible rfl, ?_⟩
    exact .inl ⟨x, hm, rfl, (by first | exact rfl | exact True.intro)⟩
  | none =>
  refine D.cond (by simp only [rulesA, numbered, ayield, mapO, constAV, scAV, optval, abin, aint, acmp, aconv, aun, aeq, aminmax, afieldAddr, abuild, anew, fieldPlaces, afill, setSeg, kn_P, Option.bind_some, Option.bind_none, Option.map_some, Option.isSome_some, if_true, if_false, List.getElem?_toArray, List.getElem?_cons_zero, List.getElem?_cons_succ, beq_self_eq_true, Bool.not_true, Bool.not_false, List.length_cons, List.length_nil, Bool.false_eq_true, decide_true, decide_false, and_self, and_true, true_and, List.all_cons, List.all_nil, Bool.and_self, Bool.and_true, List.take_zero, List.take_succ_cons, List.drop_zero, List.drop_succ_cons, List.nil_append, List.cons_append, Nat.zero_add, Nat.le_refl, bne_self_eq_false, Nat.reduceAdd, Nat.reduceMul, Nat.reducePow, Nat.reduceSub, Nat.reduceEqDiff, Nat.reduceLT, Nat.reduceLeDiff, Int.reduceEq, Int.reduceNe, Int.reduceLT, Int.reduceLE, Int.reduceAdd, Int.reduceSub, Int.reduceToNat, Int.reduceBNe, Int.reduceBEq, tyR, hm, Option.isSome_none]; with_reducible rfl) (fun h => ?_) (fun h => ?_)
  · cases h
  refine D.skip ?_
  simp only [Ks_n, Ks_e, Ks_r, Kb_n, Kb_e, Kb_r, Kl_n, Kl_e, Kl_r, Kf_r, Kf_n, Kc_n, Kx_n, Kx_e, Kx_r, Kb_ne, ne_eq, Nat.reduceEqDiff, not_false_eq_true]
  have hlv := hT.fr.ldv (G := G) (base := base) (w0 := w0)
  obtain ⟨r1, H1, hc1, rfl, rfl⟩ := call_only (κ := kn G base w0) (f := 37) (args := [.slice (.own o.bf) 1 0 a.length]) (H := H) (fun _ H r H' => r = .int .i64 a.length ∧ H' = H) (flen_ok hT.fr.sl)
  refine D.sq (D.sq (D.regC hc1 (by simp only [rulesA, numbered, ayield, mapO, constAV, scAV, optval, abin, aint, acmp, aconv, aun, aeq, aminmax, afieldAddr, abuild, anew, fieldPlaces, afill, setSeg, kn_P, Option.bind_some, Option.bind_none, Option.map_some, Option.isSome_some, if_true, if_false, List.getElem?_toArray, List.getElem?_cons_zero, List.getElem?_cons_succ, beq_self_eq_true, Bool.not_true, Bool.not_false, List.length_cons, List.length_nil, Bool.false_eq_true, decide_true, decide_false, and_self, and_true, true_and, List.all_cons, List.all_nil, Bool.and_self, Bool.and_true, List.take_zero, List.take_succ_cons, List.drop_zero, List.drop_succ_cons, List.nil_append, List.cons_append, Nat.zero_add, Nat.le_refl, bne_self_eq_false, Nat.reduceAdd, Nat.reduceMul, Nat.reducePow, Nat.reduceSub, Nat.reduceEqDiff, Nat.reduceLT, Nat.reduceLeDiff, Int.reduceEq, Int.reduceNe, Int.reduceLT, Int.reduceLE, Int.reduceAdd, Int.reduceSub, Int.reduceToNat, Int.reduceBNe, Int.reduceBEq, tyR, hc1, l3, hlv, hb16]; with_reducible rfl) ?_))
  simp only [Ks_n, Ks_e, Ks_r, Kb_n, Kb_e, Kb_r, Kl_n, Kl_e, Kl_r, Kf_r, Kf_n, Kc_n, Kx_n, Kx_e, Kx_r, Kb_ne, ne_eq, Nat.reduceEqDiff, not_false_eq_true]
  rcases Nat.eq_zero_or_pos a.length with h0 | h0
  · refine D.cond (by simp only [rulesA, numbered, ayield, mapO, constAV, scAV, optval, abin, aint, acmp, aconv, aun, aeq, aminmax, afieldAddr, abuild, anew, fieldPlaces, afill, setSeg, kn_P, Option.bind_some, Option.bind_none, Option.map_some, Option.isSome_some, if_true, if_false, List.getElem?_toArray, List.getElem?_cons_zero, List.getElem?_cons_succ, beq_self_eq_true, Bool.not_true, Bool.not_false, List.length_cons, List.length_nil, Bool.false_eq_true, decide_true, decide_false, and_self, and_true, true_and, List.all_cons, List.all_nil, Bool.and_self, Bool.and_true, List.take_zero, List.take_succ_cons, List.drop_zero, List.drop_succ_cons, List.nil_append, List.cons_append, Nat.zero_add, Nat.le_refl, bne_self_eq_false, Nat.reduceAdd, Nat.reduceMul, Nat.reducePow, Nat.reduceSub, Nat.reduceEqDiff, Nat.reduceLT, Nat.reduceLeDiff, Int.reduceEq, Int.reduceNe, Int.reduceLT, Int.reduceLE, Int.reduceAdd, Int.reduceSub, Int.reduceToNat, Int.reduceBNe, Int.reduceBEq, tyR, h0]; with_reducible rfl) (fun h => ?_) (fun h => ?_)
    rotate_left
    · cases h
    refine D.sq (D.region (T := none_) (by simp only [rulesA, numbered, ayield, mapO, constAV, scAV, optval, abin, aint, acmp, aconv, aun, aeq, aminmax, afieldAddr, abuild, anew, fieldPlaces, afill, setSeg, kn_P, Option.bind_some, Option.bind_none, Option.map_some, Option.isSome_some, if_true, if_false, List.getElem?_toArray, List.getElem?_cons_zero, List.getElem?_cons_succ, beq_self_eq_true, Bool.not_true, Bool.not_false, List.length_cons, List.length_nil, Bool.false_eq_true, decide_true, decide_false, and_self, and_true, true_and, List.all_cons, List.all_nil, Bool.and_self, Bool.and_true, List.take_zero, List.take_succ_cons, List.drop_zero, List.drop_succ_cons, List.nil_append, List.cons_append, Nat.zero_add, Nat.le_refl, bne_self_eq_false, Nat.reduceAdd, Nat.reduceMul, Nat.reducePow, Nat.reduceSub, Nat.reduceEqDiff, Nat.reduceLT, Nat.reduceLeDiff, Int.reduceEq, Int.reduceNe, Int.reduceLT, Int.reduceLE, Int.reduceAdd, Int.reduceSub, Int.reduceToNat, Int.reduceBNe, Int.reduceBEq, tyR]; with_reducible rfl) ?_)
    simp only [Ks_n, Ks_e, Ks_r, Kb_n, Kb_e, Kb_r, Kl_n, Kl_e, Kl_r, Kf_r, Kf_n, Kc_n, Kx_n, Kx_e, Kx_r, Kb_ne, ne_eq, Nat.reduceEqDiff, not_false_eq_true]
    refine D.ret ?_
    simp only [Ks_n, Ks_e, Ks_r, Kb_n, Kb_e, Kb_r, Kl_n, Kl_e, Kl_r, Kf_r, Kf_n, Kc_n, Kx_n, Kx_e, Kx_r, Kb_ne, ne_eq, Nat.reduceEqDiff, not_false_eq_true]
    refine ⟨_, by simp only [resOf, aresult, rulesA, numbered, ayield, mapO, constAV, scAV, optval, abin, aint, acmp, aconv, aun, aeq, aminmax, afieldAddr, abuild, anew, fieldPlaces, afill, setSeg, kn_P, Option.bind_some, Option.bind_none, Option.map_some, Option.isSome_some, if_true, if_false, List.getElem?_toArray, List.getElem?_cons_zero, List.getElem?_cons_succ, beq_self_eq_true, Bool.not_true, Bool.not_false, List.length_cons, List.length_nil, Bool.false_eq_true, decide_true, decide_false, and_self, and_true, true_and, List.all_cons, List.all_nil, Bool.and_self, Bool.and_true, List.take_zero, List.take_succ_cons, List.drop_zero, List.drop_succ_cons, List.nil_append, List.cons_append, Nat.zero_add, Nat.le_refl, bne_self_eq_false, Nat.reduceAdd, Nat.reduceMul, Nat.reducePow, Nat.reduceSub, Nat.reduceEqDiff, Nat.reduceLT, Nat.reduceLeDiff, Int.reduceEq, Int.reduceNe, Int.reduceLT, Int.reduceLE, Int.reduceAdd, Int.reduceSub, Int.reduceToNat, Int.reduceBNe, Int.reduceBEq, tyR]; with_reducible rfl, ?_⟩
    exact .inr (.inl ⟨hm, List.length_eq_zero_iff.1 h0, rfl, (by first | exact rfl | exact True.intro)⟩)
  refine D.cond (by simp only [rulesA, numbered, ayield, mapO, constAV, scAV, optval, abin, aint, acmp, aconv, aun, aeq, aminmax, afieldAddr, abuild, anew, fieldPlaces, afill, setSeg, kn_P, Option.bind_some, Option.bind_none, Option.map_some, Option.isSome_some, if_true, if_false, List.getElem?_toArray, List.getElem?_cons_zero, List.getElem?_cons_succ, beq_self_eq_true, Bool.not_true, Bool.not_false, List.length_cons, List.length_nil, Bool.false_eq_true, decide_true, decide_false, and_self, and_true, true_and, List.all_cons, List.all_nil, Bool.and_self, Bool.and_true, List.take_zero, List.take_succ_cons, List.drop_zero, List.drop_succ_cons, List.nil_append, List.cons_append, Nat.zero_add, Nat.le_refl, bne_self_eq_false, Nat.reduceAdd, Nat.reduceMul, Nat.reducePow, Nat.reduceSub, Nat.reduceEqDiff, Nat.reduceLT, Nat.reduceLeDiff, Int.reduceEq, Int.reduceNe, Int.reduceLT, Int.reduceLE, Int.reduceAdd, Int.reduceSub, Int.reduceToNat, Int.reduceBNe, Int.reduceBEq, tyR]; with_reducible rfl) (fun h => ?_) (fun h => ?_)
  · simp only [beq_iff_eq, decide_eq_true_eq] at h; omega
  clear h
  refine D.skip ?_
  simp only [Ks_n, Ks_e, Ks_r, Kb_n, Kb_e, Kb_r, Kl_n, Kl_e, Kl_r, Kf_r, Kf_n, Kc_n, Kx_n, Kx_e, Kx_r, Kb_ne, ne_eq, Nat.reduceEqDiff, not_false_eq_true]
  obtain ⟨q, hq⟩ : ∃ q, a.length = q + 1 := ⟨a.length - 1, by omega⟩
  have hla : a.length ≤ 4096 := by have := hI.cnt; have := hI.k4; omega
  obtain ⟨r2, H2, hc2, x, a', rfl, hF2, hp2, hle2, hh2, hk2⟩ := call_only (κ := kn G base w0) (f := 38) (args := [.iface 76 (.ptr (.own o.pf) 0)]) (H := H1) (fun _ H0 r H' => PopS o.pf o.bf a H0 r H') (hpop_ok hT.fr hq (by omega) hI.heap)
  refine D.sq (D.regC hc2 (by simp only [rulesA, numbered, ayield, mapO, constAV, scAV, optval, abin, aint, acmp, aconv, aun, aeq, aminmax, afieldAddr, abuild, anew, fieldPlaces, afill, setSeg, kn_P, Option.bind_some, Option.bind_none, Option.map_some, Option.isSome_some, if_true, if_false, List.getElem?_toArray, List.getElem?_cons_zero, List.getElem?_cons_succ, beq_self_eq_true, Bool.not_true, Bool.not_false, List.length_cons, List.length_nil, Bool.false_eq_true, decide_true, decide_false, and_self, and_true, true_and, List.all_cons, List.all_nil, Bool.and_self, Bool.and_true, List.take_zero, List.take_succ_cons, List.drop_zero, List.drop_succ_cons, List.nil_append, List.cons_append, Nat.zero_add, Nat.le_refl, bne_self_eq_false, Nat.reduceAdd, Nat.reduceMul, Nat.reducePow, Nat.reduceSub, Nat.reduceEqDiff, Nat.reduceLT, Nat.reduceLeDiff, Int.reduceEq, Int.reduceNe, Int.reduceLT, Int.reduceLE, Int.reduceAdd, Int.reduceSub, Int.reduceToNat, Int.reduceBNe, Int.reduceBEq, tyR, hc2, l3, hb17]; with_reducible rfl) ?_)
  simp only [Ks_n, Ks_e, Ks_r, Kb_n, Kb_e, Kb_r, Kl_n, Kl_e, Kl_r, Kf_r, Kf_n, Kc_n, Kx_n, Kx_e, Kx_r, Kb_ne, ne_eq, Nat.reduceEqDiff, not_false_eq_true]
  obtain ⟨n, rfl, hnk, hun⟩ := (hI.free x).1 (hp2.mem_iff.1 (by simp))
  obtain ⟨_, hI2⟩ := hI.put hT.il hT.ul hid hm hp2 hh2 clk
  obtain ⟨b1, b2, b3, b4, b5, b6⟩ := hT.lt
  obtain ⟨d1, d2, d3, d4, d5, d6, d7, d8, d9, d10, d11, d12, d13⟩ := hT.apart
  have kp : ∀ j, j < H1.length → j ≠ o.pf → j ≠ o.bf → hat H2 j = hat H1 j := fun j hj h1 h2 => hk2.2 j hj (by rintro (h | h); exact h1 h; exact h2 h)
  have row2 := (kp s b1 d4 d5).trans hT.row
  have hi2 := (kp o.bi b2 d8 hT.ne).trans hT.hi
  have hu2 := (kp o.bu b3 d10 d11).trans hT.hu
  have m0 := own_ld (G := G) (base := base) (w0 := w0) (i := 0) row2 rfl ag28
  have m1 := own_ld (G := G) (base := base) (w0 := w0) (i := 1) row2 rfl ag40
  have m2 := own_ld (G := G) (base := base) (w0 := w0) (i := 2) row2 rfl ag75
  have x0 := own_ix (G := G) (base := base) (w0 := w0) Try.underlying28 sz3 (b := o.bi) hnk
  have x1 := own_ix (G := G) (base := base) (w0 := w0) Try.underlying40 sz4 (b := o.bu) hnk
  have w0' := wr_own hi2 (off := n) (v := .int .i64 id) (by rw [ints_len, hT.il]; exact hnk) rfl
  generalize hH3 : H2.set o.bi (some (.row 3 1 ((ints ids).set n (.int .i64 id)))) = H3 at w0'
  have hl2 : H1.length ≤ H2.length := hk2.1
  have hl3 : H3.length = H2.length := by rw [← hH3, List.length_set]
  have kp3 : ∀ j, j ≠ o.bi → hat H3 j = hat H2 j := fun j h => by rw [← hH3]; exact hat_ne _ h
  have hu3 := (kp3 o.bu (fun e => d6 e.symm)).trans hu2
  have w1' := wr_own hu3 (off := n) (v := .bool true) (by rw [List.length_map, hT.ul]; exact hnk) rfl
  generalize hH4 : H3.set o.bu (some (.row 4 1 ((us.map AV.bool).set n (.bool true)))) = H4 at w1'
  have hl4 : H4.length = H3.length := by rw [← hH4, List.length_set]
  have kp4 : ∀ j, j ≠ o.bu → hat H4 j = hat H3 j := fun j h => by rw [← hH4]; exact hat_ne _ h
  have ml4 : ML H4 o.m l clk := hT.ml.keep ((kp4 o.m (fun e => d9 e.symm)).trans ((kp3 o.m (fun e => d7 e.symm)).trans (kp o.m b4 d12 d13)))
  obtain ⟨e1, e2, ml5⟩ := ml4.ent (c := (kn G base w0).c) Try.underlying75 Try.underlying3 za3 (n : Int) hm
  generalize hH5 : H4.set o.m (some (.map ((l ++ [(id, (n : Int), clk)]).map enc) (clk + 1))) = H5 at e2 ml5
  have hl5 : H5.length = H4.length := by rw [← hH5, List.length_set]
  have kp5 : ∀ j, j ≠ o.m → hat H5 j = hat H4 j := fun j h => by rw [← hH5]; exact hat_ne _ h
  refine D.sq (D.draw (T := none_) (by kernel_rfl) (by simp only [rulesA, numbered, ayield, mapO, constAV, scAV, optval, abin, aint, acmp, aconv, aun, aeq, aminmax, afieldAddr, abuild, anew, fieldPlaces, afill, setSeg, kn_P, Option.bind_some, Option.bind_none, Option.map_some, Option.isSome_some, if_true, if_false, List.getElem?_toArray, List.getElem?_cons_zero, List.getElem?_cons_succ, beq_self_eq_true, Bool.not_true, Bool.not_false, List.length_cons, List.length_nil, Bool.false_eq_true, decide_true, decide_false, and_self, and_true, true_and, List.all_cons, List.all_nil, Bool.and_self, Bool.and_true, List.take_zero, List.take_succ_cons, List.drop_zero, List.drop_succ_cons, List.nil_append, List.cons_append, Nat.zero_add, Nat.le_refl, bne_self_eq_false, Nat.reduceAdd, Nat.reduceMul, Nat.reducePow, Nat.reduceSub, Nat.reduceEqDiff, Nat.reduceLT, Nat.reduceLeDiff, Int.reduceEq, Int.reduceNe, Int.reduceLT, Int.reduceLE, Int.reduceAdd, Int.reduceSub, Int.reduceToNat, Int.reduceBNe, Int.reduceBEq, tyR, m0, m1, m2, x0, x1, astore, w0', w1', e1, e2]; with_reducible rfl) ?_)
  simp only [Ks_n, Ks_e, Ks_r, Kb_n, Kb_e, Kb_r, Kl_n, Kl_e, Kl_r, Kf_r, Kf_n, Kc_n, Kx_n, Kx_e, Kx_r, Kb_ne, ne_eq, Nat.reduceEqDiff, not_false_eq_true]
  refine D.sq (D.region (T := none_) (by simp only [rulesA, numbered, ayield, mapO, constAV, scAV, optval, abin, aint, acmp, aconv, aun, aeq, aminmax, afieldAddr, abuild, anew, fieldPlaces, afill, setSeg, kn_P, Option.bind_some, Option.bind_none, Option.map_some, Option.isSome_some, if_true, if_false, List.getElem?_toArray, List.getElem?_cons_zero, List.getElem?_cons_succ, beq_self_eq_true, Bool.not_true, Bool.not_false, List.length_cons, List.length_nil, Bool.false_eq_true, decide_true, decide_false, and_self, and_true, true_and, List.all_cons, List.all_nil, Bool.and_self, Bool.and_true, List.take_zero, List.take_succ_cons, List.drop_zero, List.drop_succ_cons, List.nil_append, List.cons_append, Nat.zero_add, Nat.le_refl, bne_self_eq_false, Nat.reduceAdd, Nat.reduceMul, Nat.reducePow, Nat.reduceSub, Nat.reduceEqDiff, Nat.reduceLT, Nat.reduceLeDiff, Int.reduceEq, Int.reduceNe, Int.reduceLT, Int.reduceLE, Int.reduceAdd, Int.reduceSub, Int.reduceToNat, Int.reduceBNe, Int.reduceBEq, tyR]; with_reducible rfl) ?_)
  simp only [Ks_n, Ks_e, Ks_r, Kb_n, Kb_e, Kb_r, Kl_n, Kl_e, Kl_r, Kf_r, Kf_n, Kc_n, Kx_n, Kx_e, Kx_r, Kb_ne, ne_eq, Nat.reduceEqDiff, not_false_eq_true]
  refine D.ret ?_
  simp only [Ks_n, Ks_e, Ks_r, Kb_n, Kb_e, Kb_r, Kl_n, Kl_e, Kl_r, Kf_r, Kf_n, Kc_n, Kx_n, Kx_e, Kx_r, Kb_ne, ne_eq, Nat.reduceEqDiff, not_false_eq_true]
  refine ⟨_, by simp only [resOf, aresult, rulesA, numbered, ayield, mapO, constAV, scAV, optval, abin, aint, acmp, aconv, aun, aeq, aminmax, afieldAddr, abuild, anew, fieldPlaces, afill, setSeg, kn_P, Option.bind_some, Option.bind_none, Option.map_some, Option.isSome_some, if_true, if_false, List.getElem?_toArray, List.getElem?_cons_zero, List.getElem?_cons_succ, beq_self_eq_true, Bool.not_true, Bool.not_false, List.length_cons, List.length_nil, Bool.false_eq_true, decide_true, decide_false, and_self, and_true, true_and, List.all_cons, List.all_nil, Bool.and_self, Bool.and_true, List.take_zero, List.take_succ_cons, List.drop_zero, List.drop_succ_cons, List.nil_append, List.cons_append, Nat.zero_add, Nat.le_refl, bne_self_eq_false, Nat.reduceAdd, Nat.reduceMul, Nat.reducePow, Nat.reduceSub, Nat.reduceEqDiff, Nat.reduceLT, Nat.reduceLeDiff, Int.reduceEq, Int.reduceNe, Int.reduceLT, Int.reduceLE, Int.reduceAdd, Int.reduceSub, Int.reduceToNat, Int.reduceBNe, Int.reduceBEq, tyR]; with_reducible rfl, ?_⟩
  refine .inr (.inr ⟨hm, n, a', hnk, hp2, hle2, rfl, ⟨?_, by rw [List.length_set]; exact hT.il, by rw [List.length_set]; exact hT.ul, ?_, ?_, ml5, ?_, hT.ne⟩, hI2, ?_⟩)
  · rw [kp5 s d3, kp4 s d2, kp3 s d1]; exact row2
  · rw [kp5 _ d7, kp4 _ d6, ← hH3, hat_eq _ (by omega), ints, ints, List.map_set]
  · rw [kp5 _ d9, ← hH4, hat_eq _ (by omega), List.map_set]
  · refine hF2.keep ?_ ?_
    · rw [kp5 _ (fun e => d12 e.symm), kp4 _ (fun e => d10 e.symm), kp3 _ (fun e => d8 e.symm)]
    · rw [kp5 _ (fun e => d13 e.symm), kp4 _ (fun e => d11 e.symm), kp3 _ (fun e => hT.ne e.symm)]
  · refine ⟨by omega, fun j hj hne => ?_⟩
    simp only [Own, not_or] at hne
    rw [kp5 j hne.2.2.1, kp4 j hne.2.1, kp3 j hne.1]
    exact kp j hj hne.2.2.2.1 hne.2.2.2.2
end Go.Proofs.Ytecfofmndpgnjaa.sy
