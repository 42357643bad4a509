/- slots.Slots (own work): the table behind a pointer; Get, ID, Len. -/
import Derived.Test.YtecfofmndpgnjaaPq
import Derived.Test.YtecfofmndpgnjaaKeys
import Derived.Test.YtecfofmndpgnjaaAmPlain
namespace Go.Proofs.Ytecfofmndpgnjaa.sy
open Go.AM Go.AM.Hp
set_option linter.unusedSimpArgs false
set_option linter.unusedVariables false
variable {G : List Nat → Option (List AV)} {base : Nat} {w0 : World}
set_option maxRecDepth 100000

theorem hb7 : hasBody Try.prog 8 = true := by kernel_rfl
theorem hb8 : hasBody Try.prog 28 = true := by kernel_rfl
theorem hb9 : hasBody Try.prog 29 = true := by kernel_rfl
theorem hb10 : hasBody Try.prog 40 = true := by kernel_rfl
theorem hb11 : hasBody Try.prog 39 = true := by kernel_rfl
theorem hb13 : hasBody Try.prog 35 = true := by kernel_rfl
theorem hb14 : hasBody Try.prog 86 = true := by kernel_rfl
theorem hb15 : hasBody Try.prog 36 = true := by kernel_rfl
theorem hb17 : hasBody Try.prog 38 = true := by kernel_rfl
theorem hb18 : hasBody Try.prog 41 = true := by kernel_rfl
theorem hb19 : hasBody Try.prog 42 = true := by kernel_rfl
theorem nodupI_of : ∀ {l : List Int}, l.Nodup → nodupI l = true
  | [], _ => rfl
  | x :: r, h => by
    obtain ⟨h1, h2⟩ := List.nodup_cons.1 h
    simp only [nodupI, nodupI_of h2, Bool.and_true, Bool.not_eq_true', List.any_eq_false, beq_iff_eq]
    intro y hy e; subst e; exact h1 hy
/-- where a table lies -/
structure Tb where
  bi : Nat
  bu : Nat
  m : Nat
  pf : Nat
  bf : Nat
/-- a table behind a pointer: ids, who is used, the map, the free slots -/
structure Sts (H : AHeap) (s : Nat) (o : Tb) (k : Nat) (ids : List Int) (us : List Bool) (l : List (Int × Int × Nat)) (clk : Nat) (a : List Int) : Prop where
  row : hat H s = some (.row 79 4 [.slice (.own o.bi) 1 0 k, .slice (.own o.bu) 1 0 k, .map (.own o.m), .ptr (.own o.pf) 0])
  il : ids.length = k
  ul : us.length = k
  hi : hat H o.bi = some (.row 3 1 (ints ids))
  hu : hat H o.bu = some (.row 4 1 (us.map AV.bool))
  ml : ML H o.m l clk
  fr : Fr H o.pf o.bf a
  ne : o.bi ≠ o.bf
/-- what the parts of a table have to do with each other -/
structure Inv (k : Nat) (ids : List Int) (us : List Bool) (l : List (Int × Int × Nat)) (a : List Int) : Prop where
  k4 : k ≤ 4096
  fwd : ∀ e ∈ l, ∃ n : Nat, e.2.1 = n ∧ n < k ∧ ids.getD n 0 = e.1 ∧ us.getD n false = true
  bwd : ∀ n, n < k → us.getD n false = true → ∃ b, (ids.getD n 0, (n : Int), b) ∈ l
  free : ∀ x, x ∈ a ↔ ∃ n : Nat, x = n ∧ n < k ∧ us.getD n false = false
  nd : a.Nodup
  heap : Heap a a.length
  cnt : l.length + a.length = k
  rng : ∀ e ∈ l, -9223372036854775808 ≤ e.1 ∧ e.1 ≤ 9223372036854775807
variable {H : AHeap} {s : Nat} {o : Tb} {k : Nat} {ids : List Int} {us : List Bool} {l : List (Int × Int × Nat)} {clk : Nat} {a : List Int}
theorem own_ld {b ty esz : Nat} {cs : List AV} {i : Nat} {v : AV} {t : TypeId} (h : hat H b = some (.row ty esz cs)) (hv : cs[i]? = some v) (ha : isAggT (kn G base w0).c.P t = some false) : aload (kn G base w0).c H t (.ptr (.own b) i) = some v := by
  simp only [aload, ha, Option.bind_some, rd_own h, hv, Option.map_some]
  rfl
theorem own_ix {t e : TypeId} (ht : (kn G base w0).c.P.underlying t = some (.slice e)) (hs : szOf (kn G base w0).c.P e = some 1) {b n i : Nat} (hi : i < n) : aindexAddr (kn G base w0).c t (.slice (.own b) 1 0 n) (.int .i64 (i : Int)) = some (.ptr (.own b) i) := by
  simp only [aindexAddr, ht, Option.bind_some, hs]
  rw [if_pos ⟨by trivial, by omega, by omega⟩]
  simp
theorem own_len {t e : TypeId} (ht : (kn G base w0).c.P.underlying t = some (.slice e)) {b n : Nat} : alen (kn G base w0).c H t (.slice (.own b) 1 0 n) = some (.int .i64 n) := by
  simp only [alen, ht]
  rfl
theorem own_mlen {t kt vt : TypeId} (ht : (kn G base w0).c.P.underlying t = some (.map kt vt)) {m : Nat} (h : ML H m l clk) : alen (kn G base w0).c H t (.map (.own m)) = some (.int .i64 l.length) := by
  simp only [alen, ht, Option.bind_some, entries, h.at_, Option.map_some, List.length_map]
/-- s.Get(id) -/
theorem get_ok (hT : Sts H s o k ids us l clk a) (id : Int) : ∃ r H', Pt (kn G base w0) 39 [.ptr (.own s) 0, .int .i64 id] H r H' ∧ (r = .tuple [.int .i64 ((mget l id).getD 0), .bool (mget l id).isSome] ∧ H' = H) := by
  have l2 := own_ld (G := G) (base := base) (w0 := w0) (i := 2) hT.row rfl ag75
  have lk := hT.ml.im.look (c := (kn G base w0).c) Try.underlying75 Try.underlying3 za3 id true
  refine Pt.fn (n := 21) (rs := [.tmp 4, .tmp 5]) Try.func39 (b := _) rfl rfl rfl (by decide) ?_
  refine D.sq (D.region (T := none_) (by simp only [rulesA, numbered, ayield, mapO, constAV, scAV, optval, abin, aint, acmp, aconv, aun, aeq, aminmax, afieldAddr, abuild, anew, fieldPlaces, afill, setSeg, kn_P, Option.bind_some, Option.bind_none, Option.map_some, Option.isSome_some, if_true, if_false, List.getElem?_toArray, List.getElem?_cons_zero, List.getElem?_cons_succ, beq_self_eq_true, Bool.not_true, Bool.not_false, List.length_cons, List.length_nil, Bool.false_eq_true, decide_true, decide_false, and_self, and_true, true_and, List.all_cons, List.all_nil, Bool.and_self, Bool.and_true, List.take_zero, List.take_succ_cons, List.drop_zero, List.drop_succ_cons, List.nil_append, List.cons_append, Nat.zero_add, Nat.le_refl, bne_self_eq_false, Nat.reduceAdd, Nat.reduceMul, Nat.reducePow, Nat.reduceSub, Nat.reduceEqDiff, Nat.reduceLT, Nat.reduceLeDiff, Int.reduceEq, Int.reduceNe, Int.reduceLT, Int.reduceLE, Int.reduceAdd, Int.reduceSub, Int.reduceToNat, Int.reduceBNe, Int.reduceBEq, tyR]; with_reducible rfl) ?_)
  simp only [Ks_n, Ks_e, Ks_r, Kb_n, Kb_e, Kb_r, Kl_n, Kl_e, Kl_r, Kf_r, Kf_n, Kc_n, Kx_n, Kx_e, Kx_r, Kb_ne, ne_eq, Nat.reduceEqDiff, not_false_eq_true]
  refine D.sq (D.sq (D.region (T := none_) (by simp only [rulesA, numbered, ayield, mapO, constAV, scAV, optval, abin, aint, acmp, aconv, aun, aeq, aminmax, afieldAddr, abuild, anew, fieldPlaces, afill, setSeg, kn_P, Option.bind_some, Option.bind_none, Option.map_some, Option.isSome_some, if_true, if_false, List.getElem?_toArray, List.getElem?_cons_zero, List.getElem?_cons_succ, beq_self_eq_true, Bool.not_true, Bool.not_false, List.length_cons, List.length_nil, Bool.false_eq_true, decide_true, decide_false, and_self, and_true, true_and, List.all_cons, List.all_nil, Bool.and_self, Bool.and_true, List.take_zero, List.take_succ_cons, List.drop_zero, List.drop_succ_cons, List.nil_append, List.cons_append, Nat.zero_add, Nat.le_refl, bne_self_eq_false, Nat.reduceAdd, Nat.reduceMul, Nat.reducePow, Nat.reduceSub, Nat.reduceEqDiff, Nat.reduceLT, Nat.reduceLeDiff, Int.reduceEq, Int.reduceNe, Int.reduceLT, Int.reduceLE, Int.reduceAdd, Int.reduceSub, Int.reduceToNat, Int.reduceBNe, Int.reduceBEq, tyR]; with_reducible rfl) ?_))
  simp only [Ks_n, Ks_e, Ks_r, Kb_n, Kb_e, Kb_r, Kl_n, Kl_e, Kl_r, Kf_r, Kf_n, Kc_n, Kx_n, Kx_e, Kx_r, Kb_ne, ne_eq, Nat.reduceEqDiff, not_false_eq_true]
  refine D.cond (by simp only [rulesA, numbered, ayield, mapO, constAV, scAV, optval, abin, aint, acmp, aconv, aun, aeq, aminmax, afieldAddr, abuild, anew, fieldPlaces, afill, setSeg, kn_P, Option.bind_some, Option.bind_none, Option.map_some, Option.isSome_some, if_true, if_false, List.getElem?_toArray, List.getElem?_cons_zero, List.getElem?_cons_succ, beq_self_eq_true, Bool.not_true, Bool.not_false, List.length_cons, List.length_nil, Bool.false_eq_true, decide_true, decide_false, and_self, and_true, true_and, List.all_cons, List.all_nil, Bool.and_self, Bool.and_true, List.take_zero, List.take_succ_cons, List.drop_zero, List.drop_succ_cons, List.nil_append, List.cons_append, Nat.zero_add, Nat.le_refl, bne_self_eq_false, Nat.reduceAdd, Nat.reduceMul, Nat.reducePow, Nat.reduceSub, Nat.reduceEqDiff, Nat.reduceLT, Nat.reduceLeDiff, Int.reduceEq, Int.reduceNe, Int.reduceLT, Int.reduceLE, Int.reduceAdd, Int.reduceSub, Int.reduceToNat, Int.reduceBNe, Int.reduceBEq, tyR]; with_reducible rfl) (fun h => ?_) (fun h => ?_)
  · cases h
  refine D.skip ?_
  simp only [Ks_n, Ks_e, Ks_r, Kb_n, Kb_e, Kb_r, Kl_n, Kl_e, Kl_r, Kf_r, Kf_n, Kc_n, Kx_n, Kx_e, Kx_r, Kb_ne, ne_eq, Nat.reduceEqDiff, not_false_eq_true]
  refine D.sq (D.region (T := none_) (by simp only [rulesA, numbered, ayield, mapO, constAV, scAV, optval, abin, aint, acmp, aconv, aun, aeq, aminmax, afieldAddr, abuild, anew, fieldPlaces, afill, setSeg, kn_P, Option.bind_some, Option.bind_none, Option.map_some, Option.isSome_some, if_true, if_false, List.getElem?_toArray, List.getElem?_cons_zero, List.getElem?_cons_succ, beq_self_eq_true, Bool.not_true, Bool.not_false, List.length_cons, List.length_nil, Bool.false_eq_true, decide_true, decide_false, and_self, and_true, true_and, List.all_cons, List.all_nil, Bool.and_self, Bool.and_true, List.take_zero, List.take_succ_cons, List.drop_zero, List.drop_succ_cons, List.nil_append, List.cons_append, Nat.zero_add, Nat.le_refl, bne_self_eq_false, Nat.reduceAdd, Nat.reduceMul, Nat.reducePow, Nat.reduceSub, Nat.reduceEqDiff, Nat.reduceLT, Nat.reduceLeDiff, Int.reduceEq, Int.reduceNe, Int.reduceLT, Int.reduceLE, Int.reduceAdd, Int.reduceSub, Int.reduceToNat, Int.reduceBNe, Int.reduceBEq, tyR, l2, lk]; with_reducible rfl) ?_)
  simp only [Ks_n, Ks_e, Ks_r, Kb_n, Kb_e, Kb_r, Kl_n, Kl_e, Kl_r, Kf_r, Kf_n, Kc_n, Kx_n, Kx_e, Kx_r, Kb_ne, ne_eq, Nat.reduceEqDiff, not_false_eq_true]
  refine D.sq (D.region (T := none_) (by simp only [rulesA, numbered, ayield, mapO, constAV, scAV, optval, abin, aint, acmp, aconv, aun, aeq, aminmax, afieldAddr, abuild, anew, fieldPlaces, afill, setSeg, kn_P, Option.bind_some, Option.bind_none, Option.map_some, Option.isSome_some, if_true, if_false, List.getElem?_toArray, List.getElem?_cons_zero, List.getElem?_cons_succ, beq_self_eq_true, Bool.not_true, Bool.not_false, List.length_cons, List.length_nil, Bool.false_eq_true, decide_true, decide_false, and_self, and_true, true_and, List.all_cons, List.all_nil, Bool.and_self, Bool.and_true, List.take_zero, List.take_succ_cons, List.drop_zero, List.drop_succ_cons, List.nil_append, List.cons_append, Nat.zero_add, Nat.le_refl, bne_self_eq_false, Nat.reduceAdd, Nat.reduceMul, Nat.reducePow, Nat.reduceSub, Nat.reduceEqDiff, Nat.reduceLT, Nat.reduceLeDiff, Int.reduceEq, Int.reduceNe, Int.reduceLT, Int.reduceLE, Int.reduceAdd, Int.reduceSub, Int.reduceToNat, Int.reduceBNe, Int.reduceBEq, tyR]; with_reducible rfl) ?_)
  simp only [Ks_n, Ks_e, Ks_r, Kb_n, Kb_e, Kb_r, Kl_n, Kl_e, Kl_r, Kf_r, Kf_n, Kc_n, Kx_n, Kx_e, Kx_r, Kb_ne, ne_eq, Nat.reduceEqDiff, not_false_eq_true]
  refine D.ret ?_
  simp only [Ks_n, Ks_e, Ks_r, Kb_n, Kb_e, Kb_r, Kl_n, Kl_e, Kl_r, Kf_r, Kf_n, Kc_n, Kx_n, Kx_e, Kx_r, Kb_ne, ne_eq, Nat.reduceEqDiff, not_false_eq_true]
  refine ⟨_, by simp only [resOf, aresult, rulesA, numbered, ayield, mapO, constAV, scAV, optval, abin, aint, acmp, aconv, aun, aeq, aminmax, afieldAddr, abuild, anew, fieldPlaces, afill, setSeg, kn_P, Option.bind_some, Option.bind_none, Option.map_some, Option.isSome_some, if_true, if_false, List.getElem?_toArray, List.getElem?_cons_zero, List.getElem?_cons_succ, beq_self_eq_true, Bool.not_true, Bool.not_false, List.length_cons, List.length_nil, Bool.false_eq_true, decide_true, decide_false, and_self, and_true, true_and, List.all_cons, List.all_nil, Bool.and_self, Bool.and_true, List.take_zero, List.take_succ_cons, List.drop_zero, List.drop_succ_cons, List.nil_append, List.cons_append, Nat.zero_add, Nat.le_refl, bne_self_eq_false, Nat.reduceAdd, Nat.reduceMul, Nat.reducePow, Nat.reduceSub, Nat.reduceEqDiff, Nat.reduceLT, Nat.reduceLeDiff, Int.reduceEq, Int.reduceNe, Int.reduceLT, Int.reduceLE, Int.reduceAdd, Int.reduceSub, Int.reduceToNat, Int.reduceBNe, Int.reduceBEq, tyR]; with_reducible rfl, ?_⟩
  exact ⟨(by first | exact rfl | exact True.intro), (by first | exact rfl | exact True.intro)⟩
/-- s.Len() -/
theorem len_ok (hT : Sts H s o k ids us l clk a) : ∃ r H', Pt (kn G base w0) 86 [.ptr (.own s) 0] H r H' ∧ (r = .int .i64 l.length ∧ H' = H) := by
  have l2 := own_ld (G := G) (base := base) (w0 := w0) (i := 2) hT.row rfl ag75
  refine Pt.fn (n := 10) (rs := [.tmp 2]) Try.func86 (b := _) rfl rfl rfl (by decide) ?_
  refine D.sq (D.region (T := none_) (by simp only [rulesA, numbered, ayield, mapO, constAV, scAV, optval, abin, aint, acmp, aconv, aun, aeq, aminmax, afieldAddr, abuild, anew, fieldPlaces, afill, setSeg, kn_P, Option.bind_some, Option.bind_none, Option.map_some, Option.isSome_some, if_true, if_false, List.getElem?_toArray, List.getElem?_cons_zero, List.getElem?_cons_succ, beq_self_eq_true, Bool.not_true, Bool.not_false, List.length_cons, List.length_nil, Bool.false_eq_true, decide_true, decide_false, and_self, and_true, true_and, List.all_cons, List.all_nil, Bool.and_self, Bool.and_true, List.take_zero, List.take_succ_cons, List.drop_zero, List.drop_succ_cons, List.nil_append, List.cons_append, Nat.zero_add, Nat.le_refl, bne_self_eq_false, Nat.reduceAdd, Nat.reduceMul, Nat.reducePow, Nat.reduceSub, Nat.reduceEqDiff, Nat.reduceLT, Nat.reduceLeDiff, Int.reduceEq, Int.reduceNe, Int.reduceLT, Int.reduceLE, Int.reduceAdd, Int.reduceSub, Int.reduceToNat, Int.reduceBNe, Int.reduceBEq, tyR]; with_reducible rfl) ?_)
  simp only [Ks_n, Ks_e, Ks_r, Kb_n, Kb_e, Kb_r, Kl_n, Kl_e, Kl_r, Kf_r, Kf_n, Kc_n, Kx_n, Kx_e, Kx_r, Kb_ne, ne_eq, Nat.reduceEqDiff, not_false_eq_true]
  refine D.sq (D.sq (D.region (T := none_) (by simp only [rulesA, numbered, ayield, mapO, constAV, scAV, optval, abin, aint, acmp, aconv, aun, aeq, aminmax, afieldAddr, abuild, anew, fieldPlaces, afill, setSeg, kn_P, Option.bind_some, Option.bind_none, Option.map_some, Option.isSome_some, if_true, if_false, List.getElem?_toArray, List.getElem?_cons_zero, List.getElem?_cons_succ, beq_self_eq_true, Bool.not_true, Bool.not_false, List.length_cons, List.length_nil, Bool.false_eq_true, decide_true, decide_false, and_self, and_true, true_and, List.all_cons, List.all_nil, Bool.and_self, Bool.and_true, List.take_zero, List.take_succ_cons, List.drop_zero, List.drop_succ_cons, List.nil_append, List.cons_append, Nat.zero_add, Nat.le_refl, bne_self_eq_false, Nat.reduceAdd, Nat.reduceMul, Nat.reducePow, Nat.reduceSub, Nat.reduceEqDiff, Nat.reduceLT, Nat.reduceLeDiff, Int.reduceEq, Int.reduceNe, Int.reduceLT, Int.reduceLE, Int.reduceAdd, Int.reduceSub, Int.reduceToNat, Int.reduceBNe, Int.reduceBEq, tyR]; with_reducible rfl) ?_))
  simp only [Ks_n, Ks_e, Ks_r, Kb_n, Kb_e, Kb_r, Kl_n, Kl_e, Kl_r, Kf_r, Kf_n, Kc_n, Kx_n, Kx_e, Kx_r, Kb_ne, ne_eq, Nat.reduceEqDiff, not_false_eq_true]
  refine D.cond (by simp only [rulesA, numbered, ayield, mapO, constAV, scAV, optval, abin, aint, acmp, aconv, aun, aeq, aminmax, afieldAddr, abuild, anew, fieldPlaces, afill, setSeg, kn_P, Option.bind_some, Option.bind_none, Option.map_some, Option.isSome_some, if_true, if_false, List.getElem?_toArray, List.getElem?_cons_zero, List.getElem?_cons_succ, beq_self_eq_true, Bool.not_true, Bool.not_false, List.length_cons, List.length_nil, Bool.false_eq_true, decide_true, decide_false, and_self, and_true, true_and, List.all_cons, List.all_nil, Bool.and_self, Bool.and_true, List.take_zero, List.take_succ_cons, List.drop_zero, List.drop_succ_cons, List.nil_append, List.cons_append, Nat.zero_add, Nat.le_refl, bne_self_eq_false, Nat.reduceAdd, Nat.reduceMul, Nat.reducePow, Nat.reduceSub, Nat.reduceEqDiff, Nat.reduceLT, Nat.reduceLeDiff, Int.reduceEq, Int.reduceNe, Int.reduceLT, Int.reduceLE, Int.reduceAdd, Int.reduceSub, Int.reduceToNat, Int.reduceBNe, Int.reduceBEq, tyR]; with_reducible rfl) (fun h => ?_) (fun h => ?_)
  · cases h
  refine D.skip ?_
  simp only [Ks_n, Ks_e, Ks_r, Kb_n, Kb_e, Kb_r, Kl_n, Kl_e, Kl_r, Kf_r, Kf_n, Kc_n, Kx_n, Kx_e, Kx_r, Kb_ne, ne_eq, Nat.reduceEqDiff, not_false_eq_true]
  refine D.sq (D.region (T := none_) (by simp only [rulesA, numbered, ayield, mapO, constAV, scAV, optval, abin, aint, acmp, aconv, aun, aeq, aminmax, afieldAddr, abuild, anew, fieldPlaces, afill, setSeg, kn_P, Option.bind_some, Option.bind_none, Option.map_some, Option.isSome_some, if_true, if_false, List.getElem?_toArray, List.getElem?_cons_zero, List.getElem?_cons_succ, beq_self_eq_true, Bool.not_true, Bool.not_false, List.length_cons, List.length_nil, Bool.false_eq_true, decide_true, decide_false, and_self, and_true, true_and, List.all_cons, List.all_nil, Bool.and_self, Bool.and_true, List.take_zero, List.take_succ_cons, List.drop_zero, List.drop_succ_cons, List.nil_append, List.cons_append, Nat.zero_add, Nat.le_refl, bne_self_eq_false, Nat.reduceAdd, Nat.reduceMul, Nat.reducePow, Nat.reduceSub, Nat.reduceEqDiff, Nat.reduceLT, Nat.reduceLeDiff, Int.reduceEq, Int.reduceNe, Int.reduceLT, Int.reduceLE, Int.reduceAdd, Int.reduceSub, Int.reduceToNat, Int.reduceBNe, Int.reduceBEq, tyR, l2, own_mlen Try.underlying75 hT.ml]; with_reducible rfl) ?_)
  simp only [Ks_n, Ks_e, Ks_r, Kb_n, Kb_e, Kb_r, Kl_n, Kl_e, Kl_r, Kf_r, Kf_n, Kc_n, Kx_n, Kx_e, Kx_r, Kb_ne, ne_eq, Nat.reduceEqDiff, not_false_eq_true]
  refine D.ret ?_
  simp only [Ks_n, Ks_e, Ks_r, Kb_n, Kb_e, Kb_r, Kl_n, Kl_e, Kl_r, Kf_r, Kf_n, Kc_n, Kx_n, Kx_e, Kx_r, Kb_ne, ne_eq, Nat.reduceEqDiff, not_false_eq_true]
  refine ⟨_, by simp only [resOf, aresult, rulesA, numbered, ayield, mapO, constAV, scAV, optval, abin, aint, acmp, aconv, aun, aeq, aminmax, afieldAddr, abuild, anew, fieldPlaces, afill, setSeg, kn_P, Option.bind_some, Option.bind_none, Option.map_some, Option.isSome_some, if_true, if_false, List.getElem?_toArray, List.getElem?_cons_zero, List.getElem?_cons_succ, beq_self_eq_true, Bool.not_true, Bool.not_false, List.length_cons, List.length_nil, Bool.false_eq_true, decide_true, decide_false, and_self, and_true, true_and, List.all_cons, List.all_nil, Bool.and_self, Bool.and_true, List.take_zero, List.take_succ_cons, List.drop_zero, List.drop_succ_cons, List.nil_append, List.cons_append, Nat.zero_add, Nat.le_refl, bne_self_eq_false, Nat.reduceAdd, Nat.reduceMul, Nat.reducePow, Nat.reduceSub, Nat.reduceEqDiff, Nat.reduceLT, Nat.reduceLeDiff, Int.reduceEq, Int.reduceNe, Int.reduceLT, Int.reduceLE, Int.reduceAdd, Int.reduceSub, Int.reduceToNat, Int.reduceBNe, Int.reduceBEq, tyR]; with_reducible rfl, ?_⟩
  exact ⟨(by first | exact rfl | exact True.intro), (by first | exact rfl | exact True.intro)⟩
end Go.Proofs.Ytecfofmndpgnjaa.sy
