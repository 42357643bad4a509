/- slots.Slots (own work): IDs, New. -/
import Derived.Test.YtecfofmndpgnjaaSl
namespace Go.Proofs.Ytecfofmndpgnjaa.sy
open Go.AM Go.AM.Hp
set_option linter.unusedSimpArgs false
set_option linter.unusedVariables false
variable {G : List Nat → Option (List AV)} {base : Nat} {w0 : World}
set_option maxRecDepth 100000
variable {H : AHeap} {s : Nat} {o : Tb} {k : Nat} {ids : List Int} {us : List Bool} {l : List (Int × Int × Nat)} {clk : Nat} {a : List Int}
theorem Sts.keep {H' : AHeap} (h : Sts H s o k ids us l clk a) (hs : hat H' s = hat H s) (h1 : hat H' o.bi = hat H o.bi) (h2 : hat H' o.bu = hat H o.bu) (h3 : hat H' o.m = hat H o.m) (h4 : hat H' o.pf = hat H o.pf) (h5 : hat H' o.bf = hat H o.bf) : Sts H' s o k ids us l clk a :=
  ⟨by rw [hs]; exact h.row, h.il, h.ul, by rw [h1]; exact h.hi, by rw [h2]; exact h.hu, h.ml.keep h3, h.fr.keep h4 h5, h.ne⟩
theorem Sts.lt (h : Sts H s o k ids us l clk a) : s < H.length ∧ o.bi < H.length ∧ o.bu < H.length ∧ o.m < H.length ∧ o.pf < H.length ∧ o.bf < H.length :=
  ⟨hat_lt h.row, hat_lt h.hi, hat_lt h.hu, h.ml.lt, h.fr.lt.1, h.fr.lt.2⟩
theorem Sts.keepF {H' : AHeap} (h : Sts H s o k ids us l clk a) (hk : Keep H H' (fun _ => False)) : Sts H' s o k ids us l clk a := by
  obtain ⟨q1, q2, q3, q4, q5, q6⟩ := h.lt
  exact h.keep (hk.2 _ q1 id) (hk.2 _ q2 id) (hk.2 _ q3 id) (hk.2 _ q4 id) (hk.2 _ q5 id) (hk.2 _ q6 id)
theorem intsOf_ints : ∀ (zs : List Int), intsOf (zs.map (AV.int .i64)) = some zs
  | [] => rfl
  | z :: r => by simp only [List.map_cons, intsOf, intsOf_ints r, Option.map_some]
/-- maps.Keys(m) -/
theorem keys_ok (m : Nat) : ∃ r H', Pt (kn G base w0) 42 [.map (.own m)] H r H' ∧ (r = .func (.func 47) [] [.ptr (.own H.length) 0] ∧ H' = hnew H (.row 75 1 [.map (.own m)])) := by
  refine Pt.fn (n := 4) (rs := [.tmp 2]) Try.func42 (b := _) rfl rfl rfl (by decide) ?_
  refine D.sq (D.region (T := none_) (by simp only [rulesA, numbered, ayield, mapO, constAV, scAV, optval, abin, aint, acmp, aconv, aun, aeq, aminmax, afieldAddr, abuild, anew, fieldPlaces, afill, setSeg, kn_P, Option.bind_some, Option.bind_none, Option.map_some, Option.isSome_some, if_true, if_false, List.getElem?_toArray, List.getElem?_cons_zero, List.getElem?_cons_succ, beq_self_eq_true, Bool.not_true, Bool.not_false, List.length_cons, List.length_nil, Bool.false_eq_true, decide_true, decide_false, and_self, and_true, true_and, List.all_cons, List.all_nil, Bool.and_self, Bool.and_true, List.take_zero, List.take_succ_cons, List.drop_zero, List.drop_succ_cons, List.nil_append, List.cons_append, Nat.zero_add, Nat.le_refl, bne_self_eq_false, Nat.reduceAdd, Nat.reduceMul, Nat.reducePow, Nat.reduceSub, Nat.reduceEqDiff, Nat.reduceLT, Nat.reduceLeDiff, Int.reduceEq, Int.reduceNe, Int.reduceLT, Int.reduceLE, Int.reduceAdd, Int.reduceSub, Int.reduceToNat, Int.reduceBNe, Int.reduceBEq, tyR, fresh]; with_reducible rfl) ?_)
  simp only [Ks_n, Ks_e, Ks_r, Kb_n, Kb_e, Kb_r, Kl_n, Kl_e, Kl_r, Kf_r, Kf_n, Kc_n, Kx_n, Kx_e, Kx_r, Kb_ne, ne_eq, Nat.reduceEqDiff, not_false_eq_true]
  refine D.sq (D.region (T := none_) (by simp only [rulesA, numbered, ayield, mapO, constAV, scAV, optval, abin, aint, acmp, aconv, aun, aeq, aminmax, afieldAddr, abuild, anew, fieldPlaces, afill, setSeg, kn_P, Option.bind_some, Option.bind_none, Option.map_some, Option.isSome_some, if_true, if_false, List.getElem?_toArray, List.getElem?_cons_zero, List.getElem?_cons_succ, beq_self_eq_true, Bool.not_true, Bool.not_false, List.length_cons, List.length_nil, Bool.false_eq_true, decide_true, decide_false, and_self, and_true, true_and, List.all_cons, List.all_nil, Bool.and_self, Bool.and_true, List.take_zero, List.take_succ_cons, List.drop_zero, List.drop_succ_cons, List.nil_append, List.cons_append, Nat.zero_add, Nat.le_refl, bne_self_eq_false, Nat.reduceAdd, Nat.reduceMul, Nat.reducePow, Nat.reduceSub, Nat.reduceEqDiff, Nat.reduceLT, Nat.reduceLeDiff, Int.reduceEq, Int.reduceNe, Int.reduceLT, Int.reduceLE, Int.reduceAdd, Int.reduceSub, Int.reduceToNat, Int.reduceBNe, Int.reduceBEq, tyR]; with_reducible rfl) ?_)
  simp only [Ks_n, Ks_e, Ks_r, Kb_n, Kb_e, Kb_r, Kl_n, Kl_e, Kl_r, Kf_r, Kf_n, Kc_n, Kx_n, Kx_e, Kx_r, Kb_ne, ne_eq, Nat.reduceEqDiff, not_false_eq_true]
  refine D.ret ?_
  simp only [Ks_n, Ks_e, Ks_r, Kb_n, Kb_e, Kb_r, Kl_n, Kl_e, Kl_r, Kf_r, Kf_n, Kc_n, Kx_n, Kx_e, Kx_r, Kb_ne, ne_eq, Nat.reduceEqDiff, not_false_eq_true]
  refine ⟨_, by simp only [resOf, aresult, rulesA, numbered, ayield, mapO, constAV, scAV, optval, abin, aint, acmp, aconv, aun, aeq, aminmax, afieldAddr, abuild, anew, fieldPlaces, afill, setSeg, kn_P, Option.bind_some, Option.bind_none, Option.map_some, Option.isSome_some, if_true, if_false, List.getElem?_toArray, List.getElem?_cons_zero, List.getElem?_cons_succ, beq_self_eq_true, Bool.not_true, Bool.not_false, List.length_cons, List.length_nil, Bool.false_eq_true, decide_true, decide_false, and_self, and_true, true_and, List.all_cons, List.all_nil, Bool.and_self, Bool.and_true, List.take_zero, List.take_succ_cons, List.drop_zero, List.drop_succ_cons, List.nil_append, List.cons_append, Nat.zero_add, Nat.le_refl, bne_self_eq_false, Nat.reduceAdd, Nat.reduceMul, Nat.reducePow, Nat.reduceSub, Nat.reduceEqDiff, Nat.reduceLT, Nat.reduceLeDiff, Int.reduceEq, Int.reduceNe, Int.reduceLT, Int.reduceLE, Int.reduceAdd, Int.reduceSub, Int.reduceToNat, Int.reduceBNe, Int.reduceBEq, tyR]; with_reducible rfl, ?_⟩
  exact ⟨(by first | exact rfl | exact True.intro), (by first | exact rfl | exact True.intro)⟩
def IdsS (l : List (Int × Int × Nat)) (H : AHeap) : AV → AHeap → Prop := fun r H' => Go.AM.Own H' r 3 (ints (isortI (l.map (·.1)))) ∧ Keep H H' (fun _ => False) ∧ ∀ b, r.at? = some b → H.length ≤ b
theorem sorted_ok (hI : Inv k ids us l a) {m clk : Nat} (hm : ML H m l clk) :
    ∃ r H', Pt (kn G base w0) 41 [.func (.func 47) [] [.ptr (.own H.length) 0]] (hnew H (.row 75 1 [.map (.own m)])) r H' ∧ IdsS l H r H' := by
  have hat1 : hat (hnew H (.row 75 1 [.map (.own m)])) m = some (.map (l.map enc) clk) := by rw [hat_nw _ hm.lt]; exact hm.at_
  have hes : (l.map enc).map (·.1) = (l.map (·.1)).map (AV.int .i64) := by simp [enc, Function.comp_def]
  have hlen : l.length ≤ 4096 := by have := hI.cnt; have := hI.k4; omega
  have hok : mapOk (l.map enc) clk (l.map (·.1)) = true := by
    simp only [mapOk, Bool.and_eq_true, Nat.ble_eq, List.all_eq_true, decide_eq_true_eq, Nat.blt_eq]
    refine ⟨by simp; omega, ?_, ?_, ?_, ?_⟩
    · intro z hz
      obtain ⟨e, he, rfl⟩ := List.mem_map.1 hz
      exact hI.rng e he
    · intro e he
      obtain ⟨e', he', rfl⟩ := List.mem_map.1 he
      exact hm.born e' he'
    · have : ((l.map enc).map fun e => (e.2.2 : Int)) = (l.map (·.2.2)).map (fun n : Nat => (n : Int)) := by simp [enc, Function.comp_def]
      rw [this]
      exact nodupI_of (List.Pairwise.map _ (fun a b h e => h (by omega)) hm.bnd)
    · exact nodupI_of hm.nodup
  have hp : ∀ r H', skeys.prim (kn G base w0).c [.func (.func 47) [] [.ptr (.own H.length) 0]] (hnew H (.row 75 1 [.map (.own m)])) = some (r, H') → Pt (kn G base w0) 41 [.func (.func 47) [] [.ptr (.own H.length) 0]] (hnew H (.row 75 1 [.map (.own m)])) r H' := by
    intro r H' e ρ w xs hr hf hx
    exact skeys.prim_ok (c := (kn G base w0).c) rfl 41 _ _ r H' (by simp only [if_true]; exact e) ρ w xs hr hf hx
  have hval : skeys.prim (kn G base w0).c [.func (.func 47) [] [.ptr (.own H.length) 0]] (hnew H (.row 75 1 [.map (.own m)])) = (if (l.map (·.1)).isEmpty then some (.nilslice, hnew H (.row 75 1 [.map (.own m)])) else some (.slice (fresh (hnew H (.row 75 1 [.map (.own m)]))) 1 0 (isortI (l.map (·.1))).length, hnew (hnew H (.row 75 1 [.map (.own m)])) (.row 3 1 ((isortI (l.map (·.1))).map (AV.int .i64))))) := by
    simp only [skeys.prim, rd_own (hat_nn _), List.getElem?_cons_zero, Option.map_some, Option.bind_some, hat1, hes, intsOf_ints, hok, if_true]
  by_cases h0 : l = []
  · subst h0
    refine ⟨_, _, hp _ _ hval, ?_, Keep.new _ _, fun b hb => by simp [AV.at?] at hb⟩
    have : isortI (([] : List (Int × Int × Nat)).map (·.1)) = [] := rfl
    rw [this]; exact Go.AM.Own.nil
  · have hne : (l.map (·.1)).isEmpty = false := by cases l <;> simp_all
    rw [hne] at hval
    have hsl : Go.AM.Own (hnew (hnew H (.row 75 1 [.map (.own m)])) (.row 3 1 ((isortI (l.map (·.1))).map (AV.int .i64)))) (.slice (fresh (hnew H (.row 75 1 [.map (.own m)]))) 1 0 (isortI (l.map (·.1))).length) 3 (ints (isortI (l.map (·.1)))) :=
      .inr ⟨(hnew H (.row 75 1 [.map (.own m)])).length, by rw [ints_len]; rfl, hat_nn _⟩
    refine ⟨_, _, hp _ _ hval, hsl, (Keep.new _ _).trans (Keep.new _ _), fun b hb => ?_⟩
    simp only [fresh, AV.at?, Option.some.injEq, len_new] at hb; omega
/-- s.IDs() -/
theorem ids_ok (hT : Sts H s o k ids us l clk a) (hI : Inv k ids us l a) : ∃ r H', Pt (kn G base w0) 35 [.ptr (.own s) 0] H r H' ∧ IdsS l H r H' := by
  have l2 := own_ld (G := G) (base := base) (w0 := w0) (i := 2) hT.row rfl ag75
  refine Pt.fn (n := 11) (rs := [.tmp 2]) Try.func35 (b := _) rfl rfl rfl (by decide) ?_
  refine D.sq (D.region (T := none_) (by simp only [rulesA, numbered, ayield, mapO, constAV, scAV, optval, abin, aint, acmp, aconv, aun, aeq, aminmax, afieldAddr, abuild, anew, fieldPlaces, afill, setSeg, kn_P, Option.bind_some, Option.bind_none, Option.map_some, Option.isSome_some, if_true, if_false, List.getElem?_toArray, List.getElem?_cons_zero, List.getElem?_cons_succ, beq_self_eq_true, Bool.not_true, Bool.not_false, List.length_cons, List.length_nil, Bool.false_eq_true, decide_true, decide_false, and_self, and_true, true_and, List.all_cons, List.all_nil, Bool.and_self, Bool.and_true, List.take_zero, List.take_succ_cons, List.drop_zero, List.drop_succ_cons, List.nil_append, List.cons_append, Nat.zero_add, Nat.le_refl, bne_self_eq_false, Nat.reduceAdd, Nat.reduceMul, Nat.reducePow, Nat.reduceSub, Nat.reduceEqDiff, Nat.reduceLT, Nat.reduceLeDiff, Int.reduceEq, Int.reduceNe, Int.reduceLT, Int.reduceLE, Int.reduceAdd, Int.reduceSub, Int.reduceToNat, Int.reduceBNe, Int.reduceBEq, tyR]; with_reducible rfl) ?_)
  simp only [Ks_n, Ks_e, Ks_r, Kb_n, Kb_e, Kb_r, Kl_n, Kl_e, Kl_r, Kf_r, Kf_n, Kc_n, Kx_n, Kx_e, Kx_r, Kb_ne, ne_eq, Nat.reduceEqDiff, not_false_eq_true]
  refine D.sq (D.sq (D.region (T := none_) (by simp only [rulesA, numbered, ayield, mapO, constAV, scAV, optval, abin, aint, acmp, aconv, aun, aeq, aminmax, afieldAddr, abuild, anew, fieldPlaces, afill, setSeg, kn_P, Option.bind_some, Option.bind_none, Option.map_some, Option.isSome_some, if_true, if_false, List.getElem?_toArray, List.getElem?_cons_zero, List.getElem?_cons_succ, beq_self_eq_true, Bool.not_true, Bool.not_false, List.length_cons, List.length_nil, Bool.false_eq_true, decide_true, decide_false, and_self, and_true, true_and, List.all_cons, List.all_nil, Bool.and_self, Bool.and_true, List.take_zero, List.take_succ_cons, List.drop_zero, List.drop_succ_cons, List.nil_append, List.cons_append, Nat.zero_add, Nat.le_refl, bne_self_eq_false, Nat.reduceAdd, Nat.reduceMul, Nat.reducePow, Nat.reduceSub, Nat.reduceEqDiff, Nat.reduceLT, Nat.reduceLeDiff, Int.reduceEq, Int.reduceNe, Int.reduceLT, Int.reduceLE, Int.reduceAdd, Int.reduceSub, Int.reduceToNat, Int.reduceBNe, Int.reduceBEq, tyR]; with_reducible rfl) ?_))
  simp only [Ks_n, Ks_e, Ks_r, Kb_n, Kb_e, Kb_r, Kl_n, Kl_e, Kl_r, Kf_r, Kf_n, Kc_n, Kx_n, Kx_e, Kx_r, Kb_ne, ne_eq, Nat.reduceEqDiff, not_false_eq_true]
  refine D.cond (by simp only [rulesA, numbered, ayield, mapO, constAV, scAV, optval, abin, aint, acmp, aconv, aun, aeq, aminmax, afieldAddr, abuild, anew, fieldPlaces, afill, setSeg, kn_P, Option.bind_some, Option.bind_none, Option.map_some, Option.isSome_some, if_true, if_false, List.getElem?_toArray, List.getElem?_cons_zero, List.getElem?_cons_succ, beq_self_eq_true, Bool.not_true, Bool.not_false, List.length_cons, List.length_nil, Bool.false_eq_true, decide_true, decide_false, and_self, and_true, true_and, List.all_cons, List.all_nil, Bool.and_self, Bool.and_true, List.take_zero, List.take_succ_cons, List.drop_zero, List.drop_succ_cons, List.nil_append, List.cons_append, Nat.zero_add, Nat.le_refl, bne_self_eq_false, Nat.reduceAdd, Nat.reduceMul, Nat.reducePow, Nat.reduceSub, Nat.reduceEqDiff, Nat.reduceLT, Nat.reduceLeDiff, Int.reduceEq, Int.reduceNe, Int.reduceLT, Int.reduceLE, Int.reduceAdd, Int.reduceSub, Int.reduceToNat, Int.reduceBNe, Int.reduceBEq, tyR]; with_reducible rfl) (fun h => ?_) (fun h => ?_)
  · cases h
  refine D.skip ?_
  simp only [Ks_n, Ks_e, Ks_r, Kb_n, Kb_e, Kb_r, Kl_n, Kl_e, Kl_r, Kf_r, Kf_n, Kc_n, Kx_n, Kx_e, Kx_r, Kb_ne, ne_eq, Nat.reduceEqDiff, not_false_eq_true]
  obtain ⟨r1, H1, hc1, rfl, rfl⟩ := call_two1 (κ := kn G base w0) (f := 42) (args := [.map (.own o.m)]) (H := H) (fun _ H r H' => r = .func (.func 47) [] [.ptr (.own H.length) 0] ∧ H' = hnew H (.row 75 1 [.map (.own o.m)])) (g := 41) (fun _ _ r H' => IdsS l H r H') (by decide) (keys_ok o.m)
  obtain ⟨r2, H2, hc2, q⟩ := call_two2 (κ := kn G base w0) (f := 42) (fun _ H r H' => r = .func (.func 47) [] [.ptr (.own H.length) 0] ∧ H' = hnew H (.row 75 1 [.map (.own o.m)])) (g := 41) (args := [.func (.func 47) [] [.ptr (.own H.length) 0]]) (H := hnew H (.row 75 1 [.map (.own o.m)])) (fun _ _ r H' => IdsS l H r H') (by decide) (sorted_ok hI hT.ml)
  refine D.sq (D.regC hc1 (by simp only [rulesA, numbered, ayield, mapO, constAV, scAV, optval, abin, aint, acmp, aconv, aun, aeq, aminmax, afieldAddr, abuild, anew, fieldPlaces, afill, setSeg, kn_P, Option.bind_some, Option.bind_none, Option.map_some, Option.isSome_some, if_true, if_false, List.getElem?_toArray, List.getElem?_cons_zero, List.getElem?_cons_succ, beq_self_eq_true, Bool.not_true, Bool.not_false, List.length_cons, List.length_nil, Bool.false_eq_true, decide_true, decide_false, and_self, and_true, true_and, List.all_cons, List.all_nil, Bool.and_self, Bool.and_true, List.take_zero, List.take_succ_cons, List.drop_zero, List.drop_succ_cons, List.nil_append, List.cons_append, Nat.zero_add, Nat.le_refl, bne_self_eq_false, Nat.reduceAdd, Nat.reduceMul, Nat.reducePow, Nat.reduceSub, Nat.reduceEqDiff, Nat.reduceLT, Nat.reduceLeDiff, Int.reduceEq, Int.reduceNe, Int.reduceLT, Int.reduceLE, Int.reduceAdd, Int.reduceSub, Int.reduceToNat, Int.reduceBNe, Int.reduceBEq, tyR, hc1, l2, hc2, hb19, hb18]; with_reducible rfl) ?_)
  simp only [Ks_n, Ks_e, Ks_r, Kb_n, Kb_e, Kb_r, Kl_n, Kl_e, Kl_r, Kf_r, Kf_n, Kc_n, Kx_n, Kx_e, Kx_r, Kb_ne, ne_eq, Nat.reduceEqDiff, not_false_eq_true]
  refine D.ret ?_
  simp only [Ks_n, Ks_e, Ks_r, Kb_n, Kb_e, Kb_r, Kl_n, Kl_e, Kl_r, Kf_r, Kf_n, Kc_n, Kx_n, Kx_e, Kx_r, Kb_ne, ne_eq, Nat.reduceEqDiff, not_false_eq_true]
  refine ⟨_, by simp only [resOf, aresult, rulesA, numbered, ayield, mapO, constAV, scAV, optval, abin, aint, acmp, aconv, aun, aeq, aminmax, afieldAddr, abuild, anew, fieldPlaces, afill, setSeg, kn_P, Option.bind_some, Option.bind_none, Option.map_some, Option.isSome_some, if_true, if_false, List.getElem?_toArray, List.getElem?_cons_zero, List.getElem?_cons_succ, beq_self_eq_true, Bool.not_true, Bool.not_false, List.length_cons, List.length_nil, Bool.false_eq_true, decide_true, decide_false, and_self, and_true, true_and, List.all_cons, List.all_nil, Bool.and_self, Bool.and_true, List.take_zero, List.take_succ_cons, List.drop_zero, List.drop_succ_cons, List.nil_append, List.cons_append, Nat.zero_add, Nat.le_refl, bne_self_eq_false, Nat.reduceAdd, Nat.reduceMul, Nat.reducePow, Nat.reduceSub, Nat.reduceEqDiff, Nat.reduceLT, Nat.reduceLeDiff, Int.reduceEq, Int.reduceNe, Int.reduceLT, Int.reduceLE, Int.reduceAdd, Int.reduceSub, Int.reduceToNat, Int.reduceBNe, Int.reduceBEq, tyR]; with_reducible rfl, ?_⟩
  exact q
end Go.Proofs.Ytecfofmndpgnjaa.sy
