/- slots.New (own work). -/
import Derived.Test.YtecfofmndpgnjaaSm
namespace Go.Proofs.Ytecfofmndpgnjaa.sy
open Go.AM Go.AM.Hp
set_option linter.unusedSimpArgs false
set_option linter.unusedVariables false
variable {G : List Nat → Option (List AV)} {base : Nat} {w0 : World}
set_option maxRecDepth 100000
variable {H : AHeap} {s : Nat} {o : Tb} {k : Nat} {ids : List Int} {us : List Bool} {l : List (Int × Int × Nat)} {clk : Nat} {a : List Int}
theorem reps1 (n : Nat) (v : AV) : reps n [v] = List.replicate n v := by
  induction n with
  | zero => rfl
  | succ n ih => simp only [reps, ih, List.singleton_append, List.replicate_succ]
theorem mk26 {n : Nat} (hn : n ≤ 4096) (H : AHeap) : amakeSlice (kn G base w0).c H 28 (.int .i64 n) (.int .i64 n) = some (.slice (.own H.length) 1 0 n, hnew H (.row 3 1 (ints (List.replicate n 0)))) := by
  rw [amake_eq]
  simp only [amakeSlice2, kn_P, Try.underlying28, Option.bind_some, in3, zc3]
  rw [if_pos ⟨by omega, by omega, by simp; omega, by omega, by simp, by simp, by simp [AV.one]⟩]
  simp [fresh, reps1]
theorem mk27 {n : Nat} (hn : n ≤ 4096) (H : AHeap) : amakeSlice (kn G base w0).c H 40 (.int .i64 n) (.int .i64 n) = some (.slice (.own H.length) 1 0 n, hnew H (.row 4 1 ((List.replicate n false).map AV.bool))) := by
  rw [amake_eq]
  simp only [amakeSlice2, kn_P, Try.underlying40, Option.bind_some, in4, zc4]
  rw [if_pos ⟨by omega, by omega, by simp; omega, by omega, by simp, by simp, by simp [AV.one]⟩]
  simp [fresh, reps1]
theorem bs46 (H : AHeap) : abuildSlice (kn G base w0).c H 77 0 [] = some (.slice (.own H.length) 1 0 0, hnew H (.row 3 1 [])) := by
  simp only [abuildSlice, kn_P, Try.underlying77, Option.bind_some, sz3, zc3]
  rw [if_neg (by simp), if_pos (by simp)]
  rfl
theorem mm1 (k : Int) : (if k < 0 then 0 else k) = max k 0 := by omega
theorem mm2 (k : Int) : (if 4096 < k then 4096 else k) = min k 4096 := by omega
def newObs (q n : Nat) : List AObj := [.row 3 1 (ints (List.replicate n 0)), .row 4 1 ((List.replicate n false).map AV.bool), .map [] 0, .row 3 1 [], .row 77 1 [.slice (.own (q + 3)) 1 0 0], .row 79 4 [.slice (.own q) 1 0 n, .slice (.own (q + 1)) 1 0 n, .map (.own (q + 2)), .ptr (.own (q + 4)) 0]]
theorem hat_more {L : List AObj} {i : Nat} {ob : AObj} (h : L[i]? = some ob) : hat (H ++ L.map some) (H.length + i) = some ob := by
  unfold hat
  rw [List.getElem?_append_right (by omega)]
  simp [h]
def NewS (x : Int) (H : AHeap) : AV → AHeap → Prop := fun r H' => ∃ (n s : Nat) (o : Tb) (a : List Int), (n : Int) = min (max x 0) 4096 ∧ r = .ptr (.own s) 0 ∧ Sts H' s o n (List.replicate n 0) (List.replicate n false) [] 0 a ∧ Inv n (List.replicate n 0) (List.replicate n false) [] a ∧ Keep H H' (fun _ => False) ∧ H.length ≤ s ∧ H.length ≤ o.bi ∧ H.length ≤ o.bu ∧ H.length ≤ o.m ∧ H.length ≤ o.pf ∧ H.length ≤ o.bf
theorem new_ok (x : Int) : ∃ r H', Pt (kn G base w0) 28 [.int .i64 x] H r H' ∧ NewS x H r H' := by
  obtain ⟨n, hn⟩ : ∃ n : Nat, (n : Int) = min (max x 0) 4096 := ⟨(min (max x 0) 4096).toNat, by omega⟩
  have hn4 : n ≤ 4096 := by omega
  refine Pt.fn (n := 31) (rs := [.tmp 2]) Try.func28 (b := _) rfl rfl rfl (by decide) ?_
  refine D.sq (D.region (T := none_) (by simp only [rulesA, numbered, ayield, mapO, constAV, scAV, optval, abin, aint, acmp, aconv, aun, aeq, aminmax, afieldAddr, abuild, anew, fieldPlaces, afill, setSeg, kn_P, Option.bind_some, Option.bind_none, Option.map_some, Option.isSome_some, if_true, if_false, List.getElem?_toArray, List.getElem?_cons_zero, List.getElem?_cons_succ, beq_self_eq_true, Bool.not_true, Bool.not_false, List.length_cons, List.length_nil, Bool.false_eq_true, decide_true, decide_false, and_self, and_true, true_and, List.all_cons, List.all_nil, Bool.and_self, Bool.and_true, List.take_zero, List.take_succ_cons, List.drop_zero, List.drop_succ_cons, List.nil_append, List.cons_append, Nat.zero_add, Nat.le_refl, bne_self_eq_false, Nat.reduceAdd, Nat.reduceMul, Nat.reducePow, Nat.reduceSub, Nat.reduceEqDiff, Nat.reduceLT, Nat.reduceLeDiff, Int.reduceEq, Int.reduceNe, Int.reduceLT, Int.reduceLE, Int.reduceAdd, Int.reduceSub, Int.reduceToNat, Int.reduceBNe, Int.reduceBEq, tyR]; with_reducible rfl) ?_)
  simp only [Ks_n, Ks_e, Ks_r, Kb_n, Kb_e, Kb_r, Kl_n, Kl_e, Kl_r, Kf_r, Kf_n, Kc_n, Kx_n, Kx_e, Kx_r, Kb_ne, ne_eq, Nat.reduceEqDiff, not_false_eq_true]
  refine D.sq (D.region (T := none_) (by simp only [rulesA, numbered, ayield, mapO, constAV, scAV, optval, abin, aint, acmp, aconv, aun, aeq, aminmax, afieldAddr, abuild, anew, fieldPlaces, afill, setSeg, kn_P, Option.bind_some, Option.bind_none, Option.map_some, Option.isSome_some, if_true, if_false, List.getElem?_toArray, List.getElem?_cons_zero, List.getElem?_cons_succ, beq_self_eq_true, Bool.not_true, Bool.not_false, List.length_cons, List.length_nil, Bool.false_eq_true, decide_true, decide_false, and_self, and_true, true_and, List.all_cons, List.all_nil, Bool.and_self, Bool.and_true, List.take_zero, List.take_succ_cons, List.drop_zero, List.drop_succ_cons, List.nil_append, List.cons_append, Nat.zero_add, Nat.le_refl, bne_self_eq_false, Nat.reduceAdd, Nat.reduceMul, Nat.reducePow, Nat.reduceSub, Nat.reduceEqDiff, Nat.reduceLT, Nat.reduceLeDiff, Int.reduceEq, Int.reduceNe, Int.reduceLT, Int.reduceLE, Int.reduceAdd, Int.reduceSub, Int.reduceToNat, Int.reduceBNe, Int.reduceBEq, tyR, List.foldlM_cons, List.foldlM_nil, mm1, mm2, ← hn, Option.pure_def, bind]; with_reducible rfl) ?_)
  simp only [Ks_n, Ks_e, Ks_r, Kb_n, Kb_e, Kb_r, Kl_n, Kl_e, Kl_r, Kf_r, Kf_n, Kc_n, Kx_n, Kx_e, Kx_r, Kb_ne, ne_eq, Nat.reduceEqDiff, not_false_eq_true]
  refine D.sq (D.plain (T := none_) (by kernel_rfl) (by simp only [rulesA, numbered, ayield, mapO, constAV, scAV, optval, abin, aint, acmp, aconv, aun, aeq, aminmax, afieldAddr, abuild, anew, fieldPlaces, afill, setSeg, kn_P, Option.bind_some, Option.bind_none, Option.map_some, Option.isSome_some, if_true, if_false, List.getElem?_toArray, List.getElem?_cons_zero, List.getElem?_cons_succ, beq_self_eq_true, Bool.not_true, Bool.not_false, List.length_cons, List.length_nil, Bool.false_eq_true, decide_true, decide_false, and_self, and_true, true_and, List.all_cons, List.all_nil, Bool.and_self, Bool.and_true, List.take_zero, List.take_succ_cons, List.drop_zero, List.drop_succ_cons, List.nil_append, List.cons_append, Nat.zero_add, Nat.le_refl, bne_self_eq_false, Nat.reduceAdd, Nat.reduceMul, Nat.reducePow, Nat.reduceSub, Nat.reduceEqDiff, Nat.reduceLT, Nat.reduceLeDiff, Int.reduceEq, Int.reduceNe, Int.reduceLT, Int.reduceLE, Int.reduceAdd, Int.reduceSub, Int.reduceToNat, Int.reduceBNe, Int.reduceBEq, tyR, mk26 hn4, mk27 hn4, bs46, fresh, len_new]; with_reducible rfl) ?_)
  simp only [Ks_n, Ks_e, Ks_r, Kb_n, Kb_e, Kb_r, Kl_n, Kl_e, Kl_r, Kf_r, Kf_n, Kc_n, Kx_n, Kx_e, Kx_r, Kb_ne, ne_eq, Nat.reduceEqDiff, not_false_eq_true]
  have e6 : hnew (hnew (hnew (hnew (hnew (hnew H (.row 3 1 (ints (List.replicate n 0)))) (.row 4 1 ((List.replicate n false).map AV.bool))) (.map [] 0)) (.row 3 1 [])) (.row 77 1 [.slice (.own (H.length + 1 + 1 + 1)) 1 0 0])) (.row 79 4 [.slice (.own H.length) 1 0 n, .slice (.own (H.length + 1)) 1 0 n, .map (.own (H.length + 1 + 1)), .ptr (.own (H.length + 1 + 1 + 1 + 1)) 0]) = H ++ (newObs H.length n).map some := by simp [hnew, newObs]
  rw [e6]
  clear e6
  generalize hH6 : H ++ (newObs H.length n).map some = H6
  have at6 : ∀ (i : Nat) (ob : AObj), (newObs H.length n)[i]? = some ob → hat H6 (H.length + i) = some ob := fun i ob h => by rw [← hH6]; exact hat_more h
  have len6 : H6.length = H.length + 6 := by rw [← hH6]; simp [newObs]
  have k6 : Keep H H6 (fun _ => False) := ⟨by omega, fun j hj _ => by rw [← hH6]; unfold hat; rw [List.getElem?_append_left hj]⟩
  have F6 : Fr H6 (H.length + 4) (H.length + 3) [] := ⟨at6 4 _ rfl, ⟨[], at6 3 _ rfl, by simp, rfl⟩, by omega⟩
  refine D.sq (D.sq (D.region (T := none_) (by simp only [rulesA, numbered, ayield, mapO, constAV, scAV, optval, abin, aint, acmp, aconv, aun, aeq, aminmax, afieldAddr, abuild, anew, fieldPlaces, afill, setSeg, kn_P, Option.bind_some, Option.bind_none, Option.map_some, Option.isSome_some, if_true, if_false, List.getElem?_toArray, List.getElem?_cons_zero, List.getElem?_cons_succ, beq_self_eq_true, Bool.not_true, Bool.not_false, List.length_cons, List.length_nil, Bool.false_eq_true, decide_true, decide_false, and_self, and_true, true_and, List.all_cons, List.all_nil, Bool.and_self, Bool.and_true, List.take_zero, List.take_succ_cons, List.drop_zero, List.drop_succ_cons, List.nil_append, List.cons_append, Nat.zero_add, Nat.le_refl, bne_self_eq_false, Nat.reduceAdd, Nat.reduceMul, Nat.reducePow, Nat.reduceSub, Nat.reduceEqDiff, Nat.reduceLT, Nat.reduceLeDiff, Int.reduceEq, Int.reduceNe, Int.reduceLT, Int.reduceLE, Int.reduceAdd, Int.reduceSub, Int.reduceToNat, Int.reduceBNe, Int.reduceBEq, tyR]; with_reducible rfl) ?_))
  simp only [Ks_n, Ks_e, Ks_r, Kb_n, Kb_e, Kb_r, Kl_n, Kl_e, Kl_r, Kf_r, Kf_n, Kc_n, Kx_n, Kx_e, Kx_r, Kb_ne, ne_eq, Nat.reduceEqDiff, not_false_eq_true]
  refine D.bl ?_
  refine D.lp (fun m env H' => ∃ (i : Nat) (b : Nat) (a : List Int), m = n - i ∧ i ≤ n ∧ Keep H6 H' (fun j => j = H.length + 4 ∨ j = H.length + 3) ∧ Fr H' (H.length + 4) b a ∧ (b = H.length + 3 ∨ H6.length ≤ b) ∧ a.Perm ((List.range i).map fun q : Nat => (q : Int)) ∧ Heap a a.length ∧ ELe (E 31 [(18, .int .i64 i), (17, .int .i64 n), (3, .ptr (.own (H.length + 5)) 0)]) env) n ⟨0, _, _, by omega, by omega, Keep.refl _, F6, .inl rfl, .refl _, fun i h0 hi => by simp at hi, by exact E_le (by decide) (E_size _ _) (by simp only [List.forall_mem_cons, List.not_mem_nil, false_implies, implies_true, and_true, E_get, Nat.reduceEqDiff, Nat.reduceLT, Nat.reduceLeDiff, if_true, if_false, and_self, true_and] <;> first | rfl | exact ⟨rfl, rfl⟩)⟩ ?_
  rintro m env H' ⟨i, b, a, rfl, hi, hk, hF, hb, hp, hh, he⟩
  refine D.forget he ?_
  clear he
  have hal : a.length = i := by rw [hp.length_eq]; simp
  have row' : hat H' (H.length + 5) = _ := (hk.2 (H.length + 5) (by omega) (by omega)).trans (at6 5 _ rfl)
  have l3 := own_ld (G := G) (base := base) (w0 := w0) (i := 3) row' rfl ag76
  refine D.sq (D.region (T := none_) (by simp only [rulesA, numbered, ayield, mapO, constAV, scAV, optval, abin, aint, acmp, aconv, aun, aeq, aminmax, afieldAddr, abuild, anew, fieldPlaces, afill, setSeg, kn_P, Option.bind_some, Option.bind_none, Option.map_some, Option.isSome_some, if_true, if_false, List.getElem?_toArray, List.getElem?_cons_zero, List.getElem?_cons_succ, beq_self_eq_true, Bool.not_true, Bool.not_false, List.length_cons, List.length_nil, Bool.false_eq_true, decide_true, decide_false, and_self, and_true, true_and, List.all_cons, List.all_nil, Bool.and_self, Bool.and_true, List.take_zero, List.take_succ_cons, List.drop_zero, List.drop_succ_cons, List.nil_append, List.cons_append, Nat.zero_add, Nat.le_refl, bne_self_eq_false, Nat.reduceAdd, Nat.reduceMul, Nat.reducePow, Nat.reduceSub, Nat.reduceEqDiff, Nat.reduceLT, Nat.reduceLeDiff, Int.reduceEq, Int.reduceNe, Int.reduceLT, Int.reduceLE, Int.reduceAdd, Int.reduceSub, Int.reduceToNat, Int.reduceBNe, Int.reduceBEq, tyR]; with_reducible rfl) ?_)
  simp only [Ks_n, Ks_e, Ks_r, Kb_n, Kb_e, Kb_r, Kl_n, Kl_e, Kl_r, Kf_r, Kf_n, Kc_n, Kx_n, Kx_e, Kx_r, Kb_ne, ne_eq, Nat.reduceEqDiff, not_false_eq_true]
  refine D.sq (D.cond (by simp only [rulesA, numbered, ayield, mapO, constAV, scAV, optval, abin, aint, acmp, aconv, aun, aeq, aminmax, afieldAddr, abuild, anew, fieldPlaces, afill, setSeg, kn_P, Option.bind_some, Option.bind_none, Option.map_some, Option.isSome_some, if_true, if_false, List.getElem?_toArray, List.getElem?_cons_zero, List.getElem?_cons_succ, beq_self_eq_true, Bool.not_true, Bool.not_false, List.length_cons, List.length_nil, Bool.false_eq_true, decide_true, decide_false, and_self, and_true, true_and, List.all_cons, List.all_nil, Bool.and_self, Bool.and_true, List.take_zero, List.take_succ_cons, List.drop_zero, List.drop_succ_cons, List.nil_append, List.cons_append, Nat.zero_add, Nat.le_refl, bne_self_eq_false, Nat.reduceAdd, Nat.reduceMul, Nat.reducePow, Nat.reduceSub, Nat.reduceEqDiff, Nat.reduceLT, Nat.reduceLeDiff, Int.reduceEq, Int.reduceNe, Int.reduceLT, Int.reduceLE, Int.reduceAdd, Int.reduceSub, Int.reduceToNat, Int.reduceBNe, Int.reduceBEq, tyR]; with_reducible rfl) (fun h => ?_) (fun h => ?_))
  · simp only [decide_eq_true_eq, Int.ofNat_lt] at h
    refine D.skip ?_
    simp only [Ks_n, Ks_e, Ks_r, Kb_n, Kb_e, Kb_r, Kl_n, Kl_e, Kl_r, Kf_r, Kf_n, Kc_n, Kx_n, Kx_e, Kx_r, Kb_ne, ne_eq, Nat.reduceEqDiff, not_false_eq_true]
    refine D.sq (D.bl (D.sq (D.region (T := none_) (by simp only [rulesA, numbered, ayield, mapO, constAV, scAV, optval, abin, aint, acmp, aconv, aun, aeq, aminmax, afieldAddr, abuild, anew, fieldPlaces, afill, setSeg, kn_P, Option.bind_some, Option.bind_none, Option.map_some, Option.isSome_some, if_true, if_false, List.getElem?_toArray, List.getElem?_cons_zero, List.getElem?_cons_succ, beq_self_eq_true, Bool.not_true, Bool.not_false, List.length_cons, List.length_nil, Bool.false_eq_true, decide_true, decide_false, and_self, and_true, true_and, List.all_cons, List.all_nil, Bool.and_self, Bool.and_true, List.take_zero, List.take_succ_cons, List.drop_zero, List.drop_succ_cons, List.nil_append, List.cons_append, Nat.zero_add, Nat.le_refl, bne_self_eq_false, Nat.reduceAdd, Nat.reduceMul, Nat.reducePow, Nat.reduceSub, Nat.reduceEqDiff, Nat.reduceLT, Nat.reduceLeDiff, Int.reduceEq, Int.reduceNe, Int.reduceLT, Int.reduceLE, Int.reduceAdd, Int.reduceSub, Int.reduceToNat, Int.reduceBNe, Int.reduceBEq, tyR]; with_reducible rfl) ?_)))
    simp only [Ks_n, Ks_e, Ks_r, Kb_n, Kb_e, Kb_r, Kl_n, Kl_e, Kl_r, Kf_r, Kf_n, Kc_n, Kx_n, Kx_e, Kx_r, Kb_ne, ne_eq, Nat.reduceEqDiff, not_false_eq_true]
    obtain ⟨r1, H1, hc1, b1, a1, hF1, hp1, hh1, hk1, hb1⟩ := call_only (κ := kn G base w0) (f := 36) (args := [.iface 76 (.ptr (.own (H.length + 4)) 0), .iface 3 (.int .i64 (i : Int))]) (H := H') (fun _ H0 r H' => PushS (H.length + 4) b a (i : Int) H0 r H') (hpush_ok hF i (by omega) hh)
    refine D.regC hc1 (by simp only [rulesA, numbered, ayield, mapO, constAV, scAV, optval, abin, aint, acmp, aconv, aun, aeq, aminmax, afieldAddr, abuild, anew, fieldPlaces, afill, setSeg, kn_P, Option.bind_some, Option.bind_none, Option.map_some, Option.isSome_some, if_true, if_false, List.getElem?_toArray, List.getElem?_cons_zero, List.getElem?_cons_succ, beq_self_eq_true, Bool.not_true, Bool.not_false, List.length_cons, List.length_nil, Bool.false_eq_true, decide_true, decide_false, and_self, and_true, true_and, List.all_cons, List.all_nil, Bool.and_self, Bool.and_true, List.take_zero, List.take_succ_cons, List.drop_zero, List.drop_succ_cons, List.nil_append, List.cons_append, Nat.zero_add, Nat.le_refl, bne_self_eq_false, Nat.reduceAdd, Nat.reduceMul, Nat.reducePow, Nat.reduceSub, Nat.reduceEqDiff, Nat.reduceLT, Nat.reduceLeDiff, Int.reduceEq, Int.reduceNe, Int.reduceLT, Int.reduceLE, Int.reduceAdd, Int.reduceSub, Int.reduceToNat, Int.reduceBNe, Int.reduceBEq, tyR, hc1, l3, hb15]; with_reducible rfl) ?_
    simp only [Ks_n, Ks_e, Ks_r, Kb_n, Kb_e, Kb_r, Kl_n, Kl_e, Kl_r, Kf_r, Kf_n, Kc_n, Kx_n, Kx_e, Kx_r, Kb_ne, ne_eq, Nat.reduceEqDiff, not_false_eq_true]
    have hw : IntKind.i64.wrap ((i : Int) + 1) = ((i + 1 : Nat) : Int) := wrapN _ (by omega) (by omega)
    refine D.region (T := none_) (by simp only [rulesA, numbered, ayield, mapO, constAV, scAV, optval, abin, aint, acmp, aconv, aun, aeq, aminmax, afieldAddr, abuild, anew, fieldPlaces, afill, setSeg, kn_P, Option.bind_some, Option.bind_none, Option.map_some, Option.isSome_some, if_true, if_false, List.getElem?_toArray, List.getElem?_cons_zero, List.getElem?_cons_succ, beq_self_eq_true, Bool.not_true, Bool.not_false, List.length_cons, List.length_nil, Bool.false_eq_true, decide_true, decide_false, and_self, and_true, true_and, List.all_cons, List.all_nil, Bool.and_self, Bool.and_true, List.take_zero, List.take_succ_cons, List.drop_zero, List.drop_succ_cons, List.nil_append, List.cons_append, Nat.zero_add, Nat.le_refl, bne_self_eq_false, Nat.reduceAdd, Nat.reduceMul, Nat.reducePow, Nat.reduceSub, Nat.reduceEqDiff, Nat.reduceLT, Nat.reduceLeDiff, Int.reduceEq, Int.reduceNe, Int.reduceLT, Int.reduceLE, Int.reduceAdd, Int.reduceSub, Int.reduceToNat, Int.reduceBNe, Int.reduceBEq, tyR, hw]; with_reducible rfl) ?_
    simp only [Ks_n, Ks_e, Ks_r, Kb_n, Kb_e, Kb_r, Kl_n, Kl_e, Kl_r, Kf_r, Kf_n, Kc_n, Kx_n, Kx_e, Kx_r, Kb_ne, ne_eq, Nat.reduceEqDiff, not_false_eq_true]
    refine ⟨n - (i + 1), by omega, i + 1, b1, a1, rfl, by omega, hk.trans' hk1 (fun j hj e => ?_), hF1, ?_, ?_, hh1, by exact E_le (by decide) (E_size _ _) (by simp only [List.forall_mem_cons, List.not_mem_nil, false_implies, implies_true, and_true, E_get, Nat.reduceEqDiff, Nat.reduceLT, Nat.reduceLeDiff, if_true, if_false, and_self, true_and] <;> first | rfl | exact ⟨rfl, rfl⟩)⟩
    · rcases hb with rfl | hb
      · exact e
      · rcases e with e | e
        · exact .inl e
        · omega
    · rcases hb1 with rfl | hb1
      · exact hb
      · exact .inr (by have := hk.1; omega)
    · rw [List.range_succ, List.map_append]
      exact hp1.trans (hp.append_right _)
  · simp only [decide_eq_false_iff_not, Int.ofNat_lt] at h
    obtain rfl : i = n := by omega
    refine D.exit ?_
    simp only [Ks_n, Ks_e, Ks_r, Kb_n, Kb_e, Kb_r, Kl_n, Kl_e, Kl_r, Kf_r, Kf_n, Kc_n, Kx_n, Kx_e, Kx_r, Kb_ne, ne_eq, Nat.reduceEqDiff, not_false_eq_true]
    refine D.sq (D.region (T := none_) (by simp only [rulesA, numbered, ayield, mapO, constAV, scAV, optval, abin, aint, acmp, aconv, aun, aeq, aminmax, afieldAddr, abuild, anew, fieldPlaces, afill, setSeg, kn_P, Option.bind_some, Option.bind_none, Option.map_some, Option.isSome_some, if_true, if_false, List.getElem?_toArray, List.getElem?_cons_zero, List.getElem?_cons_succ, beq_self_eq_true, Bool.not_true, Bool.not_false, List.length_cons, List.length_nil, Bool.false_eq_true, decide_true, decide_false, and_self, and_true, true_and, List.all_cons, List.all_nil, Bool.and_self, Bool.and_true, List.take_zero, List.take_succ_cons, List.drop_zero, List.drop_succ_cons, List.nil_append, List.cons_append, Nat.zero_add, Nat.le_refl, bne_self_eq_false, Nat.reduceAdd, Nat.reduceMul, Nat.reducePow, Nat.reduceSub, Nat.reduceEqDiff, Nat.reduceLT, Nat.reduceLeDiff, Int.reduceEq, Int.reduceNe, Int.reduceLT, Int.reduceLE, Int.reduceAdd, Int.reduceSub, Int.reduceToNat, Int.reduceBNe, Int.reduceBEq, tyR]; with_reducible rfl) ?_)
    simp only [Ks_n, Ks_e, Ks_r, Kb_n, Kb_e, Kb_r, Kl_n, Kl_e, Kl_r, Kf_r, Kf_n, Kc_n, Kx_n, Kx_e, Kx_r, Kb_ne, ne_eq, Nat.reduceEqDiff, not_false_eq_true]
    refine D.ret ?_
    simp only [Ks_n, Ks_e, Ks_r, Kb_n, Kb_e, Kb_r, Kl_n, Kl_e, Kl_r, Kf_r, Kf_n, Kc_n, Kx_n, Kx_e, Kx_r, Kb_ne, ne_eq, Nat.reduceEqDiff, not_false_eq_true]
    refine ⟨_, by simp only [resOf, aresult, rulesA, numbered, ayield, mapO, constAV, scAV, optval, abin, aint, acmp, aconv, aun, aeq, aminmax, afieldAddr, abuild, anew, fieldPlaces, afill, setSeg, kn_P, Option.bind_some, Option.bind_none, Option.map_some, Option.isSome_some, if_true, if_false, List.getElem?_toArray, List.getElem?_cons_zero, List.getElem?_cons_succ, beq_self_eq_true, Bool.not_true, Bool.not_false, List.length_cons, List.length_nil, Bool.false_eq_true, decide_true, decide_false, and_self, and_true, true_and, List.all_cons, List.all_nil, Bool.and_self, Bool.and_true, List.take_zero, List.take_succ_cons, List.drop_zero, List.drop_succ_cons, List.nil_append, List.cons_append, Nat.zero_add, Nat.le_refl, bne_self_eq_false, Nat.reduceAdd, Nat.reduceMul, Nat.reducePow, Nat.reduceSub, Nat.reduceEqDiff, Nat.reduceLT, Nat.reduceLeDiff, Int.reduceEq, Int.reduceNe, Int.reduceLT, Int.reduceLE, Int.reduceAdd, Int.reduceSub, Int.reduceToNat, Int.reduceBNe, Int.reduceBEq, tyR]; with_reducible rfl, ?_⟩
    have hmem : ∀ x, x ∈ a ↔ ∃ q : Nat, x = q ∧ q < i := by
      intro x
      rw [hp.mem_iff, List.mem_map]
      constructor
      · rintro ⟨q, hq, rfl⟩; exact ⟨q, rfl, by simpa using hq⟩
      · rintro ⟨q, rfl, hq⟩; exact ⟨q, by simpa using hq, rfl⟩
    have hrep : ∀ q : Nat, (List.replicate i false).getD q false = false := by
      intro q; simp only [List.getD_eq_getElem?_getD, List.getElem?_replicate]; split <;> rfl
    refine ⟨i, H.length + 5, ⟨H.length, H.length + 1, H.length + 2, H.length + 4, b⟩, a, hn, rfl, ⟨row', by simp, by simp, ?_, ?_, ⟨?_, by simp, by simp, by simp⟩, hF, ?_⟩, ⟨hn4, by simp, ?_, ?_, ?_, hh, by simp; omega, by simp⟩, ?_, by omega, Nat.le_refl _, Nat.le_add_right _ _, Nat.le_add_right _ _, Nat.le_add_right _ _, by show H.length ≤ b; omega⟩
    · exact (hk.2 H.length (by omega) (by omega)).trans (at6 0 _ rfl)
    · exact (hk.2 (H.length + 1) (by omega) (by omega)).trans (at6 1 _ rfl)
    · exact (hk.2 (H.length + 2) (by omega) (by omega)).trans (at6 2 _ rfl)
    · simp only []; omega
    · intro q hq hu; rw [hrep q] at hu; cases hu
    · intro x
      rw [hmem]
      constructor
      · rintro ⟨q, h1, h2⟩; exact ⟨q, h1, h2, hrep q⟩
      · rintro ⟨q, h1, h2, _⟩; exact ⟨q, h1, h2⟩
    · exact (hp.nodup_iff).2 (List.Pairwise.map _ (fun a b h e => h (by omega)) List.nodup_range)
    · exact k6.trans' hk (fun j hj e => by omega)
end Go.Proofs.Ytecfofmndpgnjaa.sy
