/- container/heap's Push and Pop over slots.free (own work). -/
import Derived.Test.YtecfofmndpgnjaaHw
namespace Go.Proofs.Ytecfofmndpgnjaa.sy
open Go.AM Go.AM.Hp
set_option linter.unusedSimpArgs false
set_option linter.unusedVariables false
variable {G : List Nat → Option (List AV)} {base : Nat} {w0 : World}
set_option maxRecDepth 100000
theorem app_fr {H : AHeap} {pf bf : Nat} {a : List Int} (h : Fr H pf bf a) (x : Int) (hl : a.length < 1000000) :
    ∃ b' H', aappend (kn G base w0).c (hnew H (.row 3 1 [.int .i64 x])) 77 (.slice (.own bf) 1 0 a.length) (.slice (.own H.length) 1 0 1) = some (.slice (.own b') 1 0 (a.length + 1), H') ∧
      (∃ cells, hat H' b' = some (.row 3 1 cells) ∧ a.length + 1 ≤ cells.length ∧ cells.take (a.length + 1) = ints (a ++ [x])) ∧ Keep H H' (fun j => j = bf) ∧ (b' = bf ∨ H.length ≤ b') := by
  obtain ⟨cells, c1, c2, c3⟩ := h.row
  have hb := hat_lt c1
  have hb' : hat (hnew H (.row 3 1 [.int .i64 x])) bf = some (.row 3 1 cells) := by rw [hat_nw _ hb]; exact c1
  have hsrc : source (kn G base w0).c (hnew H (.row 3 1 [.int .i64 x])) 1 (.slice (.own H.length) 1 0 1) = some (1, [.int .i64 x]) := by
    simp [source, rd_own (hat_nn _)]
  have e1 : ints (a ++ [x]) = ints a ++ [.int .i64 x] := by simp
  rw [aappend_eq]
  simp only [aappend2, kn_P, Try.underlying77, Option.bind_some, in3, zc3, hsrc]
  rw [if_pos ⟨by omega, by omega, by trivial⟩, if_neg (by omega), if_pos ⟨by trivial, by simp [AV.one]⟩, hb']
  simp only []
  rw [if_pos ⟨by trivial, by trivial, by omega⟩]
  by_cases hc : (0 + a.length + 1) * 1 ≤ cells.length
  · rw [if_pos hc]
    refine ⟨bf, _, rfl, ⟨setSeg cells ((0 + a.length) * 1) [.int .i64 x], hat_eq _ (by rw [len_new]; omega), by simp [setSeg]; omega, ?_⟩, ⟨by simp [hnew], fun j hj hne => ?_⟩, .inl rfl⟩
    · rw [e1, ← c3]
      simp only [setSeg, Nat.zero_add, Nat.mul_one]
      rw [List.take_append, List.length_take, Nat.min_eq_left c2]
      rw [List.take_of_length_le (by simp; omega)]
      congr 1
      rw [show a.length + 1 - a.length = 1 by omega]
      rfl
    · rw [hat_ne _ hne, hat_nw _ hj]
  · rw [if_neg hc, if_pos (by omega)]
    have hcl : cells.length = a.length := by omega
    refine ⟨H.length + 1, hnew ((hnew H (.row 3 1 [.int .i64 x])).set bf none) (.row 3 1 ((cells.drop (0 * 1)).take (a.length * 1) ++ [.int .i64 x])), by simp [fresh, len_new], ⟨(cells.drop (0 * 1)).take (a.length * 1) ++ [.int .i64 x], ?_, by simp; omega, ?_⟩, ⟨by simp [hnew] <;> omega, fun j hj hne => ?_⟩, .inr (by omega)⟩
    · have := hat_nn (H := (hnew H (.row 3 1 [.int .i64 x])).set bf none) (.row 3 1 ((cells.drop (0 * 1)).take (a.length * 1) ++ [.int .i64 x]))
      rw [List.length_set, len_new] at this
      exact this
    · rw [e1, ← c3]
      simp only [Nat.zero_mul, List.drop_zero, Nat.mul_one]
      rw [List.take_of_length_le (by simp; omega)]
    · rw [hat_nw _ (by rw [List.length_set, len_new]; omega), hat_ne _ hne, hat_nw _ hj]
/-- f.Push(x) -/
theorem fpush_ok {H : AHeap} {pf bf : Nat} {a : List Int} (hF : Fr H pf bf a) (x : Int) (hl : a.length < 1000000) :
    ∃ r H', Pt (kn G base w0) 89 [.ptr (.own pf) 0, .iface 3 (.int .i64 x)] H r H' ∧ (r = .tuple [] ∧ ∃ b', Fr H' pf b' (a ++ [x]) ∧ Keep H H' (fun j => j = pf ∨ j = bf) ∧ (b' = bf ∨ H.length ≤ b')) := by
  obtain ⟨b', H2, h1, ⟨cells, c1, c2, c3⟩, hk, hb⟩ := app_fr (G := G) (base := base) (w0 := w0) hF x hl
  obtain ⟨hpl, hbl⟩ := hF.lt
  have hv2 : hat H2 pf = some (.row 77 1 [.slice (.own bf) 1 0 a.length]) := by rw [hk.2 pf hpl hF.ne]; exact hF.var
  have hp2 := hat_lt hv2
  have hne : pf ≠ b' := by rcases hb with rfl | hb; exact hF.ne; omega
  have w1 := wr_own hv2 (off := 0) (v := .slice (.own b') 1 0 (a.length + 1)) (by simp) rfl
  refine Pt.fn (n := 20) (rs := []) Try.func89 (b := _) rfl rfl rfl (by decide) ?_
  refine D.sq (D.region (T := none_) (by simp only [rulesA, numbered, ayield, mapO, constAV, scAV, optval, abin, aint, acmp, aconv, aun, aeq, aminmax, afieldAddr, abuild, anew, fieldPlaces, afill, setSeg, kn_P, Option.bind_some, Option.bind_none, Option.map_some, Option.isSome_some, if_true, if_false, List.getElem?_toArray, List.getElem?_cons_zero, List.getElem?_cons_succ, beq_self_eq_true, Bool.not_true, Bool.not_false, List.length_cons, List.length_nil, Bool.false_eq_true, decide_true, decide_false, and_self, and_true, true_and, List.all_cons, List.all_nil, Bool.and_self, Bool.and_true, List.take_zero, List.take_succ_cons, List.drop_zero, List.drop_succ_cons, List.nil_append, List.cons_append, Nat.zero_add, Nat.le_refl, bne_self_eq_false, Nat.reduceAdd, Nat.reduceMul, Nat.reducePow, Nat.reduceSub, Nat.reduceEqDiff, Nat.reduceLT, Nat.reduceLeDiff, Int.reduceEq, Int.reduceNe, Int.reduceLT, Int.reduceLE, Int.reduceAdd, Int.reduceSub, Int.reduceToNat, Int.reduceBNe, Int.reduceBEq, tyR]; with_reducible rfl) ?_)
  simp only [Ks_n, Ks_e, Ks_r, Kb_n, Kb_e, Kb_r, Kl_n, Kl_e, Kl_r, Kf_r, Kf_n, Kc_n, Kx_n, Kx_e, Kx_r, Kb_ne, ne_eq, Nat.reduceEqDiff, not_false_eq_true]
  refine D.sq (D.region (T := none_) (by simp only [rulesA, numbered, ayield, mapO, constAV, scAV, optval, abin, aint, acmp, aconv, aun, aeq, aminmax, afieldAddr, abuild, anew, fieldPlaces, afill, setSeg, kn_P, Option.bind_some, Option.bind_none, Option.map_some, Option.isSome_some, if_true, if_false, List.getElem?_toArray, List.getElem?_cons_zero, List.getElem?_cons_succ, beq_self_eq_true, Bool.not_true, Bool.not_false, List.length_cons, List.length_nil, Bool.false_eq_true, decide_true, decide_false, and_self, and_true, true_and, List.all_cons, List.all_nil, Bool.and_self, Bool.and_true, List.take_zero, List.take_succ_cons, List.drop_zero, List.drop_succ_cons, List.nil_append, List.cons_append, Nat.zero_add, Nat.le_refl, bne_self_eq_false, Nat.reduceAdd, Nat.reduceMul, Nat.reducePow, Nat.reduceSub, Nat.reduceEqDiff, Nat.reduceLT, Nat.reduceLeDiff, Int.reduceEq, Int.reduceNe, Int.reduceLT, Int.reduceLE, Int.reduceAdd, Int.reduceSub, Int.reduceToNat, Int.reduceBNe, Int.reduceBEq, tyR]; with_reducible rfl) ?_)
  simp only [Ks_n, Ks_e, Ks_r, Kb_n, Kb_e, Kb_r, Kl_n, Kl_e, Kl_r, Kf_r, Kf_n, Kc_n, Kx_n, Kx_e, Kx_r, Kb_ne, ne_eq, Nat.reduceEqDiff, not_false_eq_true]
  refine D.cond (by simp only [rulesA, numbered, ayield, mapO, constAV, scAV, optval, abin, aint, acmp, aconv, aun, aeq, aminmax, afieldAddr, abuild, anew, fieldPlaces, afill, setSeg, kn_P, Option.bind_some, Option.bind_none, Option.map_some, Option.isSome_some, if_true, if_false, List.getElem?_toArray, List.getElem?_cons_zero, List.getElem?_cons_succ, beq_self_eq_true, Bool.not_true, Bool.not_false, List.length_cons, List.length_nil, Bool.false_eq_true, decide_true, decide_false, and_self, and_true, true_and, List.all_cons, List.all_nil, Bool.and_self, Bool.and_true, List.take_zero, List.take_succ_cons, List.drop_zero, List.drop_succ_cons, List.nil_append, List.cons_append, Nat.zero_add, Nat.le_refl, bne_self_eq_false, Nat.reduceAdd, Nat.reduceMul, Nat.reducePow, Nat.reduceSub, Nat.reduceEqDiff, Nat.reduceLT, Nat.reduceLeDiff, Int.reduceEq, Int.reduceNe, Int.reduceLT, Int.reduceLE, Int.reduceAdd, Int.reduceSub, Int.reduceToNat, Int.reduceBNe, Int.reduceBEq, tyR]; with_reducible rfl) (fun h => ?_) (fun h => ?_)
  rotate_left
  · cases h
  refine D.region (T := none_) (by simp only [rulesA, numbered, ayield, mapO, constAV, scAV, optval, abin, aint, acmp, aconv, aun, aeq, aminmax, afieldAddr, abuild, anew, fieldPlaces, afill, setSeg, kn_P, Option.bind_some, Option.bind_none, Option.map_some, Option.isSome_some, if_true, if_false, List.getElem?_toArray, List.getElem?_cons_zero, List.getElem?_cons_succ, beq_self_eq_true, Bool.not_true, Bool.not_false, List.length_cons, List.length_nil, Bool.false_eq_true, decide_true, decide_false, and_self, and_true, true_and, List.all_cons, List.all_nil, Bool.and_self, Bool.and_true, List.take_zero, List.take_succ_cons, List.drop_zero, List.drop_succ_cons, List.nil_append, List.cons_append, Nat.zero_add, Nat.le_refl, bne_self_eq_false, Nat.reduceAdd, Nat.reduceMul, Nat.reducePow, Nat.reduceSub, Nat.reduceEqDiff, Nat.reduceLT, Nat.reduceLeDiff, Int.reduceEq, Int.reduceNe, Int.reduceLT, Int.reduceLE, Int.reduceAdd, Int.reduceSub, Int.reduceToNat, Int.reduceBNe, Int.reduceBEq, tyR, hF.ldv, abuildSlice, reps, fresh, h1, astore, w1, List.set_cons_zero]; with_reducible rfl) ?_
  refine ⟨_, rfl, rfl, b', ⟨?_, ⟨cells, ?_, by simpa using c2, by simpa using c3⟩, hne⟩, ?_, hb⟩
  · rw [hat_eq _ hp2]; simp
  · rw [hat_ne _ (fun e => hne e.symm)]; exact c1
  · exact (hk.mono (fun _ _ e => .inr e)).trans' (Keep.set pf _) (fun _ _ e => .inl e)
/-- f.Pop() -/
theorem fpop_ok {H : AHeap} {pf bf : Nat} {a : List Int} (hF : Fr H pf bf a) {n : Nat} (hn : a.length = n + 1) (hl : a.length < 1000000) :
    ∃ r H', Pt (kn G base w0) 88 [.ptr (.own pf) 0] H r H' ∧ (r = .iface 3 (.int .i64 (at_ a n)) ∧ Fr H' pf bf (a.take n) ∧ Keep H H' (fun j => j = pf)) := by
  obtain ⟨hpl, hbl⟩ := hF.lt
  have hw : IntKind.i64.wrap ((a.length : Int) - 1) = (n : Int) := wrapN n (by omega) (by omega)
  have hsl : aslice (kn G base w0).c H 77 (.slice (.own bf) 1 0 a.length) none (some (.int .i64 n)) none = some (.slice (.own bf) 1 0 n, H) := by
    simp only [aslice, kn_P, Try.underlying77, Option.bind_some, sz3, abound]
    rw [if_neg (by simp)]
    try simp only [Option.bind_some]
    rw [if_pos (by omega)]
    try simp only [Option.bind_some, Int.toNat_natCast]
    rw [if_pos ⟨by omega, .inl (by omega)⟩]
    rfl
  have w1 := wr_own hF.var (off := 0) (v := .slice (.own bf) 1 0 n) (by simp) rfl
  refine Pt.fn (n := 25) (rs := [.tmp 2]) Try.func88 (b := _) rfl rfl rfl (by decide) ?_
  refine D.sq (D.region (T := none_) (by simp only [rulesA, numbered, ayield, mapO, constAV, scAV, optval, abin, aint, acmp, aconv, aun, aeq, aminmax, afieldAddr, abuild, anew, fieldPlaces, afill, setSeg, kn_P, Option.bind_some, Option.bind_none, Option.map_some, Option.isSome_some, if_true, if_false, List.getElem?_toArray, List.getElem?_cons_zero, List.getElem?_cons_succ, beq_self_eq_true, Bool.not_true, Bool.not_false, List.length_cons, List.length_nil, Bool.false_eq_true, decide_true, decide_false, and_self, and_true, true_and, List.all_cons, List.all_nil, Bool.and_self, Bool.and_true, List.take_zero, List.take_succ_cons, List.drop_zero, List.drop_succ_cons, List.nil_append, List.cons_append, Nat.zero_add, Nat.le_refl, bne_self_eq_false, Nat.reduceAdd, Nat.reduceMul, Nat.reducePow, Nat.reduceSub, Nat.reduceEqDiff, Nat.reduceLT, Nat.reduceLeDiff, Int.reduceEq, Int.reduceNe, Int.reduceLT, Int.reduceLE, Int.reduceAdd, Int.reduceSub, Int.reduceToNat, Int.reduceBNe, Int.reduceBEq, tyR]; with_reducible rfl) ?_)
  simp only [Ks_n, Ks_e, Ks_r, Kb_n, Kb_e, Kb_r, Kl_n, Kl_e, Kl_r, Kf_r, Kf_n, Kc_n, Kx_n, Kx_e, Kx_r, Kb_ne, ne_eq, Nat.reduceEqDiff, not_false_eq_true]
  refine D.sq (D.region (T := none_) (by simp only [rulesA, numbered, ayield, mapO, constAV, scAV, optval, abin, aint, acmp, aconv, aun, aeq, aminmax, afieldAddr, abuild, anew, fieldPlaces, afill, setSeg, kn_P, Option.bind_some, Option.bind_none, Option.map_some, Option.isSome_some, if_true, if_false, List.getElem?_toArray, List.getElem?_cons_zero, List.getElem?_cons_succ, beq_self_eq_true, Bool.not_true, Bool.not_false, List.length_cons, List.length_nil, Bool.false_eq_true, decide_true, decide_false, and_self, and_true, true_and, List.all_cons, List.all_nil, Bool.and_self, Bool.and_true, List.take_zero, List.take_succ_cons, List.drop_zero, List.drop_succ_cons, List.nil_append, List.cons_append, Nat.zero_add, Nat.le_refl, bne_self_eq_false, Nat.reduceAdd, Nat.reduceMul, Nat.reducePow, Nat.reduceSub, Nat.reduceEqDiff, Nat.reduceLT, Nat.reduceLeDiff, Int.reduceEq, Int.reduceNe, Int.reduceLT, Int.reduceLE, Int.reduceAdd, Int.reduceSub, Int.reduceToNat, Int.reduceBNe, Int.reduceBEq, tyR, hF.ldv, hF.sl.len Try.underlying77, ints_len, hw, alen]; with_reducible rfl) ?_)
  simp only [Ks_n, Ks_e, Ks_r, Kb_n, Kb_e, Kb_r, Kl_n, Kl_e, Kl_r, Kf_r, Kf_n, Kc_n, Kx_n, Kx_e, Kx_r, Kb_ne, ne_eq, Nat.reduceEqDiff, not_false_eq_true]
  refine D.sq (D.region (T := none_) (by simp only [rulesA, numbered, ayield, mapO, constAV, scAV, optval, abin, aint, acmp, aconv, aun, aeq, aminmax, afieldAddr, abuild, anew, fieldPlaces, afill, setSeg, kn_P, Option.bind_some, Option.bind_none, Option.map_some, Option.isSome_some, if_true, if_false, List.getElem?_toArray, List.getElem?_cons_zero, List.getElem?_cons_succ, beq_self_eq_true, Bool.not_true, Bool.not_false, List.length_cons, List.length_nil, Bool.false_eq_true, decide_true, decide_false, and_self, and_true, true_and, List.all_cons, List.all_nil, Bool.and_self, Bool.and_true, List.take_zero, List.take_succ_cons, List.drop_zero, List.drop_succ_cons, List.nil_append, List.cons_append, Nat.zero_add, Nat.le_refl, bne_self_eq_false, Nat.reduceAdd, Nat.reduceMul, Nat.reducePow, Nat.reduceSub, Nat.reduceEqDiff, Nat.reduceLT, Nat.reduceLeDiff, Int.reduceEq, Int.reduceNe, Int.reduceLT, Int.reduceLE, Int.reduceAdd, Int.reduceSub, Int.reduceToNat, Int.reduceBNe, Int.reduceBEq, tyR, hF.ldv, own_ia (show n < a.length by omega), hF.ld (show n < a.length by omega)]; with_reducible rfl) ?_)
  simp only [Ks_n, Ks_e, Ks_r, Kb_n, Kb_e, Kb_r, Kl_n, Kl_e, Kl_r, Kf_r, Kf_n, Kc_n, Kx_n, Kx_e, Kx_r, Kb_ne, ne_eq, Nat.reduceEqDiff, not_false_eq_true]
  refine D.sq (D.region (T := none_) (by simp only [rulesA, numbered, ayield, mapO, constAV, scAV, optval, abin, aint, acmp, aconv, aun, aeq, aminmax, afieldAddr, abuild, anew, fieldPlaces, afill, setSeg, kn_P, Option.bind_some, Option.bind_none, Option.map_some, Option.isSome_some, if_true, if_false, List.getElem?_toArray, List.getElem?_cons_zero, List.getElem?_cons_succ, beq_self_eq_true, Bool.not_true, Bool.not_false, List.length_cons, List.length_nil, Bool.false_eq_true, decide_true, decide_false, and_self, and_true, true_and, List.all_cons, List.all_nil, Bool.and_self, Bool.and_true, List.take_zero, List.take_succ_cons, List.drop_zero, List.drop_succ_cons, List.nil_append, List.cons_append, Nat.zero_add, Nat.le_refl, bne_self_eq_false, Nat.reduceAdd, Nat.reduceMul, Nat.reducePow, Nat.reduceSub, Nat.reduceEqDiff, Nat.reduceLT, Nat.reduceLeDiff, Int.reduceEq, Int.reduceNe, Int.reduceLT, Int.reduceLE, Int.reduceAdd, Int.reduceSub, Int.reduceToNat, Int.reduceBNe, Int.reduceBEq, tyR, hF.ldv, hsl, astore, w1, List.set_cons_zero]; with_reducible rfl) ?_)
  simp only [Ks_n, Ks_e, Ks_r, Kb_n, Kb_e, Kb_r, Kl_n, Kl_e, Kl_r, Kf_r, Kf_n, Kc_n, Kx_n, Kx_e, Kx_r, Kb_ne, ne_eq, Nat.reduceEqDiff, not_false_eq_true]
  refine D.sq (D.region (T := none_) (by simp only [rulesA, numbered, ayield, mapO, constAV, scAV, optval, abin, aint, acmp, aconv, aun, aeq, aminmax, afieldAddr, abuild, anew, fieldPlaces, afill, setSeg, kn_P, Option.bind_some, Option.bind_none, Option.map_some, Option.isSome_some, if_true, if_false, List.getElem?_toArray, List.getElem?_cons_zero, List.getElem?_cons_succ, beq_self_eq_true, Bool.not_true, Bool.not_false, List.length_cons, List.length_nil, Bool.false_eq_true, decide_true, decide_false, and_self, and_true, true_and, List.all_cons, List.all_nil, Bool.and_self, Bool.and_true, List.take_zero, List.take_succ_cons, List.drop_zero, List.drop_succ_cons, List.nil_append, List.cons_append, Nat.zero_add, Nat.le_refl, bne_self_eq_false, Nat.reduceAdd, Nat.reduceMul, Nat.reducePow, Nat.reduceSub, Nat.reduceEqDiff, Nat.reduceLT, Nat.reduceLeDiff, Int.reduceEq, Int.reduceNe, Int.reduceLT, Int.reduceLE, Int.reduceAdd, Int.reduceSub, Int.reduceToNat, Int.reduceBNe, Int.reduceBEq, tyR]; with_reducible rfl) ?_)
  simp only [Ks_n, Ks_e, Ks_r, Kb_n, Kb_e, Kb_r, Kl_n, Kl_e, Kl_r, Kf_r, Kf_n, Kc_n, Kx_n, Kx_e, Kx_r, Kb_ne, ne_eq, Nat.reduceEqDiff, not_false_eq_true]
  refine D.ret ?_
  simp only [Ks_n, Ks_e, Ks_r, Kb_n, Kb_e, Kb_r, Kl_n, Kl_e, Kl_r, Kf_r, Kf_n, Kc_n, Kx_n, Kx_e, Kx_r, Kb_ne, ne_eq, Nat.reduceEqDiff, not_false_eq_true]
  refine ⟨_, by simp only [resOf, aresult, rulesA, numbered, ayield, mapO, constAV, scAV, optval, abin, aint, acmp, aconv, aun, aeq, aminmax, afieldAddr, abuild, anew, fieldPlaces, afill, setSeg, kn_P, Option.bind_some, Option.bind_none, Option.map_some, Option.isSome_some, if_true, if_false, List.getElem?_toArray, List.getElem?_cons_zero, List.getElem?_cons_succ, beq_self_eq_true, Bool.not_true, Bool.not_false, List.length_cons, List.length_nil, Bool.false_eq_true, decide_true, decide_false, and_self, and_true, true_and, List.all_cons, List.all_nil, Bool.and_self, Bool.and_true, List.take_zero, List.take_succ_cons, List.drop_zero, List.drop_succ_cons, List.nil_append, List.cons_append, Nat.zero_add, Nat.le_refl, bne_self_eq_false, Nat.reduceAdd, Nat.reduceMul, Nat.reducePow, Nat.reduceSub, Nat.reduceEqDiff, Nat.reduceLT, Nat.reduceLeDiff, Int.reduceEq, Int.reduceNe, Int.reduceLT, Int.reduceLE, Int.reduceAdd, Int.reduceSub, Int.reduceToNat, Int.reduceBNe, Int.reduceBEq, tyR]; with_reducible rfl, ?_⟩
  obtain ⟨cells, c1, c2, c3⟩ := hF.row
  have htl : (a.take n).length = n := by simp; omega
  refine ⟨(by first | exact rfl | exact True.intro), ⟨?_, ⟨cells, ?_, by rw [htl]; omega, ?_⟩, hF.ne⟩, Keep.set pf _⟩
  · rw [hat_eq _ hpl, htl]
  · rw [hat_ne _ (fun e => hF.ne e.symm)]; exact c1
  · rw [htl]
    have : ints (a.take n) = (ints a).take n := by simp [ints]
    rw [this, ← c3, List.take_take, Nat.min_eq_left (by omega)]
theorem upto_push {a : List Int} (h : Heap a a.length) (x : Int) : UpTo (a ++ [x]) (a ++ [x]).length a.length := by
  have e : ∀ i, i < a.length → at_ (a ++ [x]) i = at_ a i := by
    intro i hi
    simp [at_, List.getD_eq_getElem?_getD, List.getElem?_append_left hi]
  refine ⟨fun i h0 hi hne => ?_, fun i h0 hi hp hj => ?_⟩
  · simp at hi
    rw [e _ (by omega), e _ (by omega)]
    exact h i h0 (by omega)
  · simp at hi; omega
/-- what is told behind heap.Push -/
def PushS (pf bf : Nat) (a : List Int) (x : Int) (H : AHeap) : AV → AHeap → Prop := fun r H' => ∃ b' a', Fr H' pf b' a' ∧ a'.Perm (a ++ [x]) ∧ Heap a' a'.length ∧ Keep H H' (fun j => j = pf ∨ j = bf) ∧ (b' = bf ∨ H.length ≤ b')
theorem hpush_ok {H : AHeap} {pf bf : Nat} {a : List Int} (hF : Fr H pf bf a) (x : Int) (hl : a.length < 100000) (hh : Heap a a.length) :
    ∃ r H', Pt (kn G base w0) 36 [.iface 76 (.ptr (.own pf) 0), .iface 3 (.int .i64 x)] H r H' ∧ PushS pf bf a x H r H' := by
  refine Pt.fn (n := 12) (rs := []) Try.func36 (b := _) rfl rfl rfl (by decide) ?_
  obtain ⟨r1, H1, hc1, rfl, b', hF1, hk1, hb1⟩ := call_only (κ := kn G base w0) (f := 89) (args := [.ptr (.own pf) 0, .iface 3 (.int .i64 x)]) (H := H) (fun _ H r H' => r = .tuple [] ∧ ∃ b', Fr H' pf b' (a ++ [x]) ∧ Keep H H' (fun j => j = pf ∨ j = bf) ∧ (b' = bf ∨ H.length ≤ b')) (fpush_ok hF x (by omega))
  refine D.sq (D.regC hc1 (by simp only [rulesA, numbered, ayield, mapO, constAV, scAV, optval, abin, aint, acmp, aconv, aun, aeq, aminmax, afieldAddr, abuild, anew, fieldPlaces, afill, setSeg, kn_P, Option.bind_some, Option.bind_none, Option.map_some, Option.isSome_some, if_true, if_false, List.getElem?_toArray, List.getElem?_cons_zero, List.getElem?_cons_succ, beq_self_eq_true, Bool.not_true, Bool.not_false, List.length_cons, List.length_nil, Bool.false_eq_true, decide_true, decide_false, and_self, and_true, true_and, List.all_cons, List.all_nil, Bool.and_self, Bool.and_true, List.take_zero, List.take_succ_cons, List.drop_zero, List.drop_succ_cons, List.nil_append, List.cons_append, Nat.zero_add, Nat.le_refl, bne_self_eq_false, Nat.reduceAdd, Nat.reduceMul, Nat.reducePow, Nat.reduceSub, Nat.reduceEqDiff, Nat.reduceLT, Nat.reduceLeDiff, Int.reduceEq, Int.reduceNe, Int.reduceLT, Int.reduceLE, Int.reduceAdd, Int.reduceSub, Int.reduceToNat, Int.reduceBNe, Int.reduceBEq, tyR, hc1, am_push, hb65]; with_reducible rfl) ?_)
  simp only [Ks_n, Ks_e, Ks_r, Kb_n, Kb_e, Kb_r, Kl_n, Kl_e, Kl_r, Kf_r, Kf_n, Kc_n, Kx_n, Kx_e, Kx_r, Kb_ne, ne_eq, Nat.reduceEqDiff, not_false_eq_true]
  obtain ⟨r2, H2, hc2, rfl, rfl⟩ := call_two1 (κ := kn G base w0) (f := 37) (args := [.slice (.own b') 1 0 (a ++ [x]).length]) (H := H1) (fun _ H r H' => r = .int .i64 (a ++ [x]).length ∧ H' = H) (g := 43) (fun _ H _ H' => UpS pf b' (a ++ [x]) (fun a' => Heap a' a'.length) H H') (by decide) (flen_ok hF1.sl)
  have hw : IntKind.i64.wrap (((a ++ [x]).length : Int) - 1) = (a.length : Int) := wrapN _ (by simp) (by omega)
  have hup := up_ok (G := G) (base := base) (w0 := w0) hF1 (j := a.length) (by simp) (by simp; omega) (upto_push hh x)
  obtain ⟨r3, H3, hc3, a', hF3, hp3, hh3, hk3⟩ := call_two2 (κ := kn G base w0) (f := 37) (fun _ H r H' => r = .int .i64 (a ++ [x]).length ∧ H' = H) (g := 43) (args := [.iface 76 (.ptr (.own pf) 0), .int .i64 a.length]) (H := H2) (fun _ H _ H' => UpS pf b' (a ++ [x]) (fun a' => Heap a' a'.length) H H') (by decide) (by
    obtain ⟨r, H', q1, q2, q3⟩ := hup
    exact ⟨r, H', q1, q3⟩)
  refine D.regC hc2 (by simp only [rulesA, numbered, ayield, mapO, constAV, scAV, optval, abin, aint, acmp, aconv, aun, aeq, aminmax, afieldAddr, abuild, anew, fieldPlaces, afill, setSeg, kn_P, Option.bind_some, Option.bind_none, Option.map_some, Option.isSome_some, if_true, if_false, List.getElem?_toArray, List.getElem?_cons_zero, List.getElem?_cons_succ, beq_self_eq_true, Bool.not_true, Bool.not_false, List.length_cons, List.length_nil, Bool.false_eq_true, decide_true, decide_false, and_self, and_true, true_and, List.all_cons, List.all_nil, Bool.and_self, Bool.and_true, List.take_zero, List.take_succ_cons, List.drop_zero, List.drop_succ_cons, List.nil_append, List.cons_append, Nat.zero_add, Nat.le_refl, bne_self_eq_false, Nat.reduceAdd, Nat.reduceMul, Nat.reducePow, Nat.reduceSub, Nat.reduceEqDiff, Nat.reduceLT, Nat.reduceLeDiff, Int.reduceEq, Int.reduceNe, Int.reduceLT, Int.reduceLE, Int.reduceAdd, Int.reduceSub, Int.reduceToNat, Int.reduceBNe, Int.reduceBEq, tyR, hc2, hc3, am_len, hF1.ldv, hb16, hw, hb20]; with_reducible rfl) ?_
  simp only [Ks_n, Ks_e, Ks_r, Kb_n, Kb_e, Kb_r, Kl_n, Kl_e, Kl_r, Kf_r, Kf_n, Kc_n, Kx_n, Kx_e, Kx_r, Kb_ne, ne_eq, Nat.reduceEqDiff, not_false_eq_true]
  refine ⟨_, rfl, b', a', hF3, hp3, hh3, hk1.trans' hk3 (fun j hj e => ?_), hb1⟩
  rcases hb1 with rfl | hb1
  · exact .inr e
  · omega
/-- what is told behind heap.Pop: the least number is taken out -/
def PopS (pf bf : Nat) (a : List Int) (H : AHeap) : AV → AHeap → Prop := fun r H' => ∃ (m : Int) (a' : List Int), r = .iface 3 (.int .i64 m) ∧ Fr H' pf bf a' ∧ (m :: a').Perm a ∧ (∀ x ∈ a, m ≤ x) ∧ Heap a' a'.length ∧ Keep H H' (fun j => j = pf ∨ j = bf)
theorem hpop_ok {H : AHeap} {pf bf : Nat} {a : List Int} (hF : Fr H pf bf a) {n : Nat} (hn : a.length = n + 1) (hl : a.length < 100000) (hh : Heap a a.length) :
    ∃ r H', Pt (kn G base w0) 38 [.iface 76 (.ptr (.own pf) 0)] H r H' ∧ PopS pf bf a H r H' := by
  refine Pt.fn (n := 15) (rs := [.tmp 2]) Try.func38 (b := _) rfl rfl rfl (by decide) ?_
  refine D.sq (D.region (T := none_) (by simp only [rulesA, numbered, ayield, mapO, constAV, scAV, optval, abin, aint, acmp, aconv, aun, aeq, aminmax, afieldAddr, abuild, anew, fieldPlaces, afill, setSeg, kn_P, Option.bind_some, Option.bind_none, Option.map_some, Option.isSome_some, if_true, if_false, List.getElem?_toArray, List.getElem?_cons_zero, List.getElem?_cons_succ, beq_self_eq_true, Bool.not_true, Bool.not_false, List.length_cons, List.length_nil, Bool.false_eq_true, decide_true, decide_false, and_self, and_true, true_and, List.all_cons, List.all_nil, Bool.and_self, Bool.and_true, List.take_zero, List.take_succ_cons, List.drop_zero, List.drop_succ_cons, List.nil_append, List.cons_append, Nat.zero_add, Nat.le_refl, bne_self_eq_false, Nat.reduceAdd, Nat.reduceMul, Nat.reducePow, Nat.reduceSub, Nat.reduceEqDiff, Nat.reduceLT, Nat.reduceLeDiff, Int.reduceEq, Int.reduceNe, Int.reduceLT, Int.reduceLE, Int.reduceAdd, Int.reduceSub, Int.reduceToNat, Int.reduceBNe, Int.reduceBEq, tyR]; with_reducible rfl) ?_)
  simp only [Ks_n, Ks_e, Ks_r, Kb_n, Kb_e, Kb_r, Kl_n, Kl_e, Kl_r, Kf_r, Kf_n, Kc_n, Kx_n, Kx_e, Kx_r, Kb_ne, ne_eq, Nat.reduceEqDiff, not_false_eq_true]
  have hw : IntKind.i64.wrap ((a.length : Int) - 1) = (n : Int) := wrapN n (by omega) (by omega)
  obtain ⟨r1, H1, hc1, rfl, rfl⟩ := call_only (κ := kn G base w0) (f := 37) (args := [.slice (.own bf) 1 0 a.length]) (H := H) (fun _ H r H' => r = .int .i64 a.length ∧ H' = H) (flen_ok hF.sl)
  refine D.sq (D.regC hc1 (by simp only [rulesA, numbered, ayield, mapO, constAV, scAV, optval, abin, aint, acmp, aconv, aun, aeq, aminmax, afieldAddr, abuild, anew, fieldPlaces, afill, setSeg, kn_P, Option.bind_some, Option.bind_none, Option.map_some, Option.isSome_some, if_true, if_false, List.getElem?_toArray, List.getElem?_cons_zero, List.getElem?_cons_succ, beq_self_eq_true, Bool.not_true, Bool.not_false, List.length_cons, List.length_nil, Bool.false_eq_true, decide_true, decide_false, and_self, and_true, true_and, List.all_cons, List.all_nil, Bool.and_self, Bool.and_true, List.take_zero, List.take_succ_cons, List.drop_zero, List.drop_succ_cons, List.nil_append, List.cons_append, Nat.zero_add, Nat.le_refl, bne_self_eq_false, Nat.reduceAdd, Nat.reduceMul, Nat.reducePow, Nat.reduceSub, Nat.reduceEqDiff, Nat.reduceLT, Nat.reduceLeDiff, Int.reduceEq, Int.reduceNe, Int.reduceLT, Int.reduceLE, Int.reduceAdd, Int.reduceSub, Int.reduceToNat, Int.reduceBNe, Int.reduceBEq, tyR, hc1, am_len, hF.ldv, hb16, hw]; with_reducible rfl) ?_)
  simp only [Ks_n, Ks_e, Ks_r, Kb_n, Kb_e, Kb_r, Kl_n, Kl_e, Kl_r, Kf_r, Kf_n, Kc_n, Kx_n, Kx_e, Kx_r, Kb_ne, ne_eq, Nat.reduceEqDiff, not_false_eq_true]
  obtain ⟨r2, H2, hc2, rfl, hF2, hk2⟩ := call_only (κ := kn G base w0) (f := 90) (args := [.slice (.own bf) 1 0 a.length, .int .i64 0, .int .i64 n]) (H := H1) (fun _ H r H' => r = .tuple [] ∧ Fr H' pf bf (swp a 0 n) ∧ Keep H H' (fun j => j = bf)) (fswap_ok (i := 0) (k := n) hF (by omega) (by omega))
  refine D.sq (D.regC hc2 (by simp only [rulesA, numbered, ayield, mapO, constAV, scAV, optval, abin, aint, acmp, aconv, aun, aeq, aminmax, afieldAddr, abuild, anew, fieldPlaces, afill, setSeg, kn_P, Option.bind_some, Option.bind_none, Option.map_some, Option.isSome_some, if_true, if_false, List.getElem?_toArray, List.getElem?_cons_zero, List.getElem?_cons_succ, beq_self_eq_true, Bool.not_true, Bool.not_false, List.length_cons, List.length_nil, Bool.false_eq_true, decide_true, decide_false, and_self, and_true, true_and, List.all_cons, List.all_nil, Bool.and_self, Bool.and_true, List.take_zero, List.take_succ_cons, List.drop_zero, List.drop_succ_cons, List.nil_append, List.cons_append, Nat.zero_add, Nat.le_refl, bne_self_eq_false, Nat.reduceAdd, Nat.reduceMul, Nat.reducePow, Nat.reduceSub, Nat.reduceEqDiff, Nat.reduceLT, Nat.reduceLeDiff, Int.reduceEq, Int.reduceNe, Int.reduceLT, Int.reduceLE, Int.reduceAdd, Int.reduceSub, Int.reduceToNat, Int.reduceBNe, Int.reduceBEq, tyR, hc2, am_swap, hF.ldv, hb66]; with_reducible rfl) ?_)
  simp only [Ks_n, Ks_e, Ks_r, Kb_n, Kb_e, Kb_r, Kl_n, Kl_e, Kl_r, Kf_r, Kf_n, Kc_n, Kx_n, Kx_e, Kx_r, Kb_ne, ne_eq, Nat.reduceEqDiff, not_false_eq_true]
  have hdt : DownTo (swp a 0 n) n 0 := by
    refine ⟨fun i h0 hi hne => ?_, fun i _ _ _ h => by omega⟩
    rw [at_swp (by omega) (by omega), at_swp (by omega) (by omega), if_neg hne, if_neg (by omega), if_neg (by omega), if_neg (by omega)]
    exact hh i h0 (by omega)
  obtain ⟨r3, H3, hc3, b, hF3, hp3, ⟨hh3, hr3⟩, hk3⟩ := call_only (κ := kn G base w0) (f := 44) (args := [.iface 76 (.ptr (.own pf) 0), .int .i64 0, .int .i64 n]) (H := H2) (fun _ H _ H' => UpS pf bf (swp a 0 n) (fun a' => Heap a' n ∧ ∀ i, n ≤ i → at_ a' i = at_ (swp a 0 n) i) H H') (down_ok hF2 (by rw [swp_len]; omega) (by rw [swp_len]; omega) hdt)
  refine D.sq (D.regC hc3 (by simp only [rulesA, numbered, ayield, mapO, constAV, scAV, optval, abin, aint, acmp, aconv, aun, aeq, aminmax, afieldAddr, abuild, anew, fieldPlaces, afill, setSeg, kn_P, Option.bind_some, Option.bind_none, Option.map_some, Option.isSome_some, if_true, if_false, List.getElem?_toArray, List.getElem?_cons_zero, List.getElem?_cons_succ, beq_self_eq_true, Bool.not_true, Bool.not_false, List.length_cons, List.length_nil, Bool.false_eq_true, decide_true, decide_false, and_self, and_true, true_and, List.all_cons, List.all_nil, Bool.and_self, Bool.and_true, List.take_zero, List.take_succ_cons, List.drop_zero, List.drop_succ_cons, List.nil_append, List.cons_append, Nat.zero_add, Nat.le_refl, bne_self_eq_false, Nat.reduceAdd, Nat.reduceMul, Nat.reducePow, Nat.reduceSub, Nat.reduceEqDiff, Nat.reduceLT, Nat.reduceLeDiff, Int.reduceEq, Int.reduceNe, Int.reduceLT, Int.reduceLE, Int.reduceAdd, Int.reduceSub, Int.reduceToNat, Int.reduceBNe, Int.reduceBEq, tyR, hc3, hb21]; with_reducible rfl) ?_)
  simp only [Ks_n, Ks_e, Ks_r, Kb_n, Kb_e, Kb_r, Kl_n, Kl_e, Kl_r, Kf_r, Kf_n, Kc_n, Kx_n, Kx_e, Kx_r, Kb_ne, ne_eq, Nat.reduceEqDiff, not_false_eq_true]
  have hbl : b.length = n + 1 := by rw [hp3.length_eq, swp_len, hn]
  obtain ⟨r4, H4, hc4, rfl, hF4, hk4⟩ := call_only (κ := kn G base w0) (f := 88) (args := [.ptr (.own pf) 0]) (H := H3) (fun _ H r H' => r = .iface 3 (.int .i64 (at_ b n)) ∧ Fr H' pf bf (b.take n) ∧ Keep H H' (fun j => j = pf)) (fpop_ok hF3 hbl (by omega))
  refine D.sq (D.regC hc4 (by simp only [rulesA, numbered, ayield, mapO, constAV, scAV, optval, abin, aint, acmp, aconv, aun, aeq, aminmax, afieldAddr, abuild, anew, fieldPlaces, afill, setSeg, kn_P, Option.bind_some, Option.bind_none, Option.map_some, Option.isSome_some, if_true, if_false, List.getElem?_toArray, List.getElem?_cons_zero, List.getElem?_cons_succ, beq_self_eq_true, Bool.not_true, Bool.not_false, List.length_cons, List.length_nil, Bool.false_eq_true, decide_true, decide_false, and_self, and_true, true_and, List.all_cons, List.all_nil, Bool.and_self, Bool.and_true, List.take_zero, List.take_succ_cons, List.drop_zero, List.drop_succ_cons, List.nil_append, List.cons_append, Nat.zero_add, Nat.le_refl, bne_self_eq_false, Nat.reduceAdd, Nat.reduceMul, Nat.reducePow, Nat.reduceSub, Nat.reduceEqDiff, Nat.reduceLT, Nat.reduceLeDiff, Int.reduceEq, Int.reduceNe, Int.reduceLT, Int.reduceLE, Int.reduceAdd, Int.reduceSub, Int.reduceToNat, Int.reduceBNe, Int.reduceBEq, tyR, hc4, am_pop, hb64]; with_reducible rfl) ?_)
  simp only [Ks_n, Ks_e, Ks_r, Kb_n, Kb_e, Kb_r, Kl_n, Kl_e, Kl_r, Kf_r, Kf_n, Kc_n, Kx_n, Kx_e, Kx_r, Kb_ne, ne_eq, Nat.reduceEqDiff, not_false_eq_true]
  refine D.ret ?_
  simp only [Ks_n, Ks_e, Ks_r, Kb_n, Kb_e, Kb_r, Kl_n, Kl_e, Kl_r, Kf_r, Kf_n, Kc_n, Kx_n, Kx_e, Kx_r, Kb_ne, ne_eq, Nat.reduceEqDiff, not_false_eq_true]
  refine ⟨_, by simp only [resOf, aresult, rulesA, numbered, ayield, mapO, constAV, scAV, optval, abin, aint, acmp, aconv, aun, aeq, aminmax, afieldAddr, abuild, anew, fieldPlaces, afill, setSeg, kn_P, Option.bind_some, Option.bind_none, Option.map_some, Option.isSome_some, if_true, if_false, List.getElem?_toArray, List.getElem?_cons_zero, List.getElem?_cons_succ, beq_self_eq_true, Bool.not_true, Bool.not_false, List.length_cons, List.length_nil, Bool.false_eq_true, decide_true, decide_false, and_self, and_true, true_and, List.all_cons, List.all_nil, Bool.and_self, Bool.and_true, List.take_zero, List.take_succ_cons, List.drop_zero, List.drop_succ_cons, List.nil_append, List.cons_append, Nat.zero_add, Nat.le_refl, bne_self_eq_false, Nat.reduceAdd, Nat.reduceMul, Nat.reducePow, Nat.reduceSub, Nat.reduceEqDiff, Nat.reduceLT, Nat.reduceLeDiff, Int.reduceEq, Int.reduceNe, Int.reduceLT, Int.reduceLE, Int.reduceAdd, Int.reduceSub, Int.reduceToNat, Int.reduceBNe, Int.reduceBEq, tyR]; with_reducible rfl, ?_⟩
  have hbn : at_ b n = at_ a 0 := by
    rw [hr3 n (Nat.le_refl _), at_swp (by omega) (by omega)]
    split
    · rename_i h; rw [h]
    · rw [if_pos rfl]
  have hpm : (at_ b n :: b.take n).Perm a := by
    have e : b.take n ++ [at_ b n] = b := by
      rw [at_get (by omega), ← List.take_succ_eq_append_getElem (by omega), ← hbl, List.take_length]
    have h1 : (at_ b n :: b.take n).Perm (b.take n ++ [at_ b n]) := (List.perm_append_singleton _ _).symm
    exact h1.trans (by rw [e]; exact hp3.trans (swp_perm (by omega) (by omega)))
  refine ⟨_, _, rfl, hF4, hpm, fun x hx => by rw [hbn]; exact heap_least hh x hx, ?_, ?_⟩
  · have htl : (b.take n).length = n := by simp; omega
    rw [htl]
    intro i h0 hi
    have e : ∀ j, j < n → at_ (b.take n) j = at_ b j := by
      intro j hj; simp [at_, List.getD_eq_getElem?_getD, List.getElem?_take, hj]
    rw [e _ (by omega), e _ hi]
    exact hh3 i h0 hi
  · have k1 : Keep H1 H3 (fun j => j = pf ∨ j = bf) := (hk2.trans hk3).mono (fun _ _ e => .inr e)
    exact k1.trans' hk4 (fun _ _ e => .inl e)
end Go.Proofs.Ytecfofmndpgnjaa.sy
