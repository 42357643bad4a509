/- jobs.Jobs (own work): the table of tasks behind a pointer; get, IDs, Task. -/
import Derived.Test.YtecfofmndpgnjaaSt
import Derived.Test.YtecfofmndpgnjaaJp
namespace Go.Proofs.Ytecfofmndpgnjaa.sy
open Go.AM Go.AM.Hp Go.AM.Jb
set_option linter.unusedSimpArgs false
set_option linter.unusedVariables false
variable {G : List Nat → Option (List AV)} {base : Nat} {w0 : World}
set_option maxRecDepth 100000
theorem hJ30 : hasBody Try.prog 30 = true := by kernel_rfl
theorem hJ31 : hasBody Try.prog 31 = true := by kernel_rfl
theorem hJ27 : hasBody Try.prog 27 = true := by kernel_rfl
theorem hJ14 : hasBody Try.prog 14 = true := by kernel_rfl
/-- what is behind a pointer to Jobs -/
structure Jx (H : AHeap) (pj s bl k : Nat) (o : Tb) (f : Int → Option Int) (gs : List Tk) (ts : List Tk) : Prop where
  row : hat H pj = some (.row 66 2 [.ptr (.own s) 0, .slice (.own bl) 11 0 k])
  t : T H s o k f ts.length
  cells : RowF H bl 35 wT gs
  gl : gs.length = k
  fwd : ∀ t ∈ ts, ∃ n : Nat, f t.id = some (n : Int) ∧ gs[n]? = some t
  bwd : ∀ q x, f q = some x → ∃ t ∈ ts, t.id = q
  srt : Srt ts
  n1 : pj ≠ bl
  n2 : pj ≠ s ∧ ¬ Own o pj
  n3 : bl ≠ s ∧ ¬ Own o bl
def JS (H : AHeap) (pj s bl k : Nat) (o : Tb) (ts : List Tk) : Prop := ∃ f gs, Jx H pj s bl k o f gs ts
/-- what may be turned by a deed -/
def JOwn (bl : Nat) (o : Tb) : Nat → Prop := fun j => j = bl ∨ Own o j
variable {H : AHeap} {pj s bl k : Nat} {o : Tb} {f : Int → Option Int} {gs ts : List Tk}
theorem Jx.keep {H' : AHeap} (h : Jx H pj s bl k o f gs ts) (hk : ∀ j, (j = pj ∨ j = s ∨ j = bl ∨ Own o j) → hat H' j = hat H j) : Jx H' pj s bl k o f gs ts :=
  ⟨by rw [hk _ (.inl rfl)]; exact h.row, h.t.keep fun j hj => hk j (by rcases hj with h | h; exact .inr (.inl h); exact .inr (.inr (.inr h))), h.cells.keep (hk _ (.inr (.inr (.inl rfl)))), h.gl, h.fwd, h.bwd, h.srt, h.n1, h.n2, h.n3⟩
theorem Jx.lt (h : Jx H pj s bl k o f gs ts) {j : Nat} (hj : j = pj ∨ j = s ∨ j = bl ∨ Own o j) : j < H.length := by
  rcases hj with rfl | rfl | rfl | hj
  · exact hat_lt h.row
  · exact h.t.own_lt (.inl rfl)
  · exact h.cells.lt
  · exact h.t.own_lt (.inr hj)
theorem Jx.keepF {H' : AHeap} (h : Jx H pj s bl k o f gs ts) (hk : Keep H H' (fun _ => False)) : Jx H' pj s bl k o f gs ts := h.keep fun j hj => hk.2 j (h.lt hj) (fun e => e)
theorem JS.keep {H' : AHeap} (h : JS H pj s bl k o ts) (hk : ∀ j, (j = pj ∨ j = s ∨ j = bl ∨ Own o j) → hat H' j = hat H j) : JS H' pj s bl k o ts := by
  obtain ⟨f, gs, h⟩ := h; exact ⟨f, gs, h.keep hk⟩
theorem JS.lt (h : JS H pj s bl k o ts) {j : Nat} (hj : j = pj ∨ j = s ∨ j = bl ∨ Own o j) : j < H.length := by
  obtain ⟨f, gs, h⟩ := h; exact h.lt hj
theorem JS.keepF {H' : AHeap} (h : JS H pj s bl k o ts) (hk : Keep H H' (fun _ => False)) : JS H' pj s bl k o ts := h.keep fun j hj => hk.2 j (h.lt hj) (fun e => e)
/-- where a task stands -/
theorem Jx.at (h : Jx H pj s bl k o f gs ts) {id : Int} {t : Tk} (ht : tf ts id = some t) : ∃ n : Nat, f id = some (n : Int) ∧ n < gs.length ∧ gs[n]? = some t := by
  obtain ⟨h1, rfl⟩ := tf_some ht
  obtain ⟨n, h2, h3⟩ := h.fwd t h1
  exact ⟨n, h2, (List.getElem?_eq_some_iff.1 h3).1, h3⟩
theorem Jx.no (h : Jx H pj s bl k o f gs ts) {id : Int} (ht : tf ts id = none) : f id = none := by
  cases hq : f id with
  | none => rfl
  | some x =>
    obtain ⟨t, h1, h2⟩ := h.bwd _ _ hq
    exact absurd h2 (tf_none.1 ht t h1)
/-- j.get(id) -/
def GetS (ts : List Tk) (f : Int → Option Int) (gs : List Tk) (bl : Nat) (id : Int) (H : AHeap) : AV → AHeap → Prop := fun r H' => H' = H ∧
  ((tf ts id = none ∧ r = .nilptr) ∨ ∃ (t : Tk) (n : Nat), tf ts id = some t ∧ f id = some (n : Int) ∧ n < gs.length ∧ gs[n]? = some t ∧ r = .ptr (.own bl) (n * 11))
theorem get_okJ (h : Jx H pj s bl k o f gs ts) (id : Int) : ∃ r H', Pt (kn G base w0) 30 [.ptr (.own pj) 0, .int .i64 id] H r H' ∧ GetS ts f gs bl id H r H' := by
  refine Pt.fn (n := 26) (rs := [.tmp 4]) Try.func30 (b := _) rfl rfl rfl (by decide) ?_
  have l0 : aload (kn G base w0).c H 62 (.ptr (.own pj) 0) = some (.ptr (.own s) 0) := ld_own h.row rfl ag62
  have l1 : aload (kn G base w0).c H 64 (.ptr (.own pj) 1) = some (.slice (.own bl) 11 0 k) := ld_own h.row rfl ag64
  repeat (first | with_reducible refine D.sq ?_ | with_reducible refine D.bl ?_ | with_reducible refine D.skip ?_ | with_reducible refine D.rg (T := none_) (by kernel_rfl) (by simp (maxSteps := 1000000) (disch := omega) only [rulesA, numbered, ayield, mapO, constAV, scAV, optval, abin, aint, acmp, aconv, aun, aeq, aminmax, afieldAddr, abuild, anew, fieldPlaces, afill, setSeg, kn_P, Option.bind_some, Option.bind_none, Option.map_some, Option.isSome_some, if_true, if_false, List.getElem?_toArray, List.getElem?_cons_zero, List.getElem?_cons_succ, beq_self_eq_true, Bool.not_true, Bool.not_false, List.length_cons, List.length_nil, Bool.false_eq_true, decide_true, decide_false, and_self, and_true, true_and, List.all_cons, List.all_nil, Bool.and_self, Bool.and_true, List.take_zero, List.take_succ_cons, List.drop_zero, List.drop_succ_cons, List.nil_append, List.cons_append, Nat.zero_add, Nat.le_refl, bne_self_eq_false, Nat.reduceAdd, Nat.reduceMul, Nat.reducePow, Nat.reduceSub, Nat.reduceEqDiff, Nat.reduceLT, Nat.reduceLeDiff, Int.reduceEq, Int.reduceNe, Int.reduceLT, Int.reduceLE, Int.reduceAdd, Int.reduceSub, Int.reduceToNat, Int.reduceBNe, Int.reduceBEq, tyR, wrap_in, beq_yes, beq_no, bne_yes, bne_no, lt_yes, lt_no, le_yes, le_no, gt_iff_lt, ge_iff_le, l0, l1]; with_reducible rfl) ?_ | with_reducible refine D.ct2 (by simp (maxSteps := 1000000) (disch := omega) only [numbered, v_tmp, v_const, E_get, constAV, scAV, if_true, if_false, Nat.reduceEqDiff, Nat.reduceLT, Nat.reduceLeDiff, wrap_in, beq_yes, beq_no, bne_yes, bne_no, lt_yes, lt_no, le_yes, le_no, gt_iff_lt, ge_iff_le, l0, l1]; with_reducible rfl) (by with_reducible rfl) ?_ | with_reducible refine D.cf2 (by simp (maxSteps := 1000000) (disch := omega) only [numbered, v_tmp, v_const, E_get, constAV, scAV, if_true, if_false, Nat.reduceEqDiff, Nat.reduceLT, Nat.reduceLeDiff, wrap_in, beq_yes, beq_no, bne_yes, bne_no, lt_yes, lt_no, le_yes, le_no, gt_iff_lt, ge_iff_le, l0, l1]; with_reducible rfl) (by with_reducible rfl) ?_ | with_reducible refine D.exit ?_ | with_reducible refine D.ret ?_ | simp only [Ks_n, Ks_e, Ks_r, Kb_n, Kb_e, Kb_r, Kl_n, Kl_e, Kl_r, Kf_r, Kf_n, Kc_n, Kx_n, Kx_e, Kx_r, Kb_ne, ne_eq, Nat.reduceEqDiff, not_false_eq_true])
  obtain ⟨r1, H1, hc, rfl, rfl⟩ := call_only (κ := kn G base w0) (f := 39) (args := [.ptr (.own s) 0, .int .i64 id]) (H := H) (fun _ H r H' => r = .tuple [.int .i64 ((f id).getD 0), .bool (f id).isSome] ∧ H' = H) (getT h.t id)
  cases ht : tf ts id with
  | none =>
    have hf := h.no ht
    simp only [hf, Option.getD_none, Option.isSome_none] at hc
    refine D.rgC hc (by kernel_rfl) (by simp (maxSteps := 1000000) (disch := omega) only [rulesA, numbered, ayield, mapO, constAV, scAV, optval, abin, aint, acmp, aconv, aun, aeq, aminmax, afieldAddr, abuild, anew, fieldPlaces, afill, setSeg, kn_P, Option.bind_some, Option.bind_none, Option.map_some, Option.isSome_some, if_true, if_false, List.getElem?_toArray, List.getElem?_cons_zero, List.getElem?_cons_succ, beq_self_eq_true, Bool.not_true, Bool.not_false, List.length_cons, List.length_nil, Bool.false_eq_true, decide_true, decide_false, and_self, and_true, true_and, List.all_cons, List.all_nil, Bool.and_self, Bool.and_true, List.take_zero, List.take_succ_cons, List.drop_zero, List.drop_succ_cons, List.nil_append, List.cons_append, Nat.zero_add, Nat.le_refl, bne_self_eq_false, Nat.reduceAdd, Nat.reduceMul, Nat.reducePow, Nat.reduceSub, Nat.reduceEqDiff, Nat.reduceLT, Nat.reduceLeDiff, Int.reduceEq, Int.reduceNe, Int.reduceLT, Int.reduceLE, Int.reduceAdd, Int.reduceSub, Int.reduceToNat, Int.reduceBNe, Int.reduceBEq, tyR, wrap_in, beq_yes, beq_no, bne_yes, bne_no, lt_yes, lt_no, le_yes, le_no, gt_iff_lt, ge_iff_le, hc, hb11, l0]; with_reducible rfl) ?_
    repeat (first | with_reducible refine D.sq ?_ | with_reducible refine D.bl ?_ | with_reducible refine D.skip ?_ | with_reducible refine D.rg (T := none_) (by kernel_rfl) (by simp (maxSteps := 1000000) (disch := omega) only [rulesA, numbered, ayield, mapO, constAV, scAV, optval, abin, aint, acmp, aconv, aun, aeq, aminmax, afieldAddr, abuild, anew, fieldPlaces, afill, setSeg, kn_P, Option.bind_some, Option.bind_none, Option.map_some, Option.isSome_some, if_true, if_false, List.getElem?_toArray, List.getElem?_cons_zero, List.getElem?_cons_succ, beq_self_eq_true, Bool.not_true, Bool.not_false, List.length_cons, List.length_nil, Bool.false_eq_true, decide_true, decide_false, and_self, and_true, true_and, List.all_cons, List.all_nil, Bool.and_self, Bool.and_true, List.take_zero, List.take_succ_cons, List.drop_zero, List.drop_succ_cons, List.nil_append, List.cons_append, Nat.zero_add, Nat.le_refl, bne_self_eq_false, Nat.reduceAdd, Nat.reduceMul, Nat.reducePow, Nat.reduceSub, Nat.reduceEqDiff, Nat.reduceLT, Nat.reduceLeDiff, Int.reduceEq, Int.reduceNe, Int.reduceLT, Int.reduceLE, Int.reduceAdd, Int.reduceSub, Int.reduceToNat, Int.reduceBNe, Int.reduceBEq, tyR, wrap_in, beq_yes, beq_no, bne_yes, bne_no, lt_yes, lt_no, le_yes, le_no, gt_iff_lt, ge_iff_le]; with_reducible rfl) ?_ | with_reducible refine D.ct2 (by simp (maxSteps := 1000000) (disch := omega) only [numbered, v_tmp, v_const, E_get, constAV, scAV, if_true, if_false, Nat.reduceEqDiff, Nat.reduceLT, Nat.reduceLeDiff, wrap_in, beq_yes, beq_no, bne_yes, bne_no, lt_yes, lt_no, le_yes, le_no, gt_iff_lt, ge_iff_le]; with_reducible rfl) (by with_reducible rfl) ?_ | with_reducible refine D.cf2 (by simp (maxSteps := 1000000) (disch := omega) only [numbered, v_tmp, v_const, E_get, constAV, scAV, if_true, if_false, Nat.reduceEqDiff, Nat.reduceLT, Nat.reduceLeDiff, wrap_in, beq_yes, beq_no, bne_yes, bne_no, lt_yes, lt_no, le_yes, le_no, gt_iff_lt, ge_iff_le]; with_reducible rfl) (by with_reducible rfl) ?_ | with_reducible refine D.exit ?_ | with_reducible refine D.ret ?_ | simp only [Ks_n, Ks_e, Ks_r, Kb_n, Kb_e, Kb_r, Kl_n, Kl_e, Kl_r, Kf_r, Kf_n, Kc_n, Kx_n, Kx_e, Kx_r, Kb_ne, ne_eq, Nat.reduceEqDiff, not_false_eq_true])
    refine ⟨_, by simp only [resOf, aresult, rulesA, numbered, ayield, mapO, constAV, scAV, optval, abin, aint, acmp, aconv, aun, aeq, aminmax, afieldAddr, abuild, anew, fieldPlaces, afill, setSeg, kn_P, Option.bind_some, Option.bind_none, Option.map_some, Option.isSome_some, if_true, if_false, List.getElem?_toArray, List.getElem?_cons_zero, List.getElem?_cons_succ, beq_self_eq_true, Bool.not_true, Bool.not_false, List.length_cons, List.length_nil, Bool.false_eq_true, decide_true, decide_false, and_self, and_true, true_and, List.all_cons, List.all_nil, Bool.and_self, Bool.and_true, List.take_zero, List.take_succ_cons, List.drop_zero, List.drop_succ_cons, List.nil_append, List.cons_append, Nat.zero_add, Nat.le_refl, bne_self_eq_false, Nat.reduceAdd, Nat.reduceMul, Nat.reducePow, Nat.reduceSub, Nat.reduceEqDiff, Nat.reduceLT, Nat.reduceLeDiff, Int.reduceEq, Int.reduceNe, Int.reduceLT, Int.reduceLE, Int.reduceAdd, Int.reduceSub, Int.reduceToNat, Int.reduceBNe, Int.reduceBEq, tyR]; with_reducible rfl, ?_⟩
    exact ⟨(by first | exact rfl | exact True.intro), .inl ⟨ht, rfl⟩⟩
  | some t =>
    obtain ⟨n, hf, hn, hg⟩ := h.at ht
    simp only [hf, Option.getD_some, Option.isSome_some] at hc
    refine D.rgC hc (by kernel_rfl) (by simp (maxSteps := 1000000) (disch := omega) only [rulesA, numbered, ayield, mapO, constAV, scAV, optval, abin, aint, acmp, aconv, aun, aeq, aminmax, afieldAddr, abuild, anew, fieldPlaces, afill, setSeg, kn_P, Option.bind_some, Option.bind_none, Option.map_some, Option.isSome_some, if_true, if_false, List.getElem?_toArray, List.getElem?_cons_zero, List.getElem?_cons_succ, beq_self_eq_true, Bool.not_true, Bool.not_false, List.length_cons, List.length_nil, Bool.false_eq_true, decide_true, decide_false, and_self, and_true, true_and, List.all_cons, List.all_nil, Bool.and_self, Bool.and_true, List.take_zero, List.take_succ_cons, List.drop_zero, List.drop_succ_cons, List.nil_append, List.cons_append, Nat.zero_add, Nat.le_refl, bne_self_eq_false, Nat.reduceAdd, Nat.reduceMul, Nat.reducePow, Nat.reduceSub, Nat.reduceEqDiff, Nat.reduceLT, Nat.reduceLeDiff, Int.reduceEq, Int.reduceNe, Int.reduceLT, Int.reduceLE, Int.reduceAdd, Int.reduceSub, Int.reduceToNat, Int.reduceBNe, Int.reduceBEq, tyR, wrap_in, beq_yes, beq_no, bne_yes, bne_no, lt_yes, lt_no, le_yes, le_no, gt_iff_lt, ge_iff_le, hc, hb11, l0]; with_reducible rfl) ?_
    have hx : aindexAddr (kn G base w0).c 64 (.slice (.own bl) 11 0 k) (.int .i64 (n : Int)) = some (.ptr (.own bl) (n * 11)) := ix_own Try.underlying64 sz35 (by decide) (by rw [← h.gl]; exact hn)
    repeat (first | with_reducible refine D.sq ?_ | with_reducible refine D.bl ?_ | with_reducible refine D.skip ?_ | with_reducible refine D.rg (T := none_) (by kernel_rfl) (by simp (maxSteps := 1000000) (disch := omega) only [rulesA, numbered, ayield, mapO, constAV, scAV, optval, abin, aint, acmp, aconv, aun, aeq, aminmax, afieldAddr, abuild, anew, fieldPlaces, afill, setSeg, kn_P, Option.bind_some, Option.bind_none, Option.map_some, Option.isSome_some, if_true, if_false, List.getElem?_toArray, List.getElem?_cons_zero, List.getElem?_cons_succ, beq_self_eq_true, Bool.not_true, Bool.not_false, List.length_cons, List.length_nil, Bool.false_eq_true, decide_true, decide_false, and_self, and_true, true_and, List.all_cons, List.all_nil, Bool.and_self, Bool.and_true, List.take_zero, List.take_succ_cons, List.drop_zero, List.drop_succ_cons, List.nil_append, List.cons_append, Nat.zero_add, Nat.le_refl, bne_self_eq_false, Nat.reduceAdd, Nat.reduceMul, Nat.reducePow, Nat.reduceSub, Nat.reduceEqDiff, Nat.reduceLT, Nat.reduceLeDiff, Int.reduceEq, Int.reduceNe, Int.reduceLT, Int.reduceLE, Int.reduceAdd, Int.reduceSub, Int.reduceToNat, Int.reduceBNe, Int.reduceBEq, tyR, wrap_in, beq_yes, beq_no, bne_yes, bne_no, lt_yes, lt_no, le_yes, le_no, gt_iff_lt, ge_iff_le, l1, hx]; with_reducible rfl) ?_ | with_reducible refine D.ct2 (by simp (maxSteps := 1000000) (disch := omega) only [numbered, v_tmp, v_const, E_get, constAV, scAV, if_true, if_false, Nat.reduceEqDiff, Nat.reduceLT, Nat.reduceLeDiff, wrap_in, beq_yes, beq_no, bne_yes, bne_no, lt_yes, lt_no, le_yes, le_no, gt_iff_lt, ge_iff_le, l1, hx]; with_reducible rfl) (by with_reducible rfl) ?_ | with_reducible refine D.cf2 (by simp (maxSteps := 1000000) (disch := omega) only [numbered, v_tmp, v_const, E_get, constAV, scAV, if_true, if_false, Nat.reduceEqDiff, Nat.reduceLT, Nat.reduceLeDiff, wrap_in, beq_yes, beq_no, bne_yes, bne_no, lt_yes, lt_no, le_yes, le_no, gt_iff_lt, ge_iff_le, l1, hx]; with_reducible rfl) (by with_reducible rfl) ?_ | with_reducible refine D.exit ?_ | with_reducible refine D.ret ?_ | simp only [Ks_n, Ks_e, Ks_r, Kb_n, Kb_e, Kb_r, Kl_n, Kl_e, Kl_r, Kf_r, Kf_n, Kc_n, Kx_n, Kx_e, Kx_r, Kb_ne, ne_eq, Nat.reduceEqDiff, not_false_eq_true])
    refine ⟨_, by simp only [resOf, aresult, rulesA, numbered, ayield, mapO, constAV, scAV, optval, abin, aint, acmp, aconv, aun, aeq, aminmax, afieldAddr, abuild, anew, fieldPlaces, afill, setSeg, kn_P, Option.bind_some, Option.bind_none, Option.map_some, Option.isSome_some, if_true, if_false, List.getElem?_toArray, List.getElem?_cons_zero, List.getElem?_cons_succ, beq_self_eq_true, Bool.not_true, Bool.not_false, List.length_cons, List.length_nil, Bool.false_eq_true, decide_true, decide_false, and_self, and_true, true_and, List.all_cons, List.all_nil, Bool.and_self, Bool.and_true, List.take_zero, List.take_succ_cons, List.drop_zero, List.drop_succ_cons, List.nil_append, List.cons_append, Nat.zero_add, Nat.le_refl, bne_self_eq_false, Nat.reduceAdd, Nat.reduceMul, Nat.reducePow, Nat.reduceSub, Nat.reduceEqDiff, Nat.reduceLT, Nat.reduceLeDiff, Int.reduceEq, Int.reduceNe, Int.reduceLT, Int.reduceLE, Int.reduceAdd, Int.reduceSub, Int.reduceToNat, Int.reduceBNe, Int.reduceBEq, tyR]; with_reducible rfl, ?_⟩
    exact ⟨(by first | exact rfl | exact True.intro), .inr ⟨t, n, ht, hf, hn, hg, rfl⟩⟩

/-! ### one task's cells -/
def hz (H : AHeap) (bl n : Nat) (gs : List Tk) (u : Tk) : AHeap := hrow H bl 35 wT (gs.set n u)
theorem hz_len {n : Nat} {u : Tk} : (hz H bl n gs u).length = H.length := hrow_len
theorem hz_self (h : RowF H bl 35 wT gs) {n : Nat} {t : Tk} (hg : gs[n]? = some t) : hz H bl n gs t = H := by
  have : gs.set n t = gs := by
    apply List.ext_getElem?
    intro i
    rw [List.getElem?_set]
    split
    · rename_i e; subst e; split
      · exact hg.symm
      · rename_i hh; rw [List.getElem?_eq_none (by omega)]
    · rfl
  rw [hz, this, hrow_self h]
theorem hz_row (h : RowF H bl 35 wT gs) {n : Nat} {u : Tk} : RowF (hz H bl n gs u) bl 35 wT (gs.set n u) := hrow_at h.lt
theorem hz_ne {n j : Nat} {u : Tk} (h : j ≠ bl) : hat (hz H bl n gs u) j = hat H j := hrow_ne h
theorem hz_keep {n : Nat} {u : Tk} : Keep H (hz H bl n gs u) (fun j => j = bl) := hrow_keep
structure Cel (c : Ctx) (H : AHeap) (bl n : Nat) (t : Tk) : Prop where
  f0 : aload c H 3 (.ptr (.own bl) (n * 11 + 0)) = some (.int .i64 t.id)
  f1 : aload c H 3 (.ptr (.own bl) (n * 11 + 1)) = some (.int .i64 t.e)
  f2 : aload c H 3 (.ptr (.own bl) (n * 11 + 2)) = some (.int .i64 t.p)
  f3 : aload c H 4 (.ptr (.own bl) (n * 11 + 3)) = some (.bool t.sp)
  f4 : aload c H 4 (.ptr (.own bl) (n * 11 + 4)) = some (.bool t.lv)
  f5 : aload c H 4 (.ptr (.own bl) (n * 11 + 5)) = some (.bool t.wt)
  f6 : aload c H 4 (.ptr (.own bl) (n * 11 + 6)) = some (.bool t.ac)
  f7 : aload c H 3 (.ptr (.own bl) (n * 11 + 7)) = some (.int .i64 t.rl)
  f8 : aload c H 3 (.ptr (.own bl) (n * 11 + 8)) = some (.int .i64 t.gt)
  f9 : aload c H 4 (.ptr (.own bl) (n * 11 + 9)) = some (.bool t.dn)
  f10 : aload c H 3 (.ptr (.own bl) (n * 11 + 10)) = some (.int .i64 t.ct)
  all : aload c H 35 (.ptr (.own bl) (n * 11)) = some (.agg (encT t))
theorem cel {H : AHeap} {gs : List Tk} (h : RowF H bl 35 wT gs) {n : Nat} {t : Tk} (hg : gs[n]? = some t) : Cel (kn G base w0).c H bl n t := by
  obtain ⟨hn, hgt⟩ := List.getElem?_eq_some_iff.1 hg
  have e : ∀ (j : Nat) (v : AV), (encT t)[j]? = some v → (wT.enc gs[n])[j]? = some v := fun j v hv => by rw [hgt]; exact hv
  exact ⟨h.ld hn (j := 0) (by decide) (e 0 _ rfl) ag3, h.ld hn (j := 1) (by decide) (e 1 _ rfl) ag3, h.ld hn (j := 2) (by decide) (e 2 _ rfl) ag3, h.ld hn (j := 3) (by decide) (e 3 _ rfl) ag4, h.ld hn (j := 4) (by decide) (e 4 _ rfl) ag4, h.ld hn (j := 5) (by decide) (e 5 _ rfl) ag4,
    h.ld hn (j := 6) (by decide) (e 6 _ rfl) ag4, h.ld hn (j := 7) (by decide) (e 7 _ rfl) ag3, h.ld hn (j := 8) (by decide) (e 8 _ rfl) ag3, h.ld hn (j := 9) (by decide) (e 9 _ rfl) ag4, h.ld hn (j := 10) (by decide) (e 10 _ rfl) ag3, by rw [← hgt]; exact h.ldA hn ag35 sz35⟩
theorem hz_cel (h : RowF H bl 35 wT gs) {n : Nat} (hn : n < gs.length) (u : Tk) : Cel (kn G base w0).c (hz H bl n gs u) bl n u := cel (hz_row h) (by simp [hn])
theorem hz_hz {n : Nat} {u v : Tk} : hz (hz H bl n gs u) bl n (gs.set n u) v = hz H bl n gs v := by
  unfold hz; rw [hrow_set, List.set_set]
structure Put1 (H0 H : AHeap) (bl n : Nat) (gs : List Tk) (t : Tk) : Prop where
  s4 : ∀ v, wr H0 (.own bl) (n * 11 + 4) [.bool v] = some (hz H bl n gs { t with lv := v })
  s5 : ∀ v, wr H0 (.own bl) (n * 11 + 5) [.bool v] = some (hz H bl n gs { t with wt := v })
  s6 : ∀ v, wr H0 (.own bl) (n * 11 + 6) [.bool v] = some (hz H bl n gs { t with ac := v })
  s7 : ∀ v, wr H0 (.own bl) (n * 11 + 7) [.int .i64 v] = some (hz H bl n gs { t with rl := v })
  s8 : ∀ v, wr H0 (.own bl) (n * 11 + 8) [.int .i64 v] = some (hz H bl n gs { t with gt := v })
  s9 : ∀ v, wr H0 (.own bl) (n * 11 + 9) [.bool v] = some (hz H bl n gs { t with dn := v })
  s10 : ∀ v, wr H0 (.own bl) (n * 11 + 10) [.int .i64 v] = some (hz H bl n gs { t with ct := v })
  all : ∀ u, wr H0 (.own bl) (n * 11) (encT u) = some (hz H bl n gs u)
theorem put1 (h : RowF H bl 35 wT gs) {n : Nat} {t : Tk} (hg : gs[n]? = some t) : Put1 H H bl n gs t := by
  obtain ⟨hn, hgt⟩ := List.getElem?_eq_some_iff.1 hg
  have e : ∀ (j : Nat) (v : AV) (u : Tk), encT u = (encT t).set j v → wT.enc u = (wT.enc gs[n]).set j v := fun j v u hv => by rw [hgt]; exact hv
  exact ⟨fun v => h.st hn (j := 4) (by decide) rfl (e 4 _ _ rfl), fun v => h.st hn (j := 5) (by decide) rfl (e 5 _ _ rfl), fun v => h.st hn (j := 6) (by decide) rfl (e 6 _ _ rfl), fun v => h.st hn (j := 7) (by decide) rfl (e 7 _ _ rfl),
    fun v => h.st hn (j := 8) (by decide) rfl (e 8 _ _ rfl), fun v => h.st hn (j := 9) (by decide) rfl (e 9 _ _ rfl), fun v => h.st hn (j := 10) (by decide) rfl (e 10 _ _ rfl), fun u => h.stA hn u⟩
theorem hz_put1 (h : RowF H bl 35 wT gs) {n : Nat} (hn : n < gs.length) (u : Tk) : Put1 (hz H bl n gs u) H bl n gs u := by
  have := put1 (hz_row h (n := n) (u := u)) (n := n) (t := u) (by simp [hn])
  obtain ⟨a, b, c, d, e, f, g, i⟩ := this
  exact ⟨fun v => by rw [a, hz_hz], fun v => by rw [b, hz_hz], fun v => by rw [c, hz_hz], fun v => by rw [d, hz_hz], fun v => by rw [e, hz_hz], fun v => by rw [f, hz_hz], fun v => by rw [g, hz_hz], fun v => by rw [i, hz_hz]⟩
/-- a task turned -/
theorem Jx.set (h : Jx H pj s bl k o f gs ts) {t t' : Tk} (ht : tf ts t.id = some t) (he : t'.id = t.id) {n : Nat} (hf : f t.id = some (n : Int)) (hg : gs[n]? = some t) : Jx (hz H bl n gs t') pj s bl k o f (gs.set n t') (tset ts t') := by
  have hn := (List.getElem?_eq_some_iff.1 hg).1
  refine ⟨by rw [hz_ne h.n1]; exact h.row, ?_, hz_row h.cells, by simpa using h.gl, ?_, ?_, tset_srt h.srt _, h.n1, h.n2, h.n3⟩
  · rw [tset_len]
    exact h.t.keep fun j hj => hz_ne (by rintro rfl; rcases hj with e | e; exact h.n3.1 e; exact h.n3.2 e)
  · intro x hx
    rcases tset_mem hx with ⟨rfl, _⟩ | ⟨hx, hne⟩
    · exact ⟨n, by rw [he]; exact hf, by simp [hn]⟩
    · obtain ⟨m, h1, h2⟩ := h.fwd x hx
      refine ⟨m, h1, ?_⟩
      rw [List.getElem?_set_ne]
      · exact h2
      · rintro rfl
        rw [hg] at h2
        have e := Option.some.inj h2
        exact hne (by rw [he, e])
  · intro q x hq
    obtain ⟨u, h1, h2⟩ := h.bwd q x hq
    have : u.id ∈ (tset ts t').map Tk.id := by rw [tset_ids]; exact List.mem_map_of_mem h1
    obtain ⟨y, hy, e⟩ := List.mem_map.1 this
    exact ⟨y, hy, by rw [e, h2]⟩
/-- a task that is gone -/
theorem Jx.del (h : Jx H pj s bl k o f gs ts) {t : Tk} (ht : tf ts t.id = some t) {n : Nat} (hf : f t.id = some (n : Int)) (hg : gs[n]? = some t) {H' : AHeap} {o' : Tb} {c' : Nat} (hl : ts.length = c' + 1) (hT : T H' s o' k (upd1 f t.id none) c') (hk : Keep (hz H bl n gs tk0) H' (Own o)) (ho : ∀ j, Own o' j → Own o j ∨ H.length ≤ j) :
    Jx H' pj s bl k o' (upd1 f t.id none) (gs.set n tk0) (tdel ts t.id) := by
  have hat1 : ∀ j, j < H.length → j ≠ bl → ¬ Own o j → hat H' j = hat H j := fun j hj h1 h2 => by rw [hk.2 j (by rw [hz_len]; exact hj) h2, hz_ne h1]
  have hpl := hat_lt h.row
  have hbl := h.cells.lt
  refine ⟨by rw [hat1 pj hpl h.n1 h.n2.2]; exact h.row, ?_, ?_, by simpa using h.gl, ?_, ?_, tdel_srt h.srt _, h.n1, ⟨h.n2.1, fun e => ?_⟩, ⟨h.n3.1, fun e => ?_⟩⟩
  · have := tdel_len h.srt ht
    rw [show (tdel ts t.id).length = c' by omega]; exact hT
  · exact (hz_row h.cells).keep (hk.2 bl (by rw [hz_len]; exact hbl) h.n3.2)
  · intro x hx
    obtain ⟨hx, hne⟩ := tdel_mem.1 hx
    obtain ⟨m, h1, h2⟩ := h.fwd x hx
    refine ⟨m, by rw [upd1, if_neg hne]; exact h1, ?_⟩
    rw [List.getElem?_set_ne]
    · exact h2
    · rintro rfl
      rw [hg] at h2
      exact hne (by rw [Option.some.inj h2])
  · intro q x hq
    unfold upd1 at hq
    split at hq
    · cases hq
    · rename_i hne
      obtain ⟨u, h1, h2⟩ := h.bwd q x hq
      exact ⟨u, tdel_mem.2 ⟨h1, by rw [h2]; exact hne⟩, h2⟩
  · rcases ho _ e with e | e
    · exact h.n2.2 e
    · omega
  · rcases ho _ e with e | e
    · exact h.n3.2 e
    · omega
/-- a task that is new -/
theorem Jx.ins (h : Jx H pj s bl k o f gs ts) {t : Tk} (ht : tf ts t.id = none) {n : Nat} (hn : n < k) (hfree : ∀ q, f q ≠ some (n : Int)) {H' : AHeap} (hT : T H' s o k (upd1 f t.id (some (n : Int))) (ts.length + 1)) (hk : Keep H H' (Own o)) :
    Jx (hz H' bl n gs t) pj s bl k o (upd1 f t.id (some (n : Int))) (gs.set n t) (tins ts t) := by
  have hpl := hat_lt h.row
  have hbl := h.cells.lt
  have hrow : RowF H' bl 35 wT gs := h.cells.keep (hk.2 bl hbl h.n3.2)
  refine ⟨by rw [hz_ne h.n1, hk.2 pj hpl h.n2.2]; exact h.row, ?_, hz_row hrow, by simpa using h.gl, ?_, ?_, tins_srt h.srt ht, h.n1, h.n2, h.n3⟩
  · rw [tins_len]
    exact hT.keep fun j hj => hz_ne (by rintro rfl; rcases hj with e | e; exact h.n3.1 e; exact h.n3.2 e)
  · intro x hx
    rcases tins_mem.1 hx with rfl | hx
    · exact ⟨n, by rw [upd1, if_pos rfl], by simp [h.gl, hn]⟩
    · obtain ⟨m, h1, h2⟩ := h.fwd x hx
      have hne : x.id ≠ t.id := tf_none.1 ht x hx
      refine ⟨m, by rw [upd1, if_neg hne]; exact h1, ?_⟩
      rw [List.getElem?_set_ne]
      · exact h2
      · rintro rfl
        exact hfree _ h1
  · intro q x hq
    unfold upd1 at hq
    split at hq
    · rename_i e; exact ⟨t, tins_mem.2 (.inl rfl), e.symm⟩
    · obtain ⟨u, h1, h2⟩ := h.bwd q x hq
      exact ⟨u, tins_mem.2 (.inr h1), h2⟩
end Go.Proofs.Ytecfofmndpgnjaa.sy
