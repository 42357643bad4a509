/- jobs.Jobs (own work): IDs, Task, gone, Join, Leave, Arrive, Finish, Give walked. -/
import Derived.Test.YtecfofmndpgnjaaJd
namespace Go.Proofs.Ytecfofmndpgnjaa.sy
open Go.AM Go.AM.Hp Go.AM.Jb
set_option linter.unusedSimpArgs false
set_option linter.unusedVariables false
variable {G : List Nat → Option (List AV)} {base : Nat} {w0 : World}
set_option maxRecDepth 100000
set_option maxHeartbeats 8000000
variable {H : AHeap} {pj s bl k : Nat} {o : Tb} {f : Int → Option Int} {gs ts : List Tk}
/-- what a deed may turn -/
structure Kp (H H' : AHeap) (bl : Nat) (o o' : Tb) : Prop where
  keep : Keep H H' (JOwn bl o)
  own : ∀ j, Own o' j → Own o j ∨ H.length ≤ j
theorem Kp.refl : Kp H H bl o o := ⟨Keep.refl _, fun _ => .inl⟩
theorem Kp.hz {n : Nat} {u : Tk} : Kp H (hz H bl n gs u) bl o o := ⟨hz_keep.mono fun _ _ e => .inl e, fun _ => .inl⟩
theorem Kp.keepF {H' : AHeap} (h : Keep H H' (fun _ => False)) : Kp H H' bl o o := ⟨h.mono fun _ _ e => e.elim, fun _ => .inl⟩
theorem Kp.trans {H1 H2 : AHeap} {o1 o2 : Tb} (h : Kp H H1 bl o o1) (h' : Kp H1 H2 bl o1 o2) : Kp H H2 bl o o2 :=
  ⟨h.keep.trans' h'.keep fun j hj e => by
    rcases e with e | e
    · exact .inl e
    · rcases h.own j e with e | e
      · exact .inr e
      · omega, fun j e => by
    rcases h'.own j e with e | e
    · exact h.own j e
    · exact .inr (Nat.le_trans h.keep.1 e)⟩
/-- the ids in their order -/
theorem sorted_same : ∀ {a b : List Int}, a.Pairwise (· < ·) → b.Pairwise (· < ·) → (∀ q, q ∈ a ↔ q ∈ b) → a = b
  | [], [], _, _, _ => rfl
  | [], y :: b, _, _, h => by have := (h y).2 (by simp); cases this
  | x :: a, [], _, _, h => by have := (h x).1 (by simp); cases this
  | x :: a, y :: b, ha, hb, h => by
    obtain ⟨a1, a2⟩ := List.pairwise_cons.1 ha
    obtain ⟨b1, b2⟩ := List.pairwise_cons.1 hb
    have hxy : x = y := by
      rcases List.mem_cons.1 ((h x).1 (by simp)) with e | e
      · exact e
      · rcases List.mem_cons.1 ((h y).2 (by simp)) with e' | e'
        · exact e'.symm
        · have := b1 x e; have := a1 y e'; omega
    subst hxy
    rw [sorted_same a2 b2 fun q => ?_]
    constructor
    · intro hq
      rcases List.mem_cons.1 ((h q).1 (by simp [hq])) with e | e
      · subst e; have := a1 q hq; omega
      · exact e
    · intro hq
      rcases List.mem_cons.1 ((h q).2 (by simp [hq])) with e | e
      · subst e; have := b1 q hq; omega
      · exact e
def ids (ts : List Tk) : List Int := ts.map Tk.id
def IdsO (ts : List Tk) (H : AHeap) : AV → AHeap → Prop := fun r H' => Go.AM.Own H' r 3 (ints (ids ts)) ∧ Keep H H' (fun _ => False) ∧ ∀ b, r.at? = some b → H.length ≤ b
def IdsJ (ts : List Tk) (H : AHeap) : AV → AHeap → Prop := fun r H' => Sl (kn G base w0).c H' r (ints (ids ts)) ∧ Keep H H' (fun _ => False) ∧ ∀ b, r.at? = some b → H.length ≤ b
theorem ids_own (h : Jx H pj s bl k o f gs ts) : ∃ r H', Pt (kn G base w0) 27 [.ptr (.own pj) 0] H r H' ∧ IdsO ts H r H' := by
  have l0 : aload (kn G base w0).c H 62 (.ptr (.own pj) 0) = some (.ptr (.own s) 0) := ld_own h.row rfl ag62
  refine Pt.fn (n := 10) (rs := [.tmp 2]) Try.func27 (b := _) rfl rfl rfl (by decide) ?_
  repeat (first | with_reducible refine D.sq ?_ | with_reducible refine D.bl ?_ | with_reducible refine D.skip ?_ | with_reducible refine D.rg (T := none_) (by kernel_rfl) (by simp (maxSteps := 1000000) (disch := omega) only [rulesA, numbered, ayield, mapO, constAV, scAV, optval, abin, aint, acmp, aconv, aun, aeq, aminmax, afieldAddr, abuild, anew, fieldPlaces, afill, setSeg, kn_P, Option.bind_some, Option.bind_none, Option.map_some, Option.isSome_some, if_true, if_false, List.getElem?_toArray, List.getElem?_cons_zero, List.getElem?_cons_succ, beq_self_eq_true, Bool.not_true, Bool.not_false, List.length_cons, List.length_nil, Bool.false_eq_true, decide_true, decide_false, and_self, and_true, true_and, List.all_cons, List.all_nil, Bool.and_self, Bool.and_true, List.take_zero, List.take_succ_cons, List.drop_zero, List.drop_succ_cons, List.nil_append, List.cons_append, Nat.zero_add, Nat.le_refl, bne_self_eq_false, Nat.reduceAdd, Nat.reduceMul, Nat.reducePow, Nat.reduceSub, Nat.reduceEqDiff, Nat.reduceLT, Nat.reduceLeDiff, Int.reduceEq, Int.reduceNe, Int.reduceLT, Int.reduceLE, Int.reduceAdd, Int.reduceSub, Int.reduceToNat, Int.reduceBNe, Int.reduceBEq, tyR, wrap_in, beq_yes, beq_no, bne_yes, bne_no, lt_yes, lt_no, le_yes, le_no, gt_iff_lt, ge_iff_le, l0]; with_reducible rfl) ?_ | with_reducible refine D.ct2 (by simp (maxSteps := 1000000) (disch := omega) only [numbered, v_tmp, v_const, E_get, constAV, scAV, if_true, if_false, Nat.reduceEqDiff, Nat.reduceLT, Nat.reduceLeDiff, wrap_in, beq_yes, beq_no, bne_yes, bne_no, lt_yes, lt_no, le_yes, le_no, gt_iff_lt, ge_iff_le, l0]; with_reducible rfl) (by with_reducible rfl) ?_ | with_reducible refine D.cf2 (by simp (maxSteps := 1000000) (disch := omega) only [numbered, v_tmp, v_const, E_get, constAV, scAV, if_true, if_false, Nat.reduceEqDiff, Nat.reduceLT, Nat.reduceLeDiff, wrap_in, beq_yes, beq_no, bne_yes, bne_no, lt_yes, lt_no, le_yes, le_no, gt_iff_lt, ge_iff_le, l0]; with_reducible rfl) (by with_reducible rfl) ?_ | with_reducible refine D.exit ?_ | with_reducible refine D.ret ?_ | simp only [Ks_n, Ks_e, Ks_r, Kb_n, Kb_e, Kb_r, Kl_n, Kl_e, Kl_r, Kf_r, Kf_n, Kc_n, Kx_n, Kx_e, Kx_r, Kb_ne, ne_eq, Nat.reduceEqDiff, not_false_eq_true])
  obtain ⟨r1, H1, hc, zs, z1, z2, z3, z4, z5, z6⟩ := call_only (κ := kn G base w0) (f := 35) (args := [.ptr (.own s) 0]) (H := H) (fun _ H r H' => IdsT H f ts.length r H') (idsT h.t)
  refine D.rgC hc (by kernel_rfl) (by simp (maxSteps := 1000000) (disch := omega) only [rulesA, numbered, ayield, mapO, constAV, scAV, optval, abin, aint, acmp, aconv, aun, aeq, aminmax, afieldAddr, abuild, anew, fieldPlaces, afill, setSeg, kn_P, Option.bind_some, Option.bind_none, Option.map_some, Option.isSome_some, if_true, if_false, List.getElem?_toArray, List.getElem?_cons_zero, List.getElem?_cons_succ, beq_self_eq_true, Bool.not_true, Bool.not_false, List.length_cons, List.length_nil, Bool.false_eq_true, decide_true, decide_false, and_self, and_true, true_and, List.all_cons, List.all_nil, Bool.and_self, Bool.and_true, List.take_zero, List.take_succ_cons, List.drop_zero, List.drop_succ_cons, List.nil_append, List.cons_append, Nat.zero_add, Nat.le_refl, bne_self_eq_false, Nat.reduceAdd, Nat.reduceMul, Nat.reducePow, Nat.reduceSub, Nat.reduceEqDiff, Nat.reduceLT, Nat.reduceLeDiff, Int.reduceEq, Int.reduceNe, Int.reduceLT, Int.reduceLE, Int.reduceAdd, Int.reduceSub, Int.reduceToNat, Int.reduceBNe, Int.reduceBEq, tyR, wrap_in, beq_yes, beq_no, bne_yes, bne_no, lt_yes, lt_no, le_yes, le_no, gt_iff_lt, ge_iff_le, hc, hb13, l0]; with_reducible rfl) ?_
  repeat (first | with_reducible refine D.sq ?_ | with_reducible refine D.bl ?_ | with_reducible refine D.skip ?_ | with_reducible refine D.rg (T := none_) (by kernel_rfl) (by simp (maxSteps := 1000000) (disch := omega) only [rulesA, numbered, ayield, mapO, constAV, scAV, optval, abin, aint, acmp, aconv, aun, aeq, aminmax, afieldAddr, abuild, anew, fieldPlaces, afill, setSeg, kn_P, Option.bind_some, Option.bind_none, Option.map_some, Option.isSome_some, if_true, if_false, List.getElem?_toArray, List.getElem?_cons_zero, List.getElem?_cons_succ, beq_self_eq_true, Bool.not_true, Bool.not_false, List.length_cons, List.length_nil, Bool.false_eq_true, decide_true, decide_false, and_self, and_true, true_and, List.all_cons, List.all_nil, Bool.and_self, Bool.and_true, List.take_zero, List.take_succ_cons, List.drop_zero, List.drop_succ_cons, List.nil_append, List.cons_append, Nat.zero_add, Nat.le_refl, bne_self_eq_false, Nat.reduceAdd, Nat.reduceMul, Nat.reducePow, Nat.reduceSub, Nat.reduceEqDiff, Nat.reduceLT, Nat.reduceLeDiff, Int.reduceEq, Int.reduceNe, Int.reduceLT, Int.reduceLE, Int.reduceAdd, Int.reduceSub, Int.reduceToNat, Int.reduceBNe, Int.reduceBEq, tyR, wrap_in, beq_yes, beq_no, bne_yes, bne_no, lt_yes, lt_no, le_yes, le_no, gt_iff_lt, ge_iff_le]; with_reducible rfl) ?_ | with_reducible refine D.ct2 (by simp (maxSteps := 1000000) (disch := omega) only [numbered, v_tmp, v_const, E_get, constAV, scAV, if_true, if_false, Nat.reduceEqDiff, Nat.reduceLT, Nat.reduceLeDiff, wrap_in, beq_yes, beq_no, bne_yes, bne_no, lt_yes, lt_no, le_yes, le_no, gt_iff_lt, ge_iff_le]; with_reducible rfl) (by with_reducible rfl) ?_ | with_reducible refine D.cf2 (by simp (maxSteps := 1000000) (disch := omega) only [numbered, v_tmp, v_const, E_get, constAV, scAV, if_true, if_false, Nat.reduceEqDiff, Nat.reduceLT, Nat.reduceLeDiff, wrap_in, beq_yes, beq_no, bne_yes, bne_no, lt_yes, lt_no, le_yes, le_no, gt_iff_lt, ge_iff_le]; with_reducible rfl) (by with_reducible rfl) ?_ | with_reducible refine D.exit ?_ | with_reducible refine D.ret ?_ | simp only [Ks_n, Ks_e, Ks_r, Kb_n, Kb_e, Kb_r, Kl_n, Kl_e, Kl_r, Kf_r, Kf_n, Kc_n, Kx_n, Kx_e, Kx_r, Kb_ne, ne_eq, Nat.reduceEqDiff, not_false_eq_true])
  refine ⟨_, by simp only [resOf, aresult, rulesA, numbered, ayield, mapO, constAV, scAV, optval, abin, aint, acmp, aconv, aun, aeq, aminmax, afieldAddr, abuild, anew, fieldPlaces, afill, setSeg, kn_P, Option.bind_some, Option.bind_none, Option.map_some, Option.isSome_some, if_true, if_false, List.getElem?_toArray, List.getElem?_cons_zero, List.getElem?_cons_succ, beq_self_eq_true, Bool.not_true, Bool.not_false, List.length_cons, List.length_nil, Bool.false_eq_true, decide_true, decide_false, and_self, and_true, true_and, List.all_cons, List.all_nil, Bool.and_self, Bool.and_true, List.take_zero, List.take_succ_cons, List.drop_zero, List.drop_succ_cons, List.nil_append, List.cons_append, Nat.zero_add, Nat.le_refl, bne_self_eq_false, Nat.reduceAdd, Nat.reduceMul, Nat.reducePow, Nat.reduceSub, Nat.reduceEqDiff, Nat.reduceLT, Nat.reduceLeDiff, Int.reduceEq, Int.reduceNe, Int.reduceLT, Int.reduceLE, Int.reduceAdd, Int.reduceSub, Int.reduceToNat, Int.reduceBNe, Int.reduceBEq, tyR]; with_reducible rfl, ?_⟩
  have : zs = ids ts := by
    refine sorted_same z1 (by unfold ids; rw [List.pairwise_map]; exact h.srt) fun q => ?_
    rw [z2]
    constructor
    · rintro ⟨x, hx⟩
      obtain ⟨t, h1, h2⟩ := h.bwd q x hx
      exact List.mem_map.2 ⟨t, h1, h2⟩
    · intro hq
      obtain ⟨t, h1, rfl⟩ := List.mem_map.1 hq
      obtain ⟨n, h2, _⟩ := h.fwd t h1
      exact ⟨_, h2⟩
  subst this
  exact ⟨z4, z5, z6⟩
theorem ids_okJ (h : Jx H pj s bl k o f gs ts) : ∃ r H', Pt (kn G base w0) 27 [.ptr (.own pj) 0] H r H' ∧ IdsJ (G := G) (base := base) (w0 := w0) ts H r H' := by
  obtain ⟨r, H', hp, h1, h2, h3⟩ := ids_own (G := G) (base := base) (w0 := w0) h
  exact ⟨r, H', hp, h1.sl, h2, h3⟩
theorem e0 : [AV.int .i64 0, .int .i64 0, .int .i64 0, .bool false, .bool false, .bool false, .bool false, .int .i64 0, .int .i64 0, .bool false, .int .i64 0] = encT tk0 := rfl
theorem encT_len (u : Tk) : (encT u).length = 11 := rfl
theorem encT_one (u : Tk) : (encT u).all AV.one = true := rfl
theorem bx_st {e : TypeId} (u v : Tk) : wr (hnew H (.row e 11 (encT u))) (.own H.length) 0 (encT v) = some (hnew H (.row e 11 (encT v))) := by
  simp only [wr, hat_nn]
  rw [if_pos ⟨by simp [encT], wT.one v⟩]
  simp [setSeg, encT, hnew]
theorem bx_ld {c : Ctx} {e t : TypeId} (ha : isAggT c.P t = some true) (hs : szOf c.P t = some 11) (u : Tk) : aload c (hnew H (.row e 11 (encT u))) t (.ptr (.own H.length) 0) = some (.agg (encT u)) := by
  simp only [aload, ha, hs, Option.bind_some, if_true, rd, rowOf, hat_nn]
  rw [if_pos (by simp [encT])]; rfl
/-- j.Task(id) -/
def TaskS (ts : List Tk) (id : Int) (H : AHeap) : AV → AHeap → Prop := fun r H' => (∃ u, H' = hnew H (.row 35 11 (encT u))) ∧ ((tf ts id = none ∧ r = .tuple [.agg (encT tk0), .bool false]) ∨ ∃ t, tf ts id = some t ∧ r = .tuple [.agg (encT t), .bool true])
theorem task_ok (h : Jx H pj s bl k o f gs ts) (id : Int) : ∃ r H', Pt (kn G base w0) 14 [.ptr (.own pj) 0, .int .i64 id] H r H' ∧ TaskS ts id H r H' := by
  refine Pt.fn (n := 16) (rs := [.cell 4 35, .tmp 5]) Try.func14 (b := _) rfl rfl rfl (by decide) ?_
  repeat (first | with_reducible refine D.sq ?_ | with_reducible refine D.bl ?_ | with_reducible refine D.skip ?_ | with_reducible refine D.rg (T := none_) (by kernel_rfl) (by simp (maxSteps := 1000000) (disch := omega) only [rulesA, numbered, ayield, mapO, constAV, scAV, optval, abin, aint, acmp, aconv, aun, aeq, aminmax, afieldAddr, abuild, anew, fieldPlaces, afill, setSeg, kn_P, Option.bind_some, Option.bind_none, Option.map_some, Option.isSome_some, if_true, if_false, List.getElem?_toArray, List.getElem?_cons_zero, List.getElem?_cons_succ, beq_self_eq_true, Bool.not_true, Bool.not_false, List.length_cons, List.length_nil, Bool.false_eq_true, decide_true, decide_false, and_self, and_true, true_and, List.all_cons, List.all_nil, Bool.and_self, Bool.and_true, List.take_zero, List.take_succ_cons, List.drop_zero, List.drop_succ_cons, List.nil_append, List.cons_append, Nat.zero_add, Nat.le_refl, bne_self_eq_false, Nat.reduceAdd, Nat.reduceMul, Nat.reducePow, Nat.reduceSub, Nat.reduceEqDiff, Nat.reduceLT, Nat.reduceLeDiff, Int.reduceEq, Int.reduceNe, Int.reduceLT, Int.reduceLE, Int.reduceAdd, Int.reduceSub, Int.reduceToNat, Int.reduceBNe, Int.reduceBEq, tyR, wrap_in, beq_yes, beq_no, bne_yes, bne_no, lt_yes, lt_no, le_yes, le_no, gt_iff_lt, ge_iff_le, fresh]; with_reducible rfl) ?_ | with_reducible refine D.ct2 (by simp (maxSteps := 1000000) (disch := omega) only [numbered, v_tmp, v_const, E_get, constAV, scAV, if_true, if_false, Nat.reduceEqDiff, Nat.reduceLT, Nat.reduceLeDiff, wrap_in, beq_yes, beq_no, bne_yes, bne_no, lt_yes, lt_no, le_yes, le_no, gt_iff_lt, ge_iff_le, fresh]; with_reducible rfl) (by with_reducible rfl) ?_ | with_reducible refine D.cf2 (by simp (maxSteps := 1000000) (disch := omega) only [numbered, v_tmp, v_const, E_get, constAV, scAV, if_true, if_false, Nat.reduceEqDiff, Nat.reduceLT, Nat.reduceLeDiff, wrap_in, beq_yes, beq_no, bne_yes, bne_no, lt_yes, lt_no, le_yes, le_no, gt_iff_lt, ge_iff_le, fresh]; with_reducible rfl) (by with_reducible rfl) ?_ | with_reducible refine D.exit ?_ | with_reducible refine D.ret ?_ | simp only [Ks_n, Ks_e, Ks_r, Kb_n, Kb_e, Kb_r, Kl_n, Kl_e, Kl_r, Kf_r, Kf_n, Kc_n, Kx_n, Kx_e, Kx_r, Kb_ne, ne_eq, Nat.reduceEqDiff, not_false_eq_true])
  rw [e0]
  have hk : Keep H (hnew H (.row 35 11 (encT tk0))) (fun _ => False) := Keep.new _ _
  have h1 := h.keepF hk
  have b1 := bx_st (H := H) (e := 35) tk0
  have b2 : ∀ u, aload (kn G base w0).c (hnew H (.row 35 11 (encT u))) 35 (.ptr (.own H.length) 0) = some (.agg (encT u)) := bx_ld ag35 sz35
  have e35 : ∀ l off u H, astore (kn G base w0).c H 35 (.ptr l off) (.agg (encT u)) = wr H l off (encT u) := fun l off u H => by simp [astore, kn_P, sz35, cells_agg, encT_len]
  generalize hH1 : hnew H (.row 35 11 (encT tk0)) = H1 at *
  obtain ⟨r1, H2, hc, rfl, hg⟩ := call_only (κ := kn G base w0) (f := 30) (args := [.ptr (.own pj) 0, .int .i64 id]) (H := H1) (fun _ H r H' => GetS ts f gs bl id H r H') (get_okJ h1 id)
  rcases hg with ⟨hn, rfl⟩ | ⟨t, n, ht, hf, hn, hg, rfl⟩
  · refine D.rgC hc (by kernel_rfl) (by simp (maxSteps := 1000000) (disch := omega) only [rulesA, numbered, ayield, mapO, constAV, scAV, optval, abin, aint, acmp, aconv, aun, aeq, aminmax, afieldAddr, abuild, anew, fieldPlaces, afill, setSeg, kn_P, Option.bind_some, Option.bind_none, Option.map_some, Option.isSome_some, if_true, if_false, List.getElem?_toArray, List.getElem?_cons_zero, List.getElem?_cons_succ, beq_self_eq_true, Bool.not_true, Bool.not_false, List.length_cons, List.length_nil, Bool.false_eq_true, decide_true, decide_false, and_self, and_true, true_and, List.all_cons, List.all_nil, Bool.and_self, Bool.and_true, List.take_zero, List.take_succ_cons, List.drop_zero, List.drop_succ_cons, List.nil_append, List.cons_append, Nat.zero_add, Nat.le_refl, bne_self_eq_false, Nat.reduceAdd, Nat.reduceMul, Nat.reducePow, Nat.reduceSub, Nat.reduceEqDiff, Nat.reduceLT, Nat.reduceLeDiff, Int.reduceEq, Int.reduceNe, Int.reduceLT, Int.reduceLE, Int.reduceAdd, Int.reduceSub, Int.reduceToNat, Int.reduceBNe, Int.reduceBEq, tyR, wrap_in, beq_yes, beq_no, bne_yes, bne_no, lt_yes, lt_no, le_yes, le_no, gt_iff_lt, ge_iff_le, hc, hJ30]; with_reducible rfl) ?_
    repeat (first | with_reducible refine D.sq ?_ | with_reducible refine D.bl ?_ | with_reducible refine D.skip ?_ | with_reducible refine D.rg (T := none_) (by kernel_rfl) (by simp (maxSteps := 1000000) (disch := omega) only [rulesA, numbered, ayield, mapO, constAV, scAV, optval, abin, aint, acmp, aconv, aun, aeq, aminmax, afieldAddr, abuild, anew, fieldPlaces, afill, setSeg, kn_P, Option.bind_some, Option.bind_none, Option.map_some, Option.isSome_some, if_true, if_false, List.getElem?_toArray, List.getElem?_cons_zero, List.getElem?_cons_succ, beq_self_eq_true, Bool.not_true, Bool.not_false, List.length_cons, List.length_nil, Bool.false_eq_true, decide_true, decide_false, and_self, and_true, true_and, List.all_cons, List.all_nil, Bool.and_self, Bool.and_true, List.take_zero, List.take_succ_cons, List.drop_zero, List.drop_succ_cons, List.nil_append, List.cons_append, Nat.zero_add, Nat.le_refl, bne_self_eq_false, Nat.reduceAdd, Nat.reduceMul, Nat.reducePow, Nat.reduceSub, Nat.reduceEqDiff, Nat.reduceLT, Nat.reduceLeDiff, Int.reduceEq, Int.reduceNe, Int.reduceLT, Int.reduceLE, Int.reduceAdd, Int.reduceSub, Int.reduceToNat, Int.reduceBNe, Int.reduceBEq, tyR, wrap_in, beq_yes, beq_no, bne_yes, bne_no, lt_yes, lt_no, le_yes, le_no, gt_iff_lt, ge_iff_le, e0, e35, b1]; with_reducible rfl) ?_ | with_reducible refine D.ct2 (by simp (maxSteps := 1000000) (disch := omega) only [numbered, v_tmp, v_const, E_get, constAV, scAV, if_true, if_false, Nat.reduceEqDiff, Nat.reduceLT, Nat.reduceLeDiff, wrap_in, beq_yes, beq_no, bne_yes, bne_no, lt_yes, lt_no, le_yes, le_no, gt_iff_lt, ge_iff_le, e0, e35, b1]; with_reducible rfl) (by with_reducible rfl) ?_ | with_reducible refine D.cf2 (by simp (maxSteps := 1000000) (disch := omega) only [numbered, v_tmp, v_const, E_get, constAV, scAV, if_true, if_false, Nat.reduceEqDiff, Nat.reduceLT, Nat.reduceLeDiff, wrap_in, beq_yes, beq_no, bne_yes, bne_no, lt_yes, lt_no, le_yes, le_no, gt_iff_lt, ge_iff_le, e0, e35, b1]; with_reducible rfl) (by with_reducible rfl) ?_ | with_reducible refine D.exit ?_ | with_reducible refine D.ret ?_ | simp only [Ks_n, Ks_e, Ks_r, Kb_n, Kb_e, Kb_r, Kl_n, Kl_e, Kl_r, Kf_r, Kf_n, Kc_n, Kx_n, Kx_e, Kx_r, Kb_ne, ne_eq, Nat.reduceEqDiff, not_false_eq_true])
    refine ⟨_, by simp only [resOf, aresult, rulesA, numbered, ayield, mapO, constAV, scAV, optval, abin, aint, acmp, aconv, aun, aeq, aminmax, afieldAddr, abuild, anew, fieldPlaces, afill, setSeg, kn_P, Option.bind_some, Option.bind_none, Option.map_some, Option.isSome_some, if_true, if_false, List.getElem?_toArray, List.getElem?_cons_zero, List.getElem?_cons_succ, beq_self_eq_true, Bool.not_true, Bool.not_false, List.length_cons, List.length_nil, Bool.false_eq_true, decide_true, decide_false, and_self, and_true, true_and, List.all_cons, List.all_nil, Bool.and_self, Bool.and_true, List.take_zero, List.take_succ_cons, List.drop_zero, List.drop_succ_cons, List.nil_append, List.cons_append, Nat.zero_add, Nat.le_refl, bne_self_eq_false, Nat.reduceAdd, Nat.reduceMul, Nat.reducePow, Nat.reduceSub, Nat.reduceEqDiff, Nat.reduceLT, Nat.reduceLeDiff, Int.reduceEq, Int.reduceNe, Int.reduceLT, Int.reduceLE, Int.reduceAdd, Int.reduceSub, Int.reduceToNat, Int.reduceBNe, Int.reduceBEq, tyR, b2]; with_reducible rfl, ?_⟩
    exact ⟨⟨tk0, rfl⟩, .inl ⟨hn, rfl⟩⟩
  · refine D.rgC hc (by kernel_rfl) (by simp (maxSteps := 1000000) (disch := omega) only [rulesA, numbered, ayield, mapO, constAV, scAV, optval, abin, aint, acmp, aconv, aun, aeq, aminmax, afieldAddr, abuild, anew, fieldPlaces, afill, setSeg, kn_P, Option.bind_some, Option.bind_none, Option.map_some, Option.isSome_some, if_true, if_false, List.getElem?_toArray, List.getElem?_cons_zero, List.getElem?_cons_succ, beq_self_eq_true, Bool.not_true, Bool.not_false, List.length_cons, List.length_nil, Bool.false_eq_true, decide_true, decide_false, and_self, and_true, true_and, List.all_cons, List.all_nil, Bool.and_self, Bool.and_true, List.take_zero, List.take_succ_cons, List.drop_zero, List.drop_succ_cons, List.nil_append, List.cons_append, Nat.zero_add, Nat.le_refl, bne_self_eq_false, Nat.reduceAdd, Nat.reduceMul, Nat.reducePow, Nat.reduceSub, Nat.reduceEqDiff, Nat.reduceLT, Nat.reduceLeDiff, Int.reduceEq, Int.reduceNe, Int.reduceLT, Int.reduceLE, Int.reduceAdd, Int.reduceSub, Int.reduceToNat, Int.reduceBNe, Int.reduceBEq, tyR, wrap_in, beq_yes, beq_no, bne_yes, bne_no, lt_yes, lt_no, le_yes, le_no, gt_iff_lt, ge_iff_le, hc, hJ30]; with_reducible rfl) ?_
    repeat (first | with_reducible refine D.sq ?_ | with_reducible refine D.bl ?_ | with_reducible refine D.skip ?_ | with_reducible refine D.rg (T := none_) (by kernel_rfl) (by simp (maxSteps := 1000000) (disch := omega) only [rulesA, numbered, ayield, mapO, constAV, scAV, optval, abin, aint, acmp, aconv, aun, aeq, aminmax, afieldAddr, abuild, anew, fieldPlaces, afill, setSeg, kn_P, Option.bind_some, Option.bind_none, Option.map_some, Option.isSome_some, if_true, if_false, List.getElem?_toArray, List.getElem?_cons_zero, List.getElem?_cons_succ, beq_self_eq_true, Bool.not_true, Bool.not_false, List.length_cons, List.length_nil, Bool.false_eq_true, decide_true, decide_false, and_self, and_true, true_and, List.all_cons, List.all_nil, Bool.and_self, Bool.and_true, List.take_zero, List.take_succ_cons, List.drop_zero, List.drop_succ_cons, List.nil_append, List.cons_append, Nat.zero_add, Nat.le_refl, bne_self_eq_false, Nat.reduceAdd, Nat.reduceMul, Nat.reducePow, Nat.reduceSub, Nat.reduceEqDiff, Nat.reduceLT, Nat.reduceLeDiff, Int.reduceEq, Int.reduceNe, Int.reduceLT, Int.reduceLE, Int.reduceAdd, Int.reduceSub, Int.reduceToNat, Int.reduceBNe, Int.reduceBEq, tyR, wrap_in, beq_yes, beq_no, bne_yes, bne_no, lt_yes, lt_no, le_yes, le_no, gt_iff_lt, ge_iff_le, (cel (G := G) (base := base) (w0 := w0) h1.cells hg).all, e35, b1]; with_reducible rfl) ?_ | with_reducible refine D.ct2 (by simp (maxSteps := 1000000) (disch := omega) only [numbered, v_tmp, v_const, E_get, constAV, scAV, if_true, if_false, Nat.reduceEqDiff, Nat.reduceLT, Nat.reduceLeDiff, wrap_in, beq_yes, beq_no, bne_yes, bne_no, lt_yes, lt_no, le_yes, le_no, gt_iff_lt, ge_iff_le, (cel (G := G) (base := base) (w0 := w0) h1.cells hg).all, e35, b1]; with_reducible rfl) (by with_reducible rfl) ?_ | with_reducible refine D.cf2 (by simp (maxSteps := 1000000) (disch := omega) only [numbered, v_tmp, v_const, E_get, constAV, scAV, if_true, if_false, Nat.reduceEqDiff, Nat.reduceLT, Nat.reduceLeDiff, wrap_in, beq_yes, beq_no, bne_yes, bne_no, lt_yes, lt_no, le_yes, le_no, gt_iff_lt, ge_iff_le, (cel (G := G) (base := base) (w0 := w0) h1.cells hg).all, e35, b1]; with_reducible rfl) (by with_reducible rfl) ?_ | with_reducible refine D.exit ?_ | with_reducible refine D.ret ?_ | simp only [Ks_n, Ks_e, Ks_r, Kb_n, Kb_e, Kb_r, Kl_n, Kl_e, Kl_r, Kf_r, Kf_n, Kc_n, Kx_n, Kx_e, Kx_r, Kb_ne, ne_eq, Nat.reduceEqDiff, not_false_eq_true])
    refine ⟨_, by simp only [resOf, aresult, rulesA, numbered, ayield, mapO, constAV, scAV, optval, abin, aint, acmp, aconv, aun, aeq, aminmax, afieldAddr, abuild, anew, fieldPlaces, afill, setSeg, kn_P, Option.bind_some, Option.bind_none, Option.map_some, Option.isSome_some, if_true, if_false, List.getElem?_toArray, List.getElem?_cons_zero, List.getElem?_cons_succ, beq_self_eq_true, Bool.not_true, Bool.not_false, List.length_cons, List.length_nil, Bool.false_eq_true, decide_true, decide_false, and_self, and_true, true_and, List.all_cons, List.all_nil, Bool.and_self, Bool.and_true, List.take_zero, List.take_succ_cons, List.drop_zero, List.drop_succ_cons, List.nil_append, List.cons_append, Nat.zero_add, Nat.le_refl, bne_self_eq_false, Nat.reduceAdd, Nat.reduceMul, Nat.reducePow, Nat.reduceSub, Nat.reduceEqDiff, Nat.reduceLT, Nat.reduceLeDiff, Int.reduceEq, Int.reduceNe, Int.reduceLT, Int.reduceLE, Int.reduceAdd, Int.reduceSub, Int.reduceToNat, Int.reduceBNe, Int.reduceBEq, tyR, b2]; with_reducible rfl, ?_⟩
    exact ⟨⟨t, rfl⟩, .inr ⟨t, ht, rfl⟩⟩
/-- j.gone(id) -/
def GoneS (t : Tk) (H : AHeap) (pj s bl k : Nat) (o : Tb) (ts : List Tk) : AV → AHeap → Prop := fun r H' => r = .tuple [] ∧ ∃ o', JS H' pj s bl k o' (tdel ts t.id) ∧ Kp H H' bl o o'
theorem gone_ok (h : Jx H pj s bl k o f gs ts) {t : Tk} (ht : tf ts t.id = some t) : ∃ r H', Pt (kn G base w0) 31 [.ptr (.own pj) 0, .int .i64 t.id] H r H' ∧ GoneS t H pj s bl k o ts r H' := by
  have e35 : ∀ l off u H, astore (kn G base w0).c H 35 (.ptr l off) (.agg (encT u)) = wr H l off (encT u) := fun l off u H => by simp [astore, kn_P, sz35, cells_agg, encT_len]
  refine Pt.fn (n := 15) (rs := []) Try.func31 (b := _) rfl rfl rfl (by decide) ?_
  refine D.sq ?_
  obtain ⟨r1, H2, hc, rfl, hg⟩ := call_only (κ := kn G base w0) (f := 30) (args := [.ptr (.own pj) 0, .int .i64 t.id]) (H := H) (fun _ H r H' => GetS ts f gs bl t.id H r H') (get_okJ h t.id)
  rcases hg with ⟨hn, rfl⟩ | ⟨t', n, ht', hf, hn, hg, rfl⟩
  · rw [ht] at hn; cases hn
  rw [ht] at ht'; cases ht'
  have p1 := (put1 h.cells hg).all
  refine D.rgC hc (by kernel_rfl) (by simp (maxSteps := 1000000) (disch := omega) only [rulesA, numbered, ayield, mapO, constAV, scAV, optval, abin, aint, acmp, aconv, aun, aeq, aminmax, afieldAddr, abuild, anew, fieldPlaces, afill, setSeg, kn_P, Option.bind_some, Option.bind_none, Option.map_some, Option.isSome_some, if_true, if_false, List.getElem?_toArray, List.getElem?_cons_zero, List.getElem?_cons_succ, beq_self_eq_true, Bool.not_true, Bool.not_false, List.length_cons, List.length_nil, Bool.false_eq_true, decide_true, decide_false, and_self, and_true, true_and, List.all_cons, List.all_nil, Bool.and_self, Bool.and_true, List.take_zero, List.take_succ_cons, List.drop_zero, List.drop_succ_cons, List.nil_append, List.cons_append, Nat.zero_add, Nat.le_refl, bne_self_eq_false, Nat.reduceAdd, Nat.reduceMul, Nat.reducePow, Nat.reduceSub, Nat.reduceEqDiff, Nat.reduceLT, Nat.reduceLeDiff, Int.reduceEq, Int.reduceNe, Int.reduceLT, Int.reduceLE, Int.reduceAdd, Int.reduceSub, Int.reduceToNat, Int.reduceBNe, Int.reduceBEq, tyR, wrap_in, beq_yes, beq_no, bne_yes, bne_no, lt_yes, lt_no, le_yes, le_no, gt_iff_lt, ge_iff_le, hc, hJ30, e0, e35, p1 tk0]; with_reducible rfl) ?_
  simp only [Ks_n, Ks_e, Ks_r, Kb_n, Kb_e, Kb_r, Kl_n, Kl_e, Kl_r, Kf_r, Kf_n, Kc_n, Kx_n, Kx_e, Kx_r, Kb_ne, ne_eq, Nat.reduceEqDiff, not_false_eq_true]
  have hT : T (hz H2 bl n gs tk0) s o k f ts.length := h.t.keep fun j hj => hz_ne (by rintro rfl; rcases hj with e | e; exact h.n3.1 e; exact h.n3.2 e)
  have l0 : aload (kn G base w0).c (hz H2 bl n gs tk0) 62 (.ptr (.own pj) 0) = some (.ptr (.own s) 0) := ld_own (by rw [hz_ne h.n1]; exact h.row) rfl ag62
  obtain ⟨r2, H3, hc2, hd⟩ := call_only (κ := kn G base w0) (f := 40) (args := [.ptr (.own s) 0, .int .i64 t.id]) (H := hz H2 bl n gs tk0) (fun _ H r H' => DropT t.id H s o k f ts.length r H') (dropT hT t.id)
  rcases hd with ⟨hno, _, _⟩ | ⟨m, b', c', hm, hmk, rfl, hcc, hT3, hb', hK3⟩
  · rw [hno] at hf; cases hf
  refine D.rgC hc2 (by kernel_rfl) (by simp (maxSteps := 1000000) (disch := omega) only [rulesA, numbered, ayield, mapO, constAV, scAV, optval, abin, aint, acmp, aconv, aun, aeq, aminmax, afieldAddr, abuild, anew, fieldPlaces, afill, setSeg, kn_P, Option.bind_some, Option.bind_none, Option.map_some, Option.isSome_some, if_true, if_false, List.getElem?_toArray, List.getElem?_cons_zero, List.getElem?_cons_succ, beq_self_eq_true, Bool.not_true, Bool.not_false, List.length_cons, List.length_nil, Bool.false_eq_true, decide_true, decide_false, and_self, and_true, true_and, List.all_cons, List.all_nil, Bool.and_self, Bool.and_true, List.take_zero, List.take_succ_cons, List.drop_zero, List.drop_succ_cons, List.nil_append, List.cons_append, Nat.zero_add, Nat.le_refl, bne_self_eq_false, Nat.reduceAdd, Nat.reduceMul, Nat.reducePow, Nat.reduceSub, Nat.reduceEqDiff, Nat.reduceLT, Nat.reduceLeDiff, Int.reduceEq, Int.reduceNe, Int.reduceLT, Int.reduceLE, Int.reduceAdd, Int.reduceSub, Int.reduceToNat, Int.reduceBNe, Int.reduceBEq, tyR, wrap_in, beq_yes, beq_no, bne_yes, bne_no, lt_yes, lt_no, le_yes, le_no, gt_iff_lt, ge_iff_le, hc2, hb10, l0]; with_reducible rfl) ?_
  simp only [Ks_n, Ks_e, Ks_r, Kb_n, Kb_e, Kb_r, Kl_n, Kl_e, Kl_r, Kf_r, Kf_n, Kc_n, Kx_n, Kx_e, Kx_r, Kb_ne, ne_eq, Nat.reduceEqDiff, not_false_eq_true]
  refine ⟨_, by simp only [resOf, aresult, rulesA, numbered, ayield, mapO, constAV, scAV, optval, abin, aint, acmp, aconv, aun, aeq, aminmax, afieldAddr, abuild, anew, fieldPlaces, afill, setSeg, kn_P, Option.bind_some, Option.bind_none, Option.map_some, Option.isSome_some, if_true, if_false, List.getElem?_toArray, List.getElem?_cons_zero, List.getElem?_cons_succ, beq_self_eq_true, Bool.not_true, Bool.not_false, List.length_cons, List.length_nil, Bool.false_eq_true, decide_true, decide_false, and_self, and_true, true_and, List.all_cons, List.all_nil, Bool.and_self, Bool.and_true, List.take_zero, List.take_succ_cons, List.drop_zero, List.drop_succ_cons, List.nil_append, List.cons_append, Nat.zero_add, Nat.le_refl, bne_self_eq_false, Nat.reduceAdd, Nat.reduceMul, Nat.reducePow, Nat.reduceSub, Nat.reduceEqDiff, Nat.reduceLT, Nat.reduceLeDiff, Int.reduceEq, Int.reduceNe, Int.reduceLT, Int.reduceLE, Int.reduceAdd, Int.reduceSub, Int.reduceToNat, Int.reduceBNe, Int.reduceBEq, tyR]; with_reducible rfl, ?_⟩
  refine ⟨rfl, _, ⟨_, _, h.del ht hf hg hcc hT3 hK3 ?_⟩, ⟨?_, ?_⟩⟩
  · rintro j (e | e | e | e | e)
    · exact .inl (.inl e)
    · exact .inl (.inr (.inl e))
    · exact .inl (.inr (.inr (.inl e)))
    · exact .inl (.inr (.inr (.inr (.inl e))))
    · rcases hb' with hb' | hb'
      · exact .inl (.inr (.inr (.inr (.inr (e.trans hb')))))
      · rw [hz_len] at hb'; exact .inr (by have : j = b' := e; omega)
  · exact (hz_keep.mono (S' := JOwn bl o) fun _ _ e => .inl e).trans' (hK3.mono (S' := JOwn bl o) fun _ _ e => .inr e) fun j hj e => e
  · rintro j (e | e | e | e | e)
    · exact .inl (.inl e)
    · exact .inl (.inr (.inl e))
    · exact .inl (.inr (.inr (.inl e)))
    · exact .inl (.inr (.inr (.inr (.inl e))))
    · rcases hb' with hb' | hb'
      · exact .inl (.inr (.inr (.inr (.inr (e.trans hb')))))
      · rw [hz_len] at hb'; exact .inr (by have : j = b' := e; omega)

end Go.Proofs.Ytecfofmndpgnjaa.sy
