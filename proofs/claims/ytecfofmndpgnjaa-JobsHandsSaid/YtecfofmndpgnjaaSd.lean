/- slots.Drop (own work). -/
import Derived.Test.YtecfofmndpgnjaaSu
namespace Go.Proofs.Ytecfofmndpgnjaa.sy
open Go.AM Go.AM.Hp
set_option linter.unusedSimpArgs false
set_option linter.unusedVariables false
variable {G : List Nat → Option (List AV)} {base : Nat} {w0 : World}
set_option maxRecDepth 100000
variable {H : AHeap} {s : Nat} {o : Tb} {k : Nat} {ids : List Int} {us : List Bool} {l : List (Int × Int × Nat)} {clk : Nat} {a : List Int}
/-- one is taken out -/
theorem Inv.drop (hI : Inv k ids us l a) (hnod : (l.map (·.1)).Nodup) (hil : ids.length = k) (hul : us.length = k) {n : Nat} {id : Int} {b : Nat} (hin : (id, (n : Int), b) ∈ l) (hnk : n < k) (hidn : ids.getD n 0 = id) (hu : us.getD n false = true) {l' : List (Int × Int × Nat)} (hl' : ∀ e, e ∈ l' ↔ e ∈ l ∧ e.1 ≠ id) (hlen : l'.length + 1 = l.length) {a' : List Int} (hp : a'.Perm (a ++ [(n : Int)])) (hh : Heap a' a'.length) :
    Inv k (ids.set n 0) (us.set n false) l' a' := by
  have hna : (n : Int) ∉ a := by
    intro h
    obtain ⟨j, h1, h2, h3⟩ := (hI.free n).1 h
    obtain rfl : n = j := by omega
    rw [hu] at h3; cases h3
  refine ⟨hI.k4, ?_, ?_, ?_, ?_, hh, ?_, fun e he => hI.rng e ((hl' e).1 he).1⟩
  · intro e he
    obtain ⟨h1, h2⟩ := (hl' e).1 he
    obtain ⟨j, q1, q2, q3, q4⟩ := hI.fwd e h1
    have hjn : n ≠ j := by rintro rfl; exact h2 (q3.symm.trans hidn)
    exact ⟨j, q1, q2, by rw [getD_set, if_neg (by omega)]; exact q3, by rw [getD_set, if_neg (by omega)]; exact q4⟩
  · intro j hj hju
    by_cases hjn : n = j
    · subst hjn; rw [getD_set, if_pos ⟨rfl, by omega⟩] at hju; cases hju
    · rw [getD_set, if_neg (by omega)] at hju ⊢
      obtain ⟨b', hb'⟩ := hI.bwd j hj hju
      refine ⟨b', (hl' _).2 ⟨hb', fun e => hjn ?_⟩⟩
      have h1 := mget_mem hnod hb'
      have h2 := mget_mem hnod hin
      simp only [] at e h1 h2
      rw [e, h2] at h1
      simp only [Option.some.injEq] at h1
      omega
  · intro x
    rw [hp.mem_iff, List.mem_append]
    constructor
    · rintro (h | h)
      · obtain ⟨j, h1, h2, h3⟩ := (hI.free x).1 h
        have hjn : n ≠ j := by rintro rfl; rw [hu] at h3; cases h3
        exact ⟨j, h1, h2, by rw [getD_set, if_neg (by omega)]; exact h3⟩
      · simp at h; exact ⟨n, h, hnk, by rw [getD_set, if_pos ⟨rfl, by omega⟩]⟩
    · rintro ⟨j, h1, h2, h3⟩
      by_cases hjn : n = j
      · subst hjn; exact .inr (by simp [h1])
      · rw [getD_set, if_neg (by omega)] at h3
        exact .inl ((hI.free x).2 ⟨j, h1, h2, h3⟩)
  · rw [hp.nodup_iff, List.nodup_append]
    exact ⟨hI.nd, by simp, fun x hx y hy e => by simp at hy; subst hy; subst e; exact hna hx⟩
  · have := hp.length_eq; have := hI.cnt; simp at *; omega
def DropS (id : Int) (H : AHeap) (s : Nat) (o : Tb) (k : Nat) (ids : List Int) (us : List Bool) (l : List (Int × Int × Nat)) (clk : Nat) (a : List Int) : AV → AHeap → Prop := fun r H' =>
  (mget l id = none ∧ r = .bool false ∧ H' = H) ∨
  (∃ (n : Nat) (b' : Nat) (l' : List (Int × Int × Nat)) (a' : List Int), mget l id = some (n : Int) ∧ n < k ∧ r = .bool true ∧ Sts H' s ⟨o.bi, o.bu, o.m, o.pf, b'⟩ k (ids.set n 0) (us.set n false) l' clk a' ∧ Inv k (ids.set n 0) (us.set n false) l' a' ∧ (∀ e, e ∈ l' ↔ e ∈ l ∧ e.1 ≠ id) ∧ l'.length + 1 = l.length ∧ (b' = o.bf ∨ H.length ≤ b') ∧ Keep H H' (Own o))
theorem drop_ok (hT : Sts H s o k ids us l clk a) (hI : Inv k ids us l a) (id : Int) : ∃ r H', Pt (kn G base w0) 40 [.ptr (.own s) 0, .int .i64 id] H r H' ∧ DropS id H s o k ids us l clk a r H' := by
  refine Pt.fn (n := 40) (rs := [.tmp 4]) Try.func40 (b := _) rfl rfl rfl (by decide) ?_
  refine D.sq (D.region (T := none_) (by simp only [rulesA, numbered, ayield, mapO, constAV, scAV, optval, abin, aint, acmp, aconv, aun, aeq, aminmax, afieldAddr, abuild, anew, fieldPlaces, afill, setSeg, kn_P, Option.bind_some, Option.bind_none, Option.map_some, Option.isSome_some, if_true, if_false, List.getElem?_toArray, List.getElem?_cons_zero, List.getElem?_cons_succ, beq_self_eq_true, Bool.not_true, Bool.not_false, List.length_cons, List.length_nil, Bool.false_eq_true, decide_true, decide_false, and_self, and_true, true_and, List.all_cons, List.all_nil, Bool.and_self, Bool.and_true, List.take_zero, List.take_succ_cons, List.drop_zero, List.drop_succ_cons, List.nil_append, List.cons_append, Nat.zero_add, Nat.le_refl, bne_self_eq_false, Nat.reduceAdd, Nat.reduceMul, Nat.reducePow, Nat.reduceSub, Nat.reduceEqDiff, Nat.reduceLT, Nat.reduceLeDiff, Int.reduceEq, Int.reduceNe, Int.reduceLT, Int.reduceLE, Int.reduceAdd, Int.reduceSub, Int.reduceToNat, Int.reduceBNe, Int.reduceBEq, tyR]; with_reducible rfl) ?_)
  simp only [Ks_n, Ks_e, Ks_r, Kb_n, Kb_e, Kb_r, Kl_n, Kl_e, Kl_r, Kf_r, Kf_n, Kc_n, Kx_n, Kx_e, Kx_r, Kb_ne, ne_eq, Nat.reduceEqDiff, not_false_eq_true]
  obtain ⟨r1, H1, hc1, rfl, rfl⟩ := call_only (κ := kn G base w0) (f := 39) (args := [.ptr (.own s) 0, .int .i64 id]) (H := H) (fun _ H r H' => r = .tuple [.int .i64 ((mget l id).getD 0), .bool (mget l id).isSome] ∧ H' = H) (get_ok hT id)
  refine D.sq (D.regC hc1 (by simp only [rulesA, numbered, ayield, mapO, constAV, scAV, optval, abin, aint, acmp, aconv, aun, aeq, aminmax, afieldAddr, abuild, anew, fieldPlaces, afill, setSeg, kn_P, Option.bind_some, Option.bind_none, Option.map_some, Option.isSome_some, if_true, if_false, List.getElem?_toArray, List.getElem?_cons_zero, List.getElem?_cons_succ, beq_self_eq_true, Bool.not_true, Bool.not_false, List.length_cons, List.length_nil, Bool.false_eq_true, decide_true, decide_false, and_self, and_true, true_and, List.all_cons, List.all_nil, Bool.and_self, Bool.and_true, List.take_zero, List.take_succ_cons, List.drop_zero, List.drop_succ_cons, List.nil_append, List.cons_append, Nat.zero_add, Nat.le_refl, bne_self_eq_false, Nat.reduceAdd, Nat.reduceMul, Nat.reducePow, Nat.reduceSub, Nat.reduceEqDiff, Nat.reduceLT, Nat.reduceLeDiff, Int.reduceEq, Int.reduceNe, Int.reduceLT, Int.reduceLE, Int.reduceAdd, Int.reduceSub, Int.reduceToNat, Int.reduceBNe, Int.reduceBEq, tyR, hc1, hb11]; with_reducible rfl) ?_)
  simp only [Ks_n, Ks_e, Ks_r, Kb_n, Kb_e, Kb_r, Kl_n, Kl_e, Kl_r, Kf_r, Kf_n, Kc_n, Kx_n, Kx_e, Kx_r, Kb_ne, ne_eq, Nat.reduceEqDiff, not_false_eq_true]
  refine D.sq (D.sq (D.region (T := none_) (by simp only [rulesA, numbered, ayield, mapO, constAV, scAV, optval, abin, aint, acmp, aconv, aun, aeq, aminmax, afieldAddr, abuild, anew, fieldPlaces, afill, setSeg, kn_P, Option.bind_some, Option.bind_none, Option.map_some, Option.isSome_some, if_true, if_false, List.getElem?_toArray, List.getElem?_cons_zero, List.getElem?_cons_succ, beq_self_eq_true, Bool.not_true, Bool.not_false, List.length_cons, List.length_nil, Bool.false_eq_true, decide_true, decide_false, and_self, and_true, true_and, List.all_cons, List.all_nil, Bool.and_self, Bool.and_true, List.take_zero, List.take_succ_cons, List.drop_zero, List.drop_succ_cons, List.nil_append, List.cons_append, Nat.zero_add, Nat.le_refl, bne_self_eq_false, Nat.reduceAdd, Nat.reduceMul, Nat.reducePow, Nat.reduceSub, Nat.reduceEqDiff, Nat.reduceLT, Nat.reduceLeDiff, Int.reduceEq, Int.reduceNe, Int.reduceLT, Int.reduceLE, Int.reduceAdd, Int.reduceSub, Int.reduceToNat, Int.reduceBNe, Int.reduceBEq, tyR]; with_reducible rfl) ?_))
  simp only [Ks_n, Ks_e, Ks_r, Kb_n, Kb_e, Kb_r, Kl_n, Kl_e, Kl_r, Kf_r, Kf_n, Kc_n, Kx_n, Kx_e, Kx_r, Kb_ne, ne_eq, Nat.reduceEqDiff, not_false_eq_true]
  cases hm : mget l id with
  | none =>
    refine D.cond (by simp only [rulesA, numbered, ayield, mapO, constAV, scAV, optval, abin, aint, acmp, aconv, aun, aeq, aminmax, afieldAddr, abuild, anew, fieldPlaces, afill, setSeg, kn_P, Option.bind_some, Option.bind_none, Option.map_some, Option.isSome_some, if_true, if_false, List.getElem?_toArray, List.getElem?_cons_zero, List.getElem?_cons_succ, beq_self_eq_true, Bool.not_true, Bool.not_false, List.length_cons, List.length_nil, Bool.false_eq_true, decide_true, decide_false, and_self, and_true, true_and, List.all_cons, List.all_nil, Bool.and_self, Bool.and_true, List.take_zero, List.take_succ_cons, List.drop_zero, List.drop_succ_cons, List.nil_append, List.cons_append, Nat.zero_add, Nat.le_refl, bne_self_eq_false, Nat.reduceAdd, Nat.reduceMul, Nat.reducePow, Nat.reduceSub, Nat.reduceEqDiff, Nat.reduceLT, Nat.reduceLeDiff, Int.reduceEq, Int.reduceNe, Int.reduceLT, Int.reduceLE, Int.reduceAdd, Int.reduceSub, Int.reduceToNat, Int.reduceBNe, Int.reduceBEq, tyR, hm, Option.isSome_none]; with_reducible rfl) (fun h => ?_) (fun h => ?_)
    · cases h
    refine D.skip ?_
    simp only [Ks_n, Ks_e, Ks_r, Kb_n, Kb_e, Kb_r, Kl_n, Kl_e, Kl_r, Kf_r, Kf_n, Kc_n, Kx_n, Kx_e, Kx_r, Kb_ne, ne_eq, Nat.reduceEqDiff, not_false_eq_true]
    refine D.sq (D.region (T := none_) (by simp only [rulesA, numbered, ayield, mapO, constAV, scAV, optval, abin, aint, acmp, aconv, aun, aeq, aminmax, afieldAddr, abuild, anew, fieldPlaces, afill, setSeg, kn_P, Option.bind_some, Option.bind_none, Option.map_some, Option.isSome_some, if_true, if_false, List.getElem?_toArray, List.getElem?_cons_zero, List.getElem?_cons_succ, beq_self_eq_true, Bool.not_true, Bool.not_false, List.length_cons, List.length_nil, Bool.false_eq_true, decide_true, decide_false, and_self, and_true, true_and, List.all_cons, List.all_nil, Bool.and_self, Bool.and_true, List.take_zero, List.take_succ_cons, List.drop_zero, List.drop_succ_cons, List.nil_append, List.cons_append, Nat.zero_add, Nat.le_refl, bne_self_eq_false, Nat.reduceAdd, Nat.reduceMul, Nat.reducePow, Nat.reduceSub, Nat.reduceEqDiff, Nat.reduceLT, Nat.reduceLeDiff, Int.reduceEq, Int.reduceNe, Int.reduceLT, Int.reduceLE, Int.reduceAdd, Int.reduceSub, Int.reduceToNat, Int.reduceBNe, Int.reduceBEq, tyR, hm, Option.isSome_none]; with_reducible rfl) ?_)
    simp only [Ks_n, Ks_e, Ks_r, Kb_n, Kb_e, Kb_r, Kl_n, Kl_e, Kl_r, Kf_r, Kf_n, Kc_n, Kx_n, Kx_e, Kx_r, Kb_ne, ne_eq, Nat.reduceEqDiff, not_false_eq_true]
    refine D.ret ?_
    simp only [Ks_n, Ks_e, Ks_r, Kb_n, Kb_e, Kb_r, Kl_n, Kl_e, Kl_r, Kf_r, Kf_n, Kc_n, Kx_n, Kx_e, Kx_r, Kb_ne, ne_eq, Nat.reduceEqDiff, not_false_eq_true]
    refine ⟨_, by simp only [resOf, aresult, rulesA, numbered, ayield, mapO, constAV, scAV, optval, abin, aint, acmp, aconv, aun, aeq, aminmax, afieldAddr, abuild, anew, fieldPlaces, afill, setSeg, kn_P, Option.bind_some, Option.bind_none, Option.map_some, Option.isSome_some, if_true, if_false, List.getElem?_toArray, List.getElem?_cons_zero, List.getElem?_cons_succ, beq_self_eq_true, Bool.not_true, Bool.not_false, List.length_cons, List.length_nil, Bool.false_eq_true, decide_true, decide_false, and_self, and_true, true_and, List.all_cons, List.all_nil, Bool.and_self, Bool.and_true, List.take_zero, List.take_succ_cons, List.drop_zero, List.drop_succ_cons, List.nil_append, List.cons_append, Nat.zero_add, Nat.le_refl, bne_self_eq_false, Nat.reduceAdd, Nat.reduceMul, Nat.reducePow, Nat.reduceSub, Nat.reduceEqDiff, Nat.reduceLT, Nat.reduceLeDiff, Int.reduceEq, Int.reduceNe, Int.reduceLT, Int.reduceLE, Int.reduceAdd, Int.reduceSub, Int.reduceToNat, Int.reduceBNe, Int.reduceBEq, tyR]; with_reducible rfl, ?_⟩
    exact .inl ⟨hm, rfl, (by first | exact rfl | exact True.intro)⟩
  | some x =>
  have hmem := (mget_iff hT.ml.nodup).1 hm
  obtain ⟨b, hb⟩ := hmem
  obtain ⟨n, hx, hnk, hidn, hun⟩ := hI.fwd _ hb
  simp only [] at hx hidn
  subst hx
  refine D.cond (by simp only [rulesA, numbered, ayield, mapO, constAV, scAV, optval, abin, aint, acmp, aconv, aun, aeq, aminmax, afieldAddr, abuild, anew, fieldPlaces, afill, setSeg, kn_P, Option.bind_some, Option.bind_none, Option.map_some, Option.isSome_some, if_true, if_false, List.getElem?_toArray, List.getElem?_cons_zero, List.getElem?_cons_succ, beq_self_eq_true, Bool.not_true, Bool.not_false, List.length_cons, List.length_nil, Bool.false_eq_true, decide_true, decide_false, and_self, and_true, true_and, List.all_cons, List.all_nil, Bool.and_self, Bool.and_true, List.take_zero, List.take_succ_cons, List.drop_zero, List.drop_succ_cons, List.nil_append, List.cons_append, Nat.zero_add, Nat.le_refl, bne_self_eq_false, Nat.reduceAdd, Nat.reduceMul, Nat.reducePow, Nat.reduceSub, Nat.reduceEqDiff, Nat.reduceLT, Nat.reduceLeDiff, Int.reduceEq, Int.reduceNe, Int.reduceLT, Int.reduceLE, Int.reduceAdd, Int.reduceSub, Int.reduceToNat, Int.reduceBNe, Int.reduceBEq, tyR, hm, Option.isSome_some]; with_reducible rfl) (fun h => ?_) (fun h => ?_)
  rotate_left
  · cases h
  clear h
  have l2 := own_ld (G := G) (base := base) (w0 := w0) (i := 2) hT.row rfl ag75
  obtain ⟨l', ed, ml2, hll, hl'⟩ := hT.ml.del (c := (kn G base w0).c) Try.underlying75 Try.underlying3 hm
  obtain ⟨b1, b2, b3, b4, b5, b6⟩ := hT.lt
  obtain ⟨d1, d2, d3, d4, d5, d6, d7, d8, d9, d10, d11, d12, d13⟩ := hT.apart
  generalize hH2 : H1.set o.m (some (.map (l'.map enc) clk)) = H2 at ed ml2
  have hl2 : H2.length = H1.length := by rw [← hH2, List.length_set]
  have kp2 : ∀ j, j ≠ o.m → hat H2 j = hat H1 j := fun j h => by rw [← hH2]; exact hat_ne _ h
  refine D.sq (D.region (T := none_) (by simp only [rulesA, numbered, ayield, mapO, constAV, scAV, optval, abin, aint, acmp, aconv, aun, aeq, aminmax, afieldAddr, abuild, anew, fieldPlaces, afill, setSeg, kn_P, Option.bind_some, Option.bind_none, Option.map_some, Option.isSome_some, if_true, if_false, List.getElem?_toArray, List.getElem?_cons_zero, List.getElem?_cons_succ, beq_self_eq_true, Bool.not_true, Bool.not_false, List.length_cons, List.length_nil, Bool.false_eq_true, decide_true, decide_false, and_self, and_true, true_and, List.all_cons, List.all_nil, Bool.and_self, Bool.and_true, List.take_zero, List.take_succ_cons, List.drop_zero, List.drop_succ_cons, List.nil_append, List.cons_append, Nat.zero_add, Nat.le_refl, bne_self_eq_false, Nat.reduceAdd, Nat.reduceMul, Nat.reducePow, Nat.reduceSub, Nat.reduceEqDiff, Nat.reduceLT, Nat.reduceLeDiff, Int.reduceEq, Int.reduceNe, Int.reduceLT, Int.reduceLE, Int.reduceAdd, Int.reduceSub, Int.reduceToNat, Int.reduceBNe, Int.reduceBEq, tyR, l2, ed]; with_reducible rfl) ?_)
  simp only [Ks_n, Ks_e, Ks_r, Kb_n, Kb_e, Kb_r, Kl_n, Kl_e, Kl_r, Kf_r, Kf_n, Kc_n, Kx_n, Kx_e, Kx_r, Kb_ne, ne_eq, Nat.reduceEqDiff, not_false_eq_true]
  have row2 := (kp2 s d3).trans hT.row
  have m0 := own_ld (G := G) (base := base) (w0 := w0) (i := 0) row2 rfl ag28
  have m1 := own_ld (G := G) (base := base) (w0 := w0) (i := 1) row2 rfl ag40
  have x0 := own_ix (G := G) (base := base) (w0 := w0) Try.underlying28 sz3 (b := o.bi) hnk
  have x1 := own_ix (G := G) (base := base) (w0 := w0) Try.underlying40 sz4 (b := o.bu) hnk
  have hi2 := (kp2 o.bi d7).trans hT.hi
  have w0' := wr_own hi2 (off := n) (v := .int .i64 0) (by rw [ints_len, hT.il]; exact hnk) rfl
  generalize hH3 : H2.set o.bi (some (.row 3 1 ((ints ids).set n (.int .i64 0)))) = H3 at w0'
  have hl3 : H3.length = H2.length := by rw [← hH3, List.length_set]
  have kp3 : ∀ j, j ≠ o.bi → hat H3 j = hat H2 j := fun j h => by rw [← hH3]; exact hat_ne _ h
  have hu3 := (kp3 o.bu (fun e => d6 e.symm)).trans ((kp2 o.bu d9).trans hT.hu)
  have w1' := wr_own hu3 (off := n) (v := .bool false) (by rw [List.length_map, hT.ul]; exact hnk) rfl
  generalize hH4 : H3.set o.bu (some (.row 4 1 ((us.map AV.bool).set n (.bool false)))) = H4 at w1'
  have hl4 : H4.length = H3.length := by rw [← hH4, List.length_set]
  have kp4 : ∀ j, j ≠ o.bu → hat H4 j = hat H3 j := fun j h => by rw [← hH4]; exact hat_ne _ h
  refine D.sq (D.draw (T := none_) (by kernel_rfl) (by simp only [rulesA, numbered, ayield, mapO, constAV, scAV, optval, abin, aint, acmp, aconv, aun, aeq, aminmax, afieldAddr, abuild, anew, fieldPlaces, afill, setSeg, kn_P, Option.bind_some, Option.bind_none, Option.map_some, Option.isSome_some, if_true, if_false, List.getElem?_toArray, List.getElem?_cons_zero, List.getElem?_cons_succ, beq_self_eq_true, Bool.not_true, Bool.not_false, List.length_cons, List.length_nil, Bool.false_eq_true, decide_true, decide_false, and_self, and_true, true_and, List.all_cons, List.all_nil, Bool.and_self, Bool.and_true, List.take_zero, List.take_succ_cons, List.drop_zero, List.drop_succ_cons, List.nil_append, List.cons_append, Nat.zero_add, Nat.le_refl, bne_self_eq_false, Nat.reduceAdd, Nat.reduceMul, Nat.reducePow, Nat.reduceSub, Nat.reduceEqDiff, Nat.reduceLT, Nat.reduceLeDiff, Int.reduceEq, Int.reduceNe, Int.reduceLT, Int.reduceLE, Int.reduceAdd, Int.reduceSub, Int.reduceToNat, Int.reduceBNe, Int.reduceBEq, tyR, m0, m1, x0, x1, astore, w0', w1', Option.getD_some]; with_reducible rfl) ?_)
  simp only [Ks_n, Ks_e, Ks_r, Kb_n, Kb_e, Kb_r, Kl_n, Kl_e, Kl_r, Kf_r, Kf_n, Kc_n, Kx_n, Kx_e, Kx_r, Kb_ne, ne_eq, Nat.reduceEqDiff, not_false_eq_true]
  have row4 := (kp4 s d2).trans ((kp3 s d1).trans row2)
  have m3 := own_ld (G := G) (base := base) (w0 := w0) (i := 3) row4 rfl ag76
  have F4 : Fr H4 o.pf o.bf a := hT.fr.keep (by rw [kp4 _ (fun e => d10 e.symm), kp3 _ (fun e => d8 e.symm), kp2 _ (fun e => d12 e.symm)]) (by rw [kp4 _ (fun e => d11 e.symm), kp3 _ (fun e => hT.ne e.symm), kp2 _ (fun e => d13 e.symm)])
  have hla : a.length ≤ 4096 := by have := hI.cnt; have := hI.k4; omega
  obtain ⟨r5, H5, hc5, b', a', hF5, hp5, hh5, hk5, hb5⟩ := call_only (κ := kn G base w0) (f := 36) (args := [.iface 76 (.ptr (.own o.pf) 0), .iface 3 (.int .i64 (n : Int))]) (H := H4) (fun _ H0 r H' => PushS o.pf o.bf a (n : Int) H0 r H') (hpush_ok F4 n (by omega) hI.heap)
  refine D.regC hc5 (by simp only [rulesA, numbered, ayield, mapO, constAV, scAV, optval, abin, aint, acmp, aconv, aun, aeq, aminmax, afieldAddr, abuild, anew, fieldPlaces, afill, setSeg, kn_P, Option.bind_some, Option.bind_none, Option.map_some, Option.isSome_some, if_true, if_false, List.getElem?_toArray, List.getElem?_cons_zero, List.getElem?_cons_succ, beq_self_eq_true, Bool.not_true, Bool.not_false, List.length_cons, List.length_nil, Bool.false_eq_true, decide_true, decide_false, and_self, and_true, true_and, List.all_cons, List.all_nil, Bool.and_self, Bool.and_true, List.take_zero, List.take_succ_cons, List.drop_zero, List.drop_succ_cons, List.nil_append, List.cons_append, Nat.zero_add, Nat.le_refl, bne_self_eq_false, Nat.reduceAdd, Nat.reduceMul, Nat.reducePow, Nat.reduceSub, Nat.reduceEqDiff, Nat.reduceLT, Nat.reduceLeDiff, Int.reduceEq, Int.reduceNe, Int.reduceLT, Int.reduceLE, Int.reduceAdd, Int.reduceSub, Int.reduceToNat, Int.reduceBNe, Int.reduceBEq, tyR, hc5, m3, hb15, Option.getD_some]; with_reducible rfl) ?_
  simp only [Ks_n, Ks_e, Ks_r, Kb_n, Kb_e, Kb_r, Kl_n, Kl_e, Kl_r, Kf_r, Kf_n, Kc_n, Kx_n, Kx_e, Kx_r, Kb_ne, ne_eq, Nat.reduceEqDiff, not_false_eq_true]
  refine D.sq (D.region (T := none_) (by simp only [rulesA, numbered, ayield, mapO, constAV, scAV, optval, abin, aint, acmp, aconv, aun, aeq, aminmax, afieldAddr, abuild, anew, fieldPlaces, afill, setSeg, kn_P, Option.bind_some, Option.bind_none, Option.map_some, Option.isSome_some, if_true, if_false, List.getElem?_toArray, List.getElem?_cons_zero, List.getElem?_cons_succ, beq_self_eq_true, Bool.not_true, Bool.not_false, List.length_cons, List.length_nil, Bool.false_eq_true, decide_true, decide_false, and_self, and_true, true_and, List.all_cons, List.all_nil, Bool.and_self, Bool.and_true, List.take_zero, List.take_succ_cons, List.drop_zero, List.drop_succ_cons, List.nil_append, List.cons_append, Nat.zero_add, Nat.le_refl, bne_self_eq_false, Nat.reduceAdd, Nat.reduceMul, Nat.reducePow, Nat.reduceSub, Nat.reduceEqDiff, Nat.reduceLT, Nat.reduceLeDiff, Int.reduceEq, Int.reduceNe, Int.reduceLT, Int.reduceLE, Int.reduceAdd, Int.reduceSub, Int.reduceToNat, Int.reduceBNe, Int.reduceBEq, tyR, hm, Option.isSome_some]; with_reducible rfl) ?_)
  simp only [Ks_n, Ks_e, Ks_r, Kb_n, Kb_e, Kb_r, Kl_n, Kl_e, Kl_r, Kf_r, Kf_n, Kc_n, Kx_n, Kx_e, Kx_r, Kb_ne, ne_eq, Nat.reduceEqDiff, not_false_eq_true]
  refine D.ret ?_
  simp only [Ks_n, Ks_e, Ks_r, Kb_n, Kb_e, Kb_r, Kl_n, Kl_e, Kl_r, Kf_r, Kf_n, Kc_n, Kx_n, Kx_e, Kx_r, Kb_ne, ne_eq, Nat.reduceEqDiff, not_false_eq_true]
  refine ⟨_, by simp only [resOf, aresult, rulesA, numbered, ayield, mapO, constAV, scAV, optval, abin, aint, acmp, aconv, aun, aeq, aminmax, afieldAddr, abuild, anew, fieldPlaces, afill, setSeg, kn_P, Option.bind_some, Option.bind_none, Option.map_some, Option.isSome_some, if_true, if_false, List.getElem?_toArray, List.getElem?_cons_zero, List.getElem?_cons_succ, beq_self_eq_true, Bool.not_true, Bool.not_false, List.length_cons, List.length_nil, Bool.false_eq_true, decide_true, decide_false, and_self, and_true, true_and, List.all_cons, List.all_nil, Bool.and_self, Bool.and_true, List.take_zero, List.take_succ_cons, List.drop_zero, List.drop_succ_cons, List.nil_append, List.cons_append, Nat.zero_add, Nat.le_refl, bne_self_eq_false, Nat.reduceAdd, Nat.reduceMul, Nat.reducePow, Nat.reduceSub, Nat.reduceEqDiff, Nat.reduceLT, Nat.reduceLeDiff, Int.reduceEq, Int.reduceNe, Int.reduceLT, Int.reduceLE, Int.reduceAdd, Int.reduceSub, Int.reduceToNat, Int.reduceBNe, Int.reduceBEq, tyR]; with_reducible rfl, ?_⟩
  have hI5 := hI.drop hT.ml.nodup hT.il hT.ul hb hnk hidn hun hl' hll hp5 hh5
  have hl5 := hk5.1
  have kp5 : ∀ j, j < H4.length → j ≠ o.pf → j ≠ o.bf → hat H5 j = hat H4 j := fun j hj h1 h2 => hk5.2 j hj (by rintro (h | h); exact h1 h; exact h2 h)
  refine .inr ⟨n, b', l', a', hm, hnk, rfl, ⟨?_, by rw [List.length_set]; exact hT.il, by rw [List.length_set]; exact hT.ul, ?_, ?_, ?_, hF5, ?_⟩, hI5, hl', hll, ?_, ?_⟩
  · rw [kp5 s (by omega) d4 d5]; exact row4
  · show hat H5 o.bi = _
    rw [kp5 _ (by omega) d8 hT.ne, kp4 _ d6, ← hH3, hat_eq _ (by omega), ints, ints, List.map_set]
  · show hat H5 o.bu = _
    rw [kp5 _ (by omega) d10 d11, ← hH4, hat_eq _ (by omega), List.map_set]
  · exact ml2.keep (by rw [kp5 _ (by omega) d12 d13, kp4 _ (fun e => d9 e.symm), kp3 _ (fun e => d7 e.symm)])
  · show o.bi ≠ b'
    rcases hb5 with rfl | hb5
    · exact hT.ne
    · omega
  · rcases hb5 with rfl | hb5
    · exact .inl rfl
    · exact .inr (by omega)
  · refine ⟨by omega, fun j hj hne => ?_⟩
    simp only [Own, not_or] at hne
    rw [kp5 j (by omega) hne.2.2.2.1 hne.2.2.2.2, kp4 j hne.2.1, kp3 j hne.1, kp2 j hne.2.2.1]
end Go.Proofs.Ytecfofmndpgnjaa.sy
