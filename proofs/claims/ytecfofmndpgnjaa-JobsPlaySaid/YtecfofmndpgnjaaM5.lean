/- Texts of the proof in one file (own work): Sm, Sn, Su, Sd, St, AmLocal, AmRows, AmOne. -/
import Derived.Test.YtecfofmndpgnjaaM4
import Derived.Test.YtecfofmndpgnjaaM3
/- slots.Slots (own work): IDs, New. -/
namespace Go.Proofs.Ytecfofmndpgnjaa.sy
open Go.AM Go.AM.Hp
set_option linter.unusedSimpArgs false
set_option linter.unusedVariables false
variable {G : List Nat → Option (List AV)} {base : Nat} {w0 : World}
set_option maxRecDepth 100000
variable {H : AHeap} {s : Nat} {o : Tb} {k : Nat} {ids : List Int} {us : List Bool} {l : List (Int × Int × Nat)} {clk : Nat} {a : List Int}
theorem Sts.keep {H' : AHeap} (h : Sts H s o k ids us l clk a) (hs : hat H' s = hat H s) (h1 : hat H' o.bi = hat H o.bi) (h2 : hat H' o.bu = hat H o.bu) (h3 : hat H' o.m = hat H o.m) (h4 : hat H' o.pf = hat H o.pf) (h5 : hat H' o.bf = hat H o.bf) : Sts H' s o k ids us l clk a :=
  ⟨by rw [hs]; exact h.row, h.il, h.ul, by rw [h1]; exact h.hi, by rw [h2]; exact h.hu, h.ml.keep h3, h.fr.keep h4 h5, h.ne⟩
theorem Sts.lt (h : Sts H s o k ids us l clk a) : s < H.length ∧ o.bi < H.length ∧ o.bu < H.length ∧ o.m < H.length ∧ o.pf < H.length ∧ o.bf < H.length :=
  ⟨hat_lt h.row, hat_lt h.hi, hat_lt h.hu, h.ml.lt, h.fr.lt.1, h.fr.lt.2⟩
theorem Sts.keepF {H' : AHeap} (h : Sts H s o k ids us l clk a) (hk : Keep H H' (fun _ => False)) : Sts H' s o k ids us l clk a := by
  obtain ⟨q1, q2, q3, q4, q5, q6⟩ := h.lt
  exact h.keep (hk.2 _ q1 id) (hk.2 _ q2 id) (hk.2 _ q3 id) (hk.2 _ q4 id) (hk.2 _ q5 id) (hk.2 _ q6 id)
theorem intsOf_ints : ∀ (zs : List Int), intsOf (zs.map (AV.int .i64)) = some zs
  | [] => rfl
  | z :: r => by simp only [List.map_cons, intsOf, intsOf_ints r, Option.map_some]
/-- maps.Keys(m) -/
theorem keys_ok (m : Nat) : ∃ r H', Pt (kn G base w0) 42 [.map (.own m)] H r H' ∧ (r = .func (.func 47) [] [.ptr (.own H.length) 0] ∧ H' = hnew H (.row 75 1 [.map (.own m)])) := by
  refine Pt.fn (n := 4) (rs := [.tmp 2]) Try.func42 (b := _) rfl rfl rfl (by decide) ?_
  refine D.sq (D.region (T := none_) (by simp only [rulesA, rulesB, numbered, ayield, mapO, constAV, scAV, optval, abin, aint, acmp, aconv, aun, aeq, aminmax, afieldAddr, abuild, anew, fieldPlaces, afill, setSeg, kn_P, Nat.reduceAdd, Nat.reduceMul, Nat.reducePow, Nat.reduceSub, Nat.reduceEqDiff, Nat.reduceLT, Nat.reduceLeDiff, Int.reduceEq, Int.reduceNe, Int.reduceLT, Int.reduceLE, Int.reduceAdd, Int.reduceSub, Int.reduceToNat, Int.reduceBNe, Int.reduceBEq, tyR, fresh]; with_reducible rfl) ?_)
  simp only [rulesK, Nat.reduceEqDiff]
  refine D.sq (D.region (T := none_) (by simp only [rulesA, rulesB, numbered, ayield, mapO, constAV, scAV, optval, abin, aint, acmp, aconv, aun, aeq, aminmax, afieldAddr, abuild, anew, fieldPlaces, afill, setSeg, kn_P, Nat.reduceAdd, Nat.reduceMul, Nat.reducePow, Nat.reduceSub, Nat.reduceEqDiff, Nat.reduceLT, Nat.reduceLeDiff, Int.reduceEq, Int.reduceNe, Int.reduceLT, Int.reduceLE, Int.reduceAdd, Int.reduceSub, Int.reduceToNat, Int.reduceBNe, Int.reduceBEq, tyR]; with_reducible rfl) ?_)
  simp only [rulesK, Nat.reduceEqDiff]
  refine D.ret ?_
  simp only [rulesK, Nat.reduceEqDiff]
  refine ⟨_, by simp only [resOf, aresult, rulesA, rulesB, numbered, ayield, mapO, constAV, scAV, optval, abin, aint, acmp, aconv, aun, aeq, aminmax, afieldAddr, abuild, anew, fieldPlaces, afill, setSeg, kn_P, Nat.reduceAdd, Nat.reduceMul, Nat.reducePow, Nat.reduceSub, Nat.reduceEqDiff, Nat.reduceLT, Nat.reduceLeDiff, Int.reduceEq, Int.reduceNe, Int.reduceLT, Int.reduceLE, Int.reduceAdd, Int.reduceSub, Int.reduceToNat, Int.reduceBNe, Int.reduceBEq, tyR]; with_reducible rfl, ?_⟩
  exact ⟨(by first | exact rfl | exact True.intro), (by first | exact rfl | exact True.intro)⟩
def IdsS (l : List (Int × Int × Nat)) (H : AHeap) : AV → AHeap → Prop := fun r H' => Go.AM.Own H' r 3 (ints (isortI (l.map (·.1)))) ∧ Keep H H' (fun _ => False) ∧ ∀ b, r.at? = some b → H.length ≤ b
theorem sorted_ok (hI : Inv k ids us l a) {m clk : Nat} (hm : ML H m l clk) :
    ∃ r H', Pt (kn G base w0) 41 [.func (.func 47) [] [.ptr (.own H.length) 0]] (hnew H (.row 75 1 [.map (.own m)])) r H' ∧ IdsS l H r H' := by
  have hat1 : hat (hnew H (.row 75 1 [.map (.own m)])) m = some (.map (l.map enc) clk) := by rw [hat_nw _ hm.lt]; exact hm.at_
  have hes : (l.map enc).map (·.1) = (l.map (·.1)).map (AV.int .i64) := by simp [enc, Function.comp_def]
  have hlen : l.length ≤ 4096 := by have := hI.cnt; have := hI.k4; omega
  have hok : mapOk (l.map enc) clk (l.map (·.1)) = true := by
    simp only [mapOk, Bool.and_eq_true, Nat.ble_eq, List.all_eq_true, decide_eq_true_eq, Nat.blt_eq]
    refine ⟨by simp; omega, ?_, ?_, ?_, ?_⟩
    · intro z hz
      obtain ⟨e, he, rfl⟩ := List.mem_map.1 hz
      exact hI.rng e he
    · intro e he
      obtain ⟨e', he', rfl⟩ := List.mem_map.1 he
      exact hm.born e' he'
    · have : ((l.map enc).map fun e => (e.2.2 : Int)) = (l.map (·.2.2)).map (fun n : Nat => (n : Int)) := by simp [enc, Function.comp_def]
      rw [this]
      exact nodupI_of (List.Pairwise.map _ (fun a b h e => h (by omega)) hm.bnd)
    · exact nodupI_of hm.nodup
  have hp : ∀ r H', skeys.prim (kn G base w0).c [.func (.func 47) [] [.ptr (.own H.length) 0]] (hnew H (.row 75 1 [.map (.own m)])) = some (r, H') → Pt (kn G base w0) 41 [.func (.func 47) [] [.ptr (.own H.length) 0]] (hnew H (.row 75 1 [.map (.own m)])) r H' := by
    intro r H' e ρ w xs hr hf hx
    exact skeys.prim_ok (c := (kn G base w0).c) rfl 41 _ _ r H' (by simp only [if_true]; exact e) ρ w xs hr hf hx
  have hval : skeys.prim (kn G base w0).c [.func (.func 47) [] [.ptr (.own H.length) 0]] (hnew H (.row 75 1 [.map (.own m)])) = (if (l.map (·.1)).isEmpty then some (.nilslice, hnew H (.row 75 1 [.map (.own m)])) else some (.slice (fresh (hnew H (.row 75 1 [.map (.own m)]))) 1 0 (isortI (l.map (·.1))).length, hnew (hnew H (.row 75 1 [.map (.own m)])) (.row 3 1 ((isortI (l.map (·.1))).map (AV.int .i64))))) := by
    simp only [skeys.prim, rd_own (hat_nn _), List.getElem?_cons_zero, Option.map_some, Option.bind_some, hat1, hes, intsOf_ints, hok, if_true]
  by_cases h0 : l = []
  · subst h0
    refine ⟨_, _, hp _ _ hval, ?_, Keep.new _ _, fun b hb => by simp [AV.at?] at hb⟩
    have : isortI (([] : List (Int × Int × Nat)).map (·.1)) = [] := rfl
    rw [this]; exact Go.AM.Own.nil
  · have hne : (l.map (·.1)).isEmpty = false := by cases l <;> simp_all
    rw [hne] at hval
    have hsl : Go.AM.Own (hnew (hnew H (.row 75 1 [.map (.own m)])) (.row 3 1 ((isortI (l.map (·.1))).map (AV.int .i64)))) (.slice (fresh (hnew H (.row 75 1 [.map (.own m)]))) 1 0 (isortI (l.map (·.1))).length) 3 (ints (isortI (l.map (·.1)))) :=
      .inr ⟨(hnew H (.row 75 1 [.map (.own m)])).length, by rw [ints_len]; rfl, hat_nn _⟩
    refine ⟨_, _, hp _ _ hval, hsl, (Keep.new _ _).trans (Keep.new _ _), fun b hb => ?_⟩
    simp only [fresh, AV.at?, Option.some.injEq, len_new] at hb; omega
/-- s.IDs() -/
theorem ids_ok (hT : Sts H s o k ids us l clk a) (hI : Inv k ids us l a) : ∃ r H', Pt (kn G base w0) 35 [.ptr (.own s) 0] H r H' ∧ IdsS l H r H' := by
  have l2 := own_ld (G := G) (base := base) (w0 := w0) (i := 2) hT.row rfl ag75
  refine Pt.fn (n := 11) (rs := [.tmp 2]) Try.func35 (b := _) rfl rfl rfl (by decide) ?_
  refine D.sq (D.region (T := none_) (by simp only [rulesA, rulesB, numbered, ayield, mapO, constAV, scAV, optval, abin, aint, acmp, aconv, aun, aeq, aminmax, afieldAddr, abuild, anew, fieldPlaces, afill, setSeg, kn_P, Nat.reduceAdd, Nat.reduceMul, Nat.reducePow, Nat.reduceSub, Nat.reduceEqDiff, Nat.reduceLT, Nat.reduceLeDiff, Int.reduceEq, Int.reduceNe, Int.reduceLT, Int.reduceLE, Int.reduceAdd, Int.reduceSub, Int.reduceToNat, Int.reduceBNe, Int.reduceBEq, tyR]; with_reducible rfl) ?_)
  simp only [rulesK, Nat.reduceEqDiff]
  refine D.sq (D.sq (D.region (T := none_) (by simp only [rulesA, rulesB, numbered, ayield, mapO, constAV, scAV, optval, abin, aint, acmp, aconv, aun, aeq, aminmax, afieldAddr, abuild, anew, fieldPlaces, afill, setSeg, kn_P, Nat.reduceAdd, Nat.reduceMul, Nat.reducePow, Nat.reduceSub, Nat.reduceEqDiff, Nat.reduceLT, Nat.reduceLeDiff, Int.reduceEq, Int.reduceNe, Int.reduceLT, Int.reduceLE, Int.reduceAdd, Int.reduceSub, Int.reduceToNat, Int.reduceBNe, Int.reduceBEq, tyR]; with_reducible rfl) ?_))
  simp only [rulesK, Nat.reduceEqDiff]
  refine D.cond (by simp only [rulesA, rulesB, numbered, ayield, mapO, constAV, scAV, optval, abin, aint, acmp, aconv, aun, aeq, aminmax, afieldAddr, abuild, anew, fieldPlaces, afill, setSeg, kn_P, Nat.reduceAdd, Nat.reduceMul, Nat.reducePow, Nat.reduceSub, Nat.reduceEqDiff, Nat.reduceLT, Nat.reduceLeDiff, Int.reduceEq, Int.reduceNe, Int.reduceLT, Int.reduceLE, Int.reduceAdd, Int.reduceSub, Int.reduceToNat, Int.reduceBNe, Int.reduceBEq, tyR]; with_reducible rfl) (fun h => ?_) (fun h => ?_)
  · cases h
  refine D.skip ?_
  simp only [rulesK, Nat.reduceEqDiff]
  obtain ⟨r1, H1, hc1, rfl, rfl⟩ := call_two1 (κ := kn G base w0) (f := 42) (args := [.map (.own o.m)]) (H := H) (fun _ H r H' => r = .func (.func 47) [] [.ptr (.own H.length) 0] ∧ H' = hnew H (.row 75 1 [.map (.own o.m)])) (g := 41) (fun _ _ r H' => IdsS l H r H') (by decide) (keys_ok o.m)
  obtain ⟨r2, H2, hc2, q⟩ := call_two2 (κ := kn G base w0) (f := 42) (fun _ H r H' => r = .func (.func 47) [] [.ptr (.own H.length) 0] ∧ H' = hnew H (.row 75 1 [.map (.own o.m)])) (g := 41) (args := [.func (.func 47) [] [.ptr (.own H.length) 0]]) (H := hnew H (.row 75 1 [.map (.own o.m)])) (fun _ _ r H' => IdsS l H r H') (by decide) (sorted_ok hI hT.ml)
  refine D.sq (D.regC hc1 (by simp only [rulesA, rulesB, numbered, ayield, mapO, constAV, scAV, optval, abin, aint, acmp, aconv, aun, aeq, aminmax, afieldAddr, abuild, anew, fieldPlaces, afill, setSeg, kn_P, Nat.reduceAdd, Nat.reduceMul, Nat.reducePow, Nat.reduceSub, Nat.reduceEqDiff, Nat.reduceLT, Nat.reduceLeDiff, Int.reduceEq, Int.reduceNe, Int.reduceLT, Int.reduceLE, Int.reduceAdd, Int.reduceSub, Int.reduceToNat, Int.reduceBNe, Int.reduceBEq, tyR, hc1, l2, hc2, hb19, hb18]; with_reducible rfl) ?_)
  simp only [rulesK, Nat.reduceEqDiff]
  refine D.ret ?_
  simp only [rulesK, Nat.reduceEqDiff]
  refine ⟨_, by simp only [resOf, aresult, rulesA, rulesB, numbered, ayield, mapO, constAV, scAV, optval, abin, aint, acmp, aconv, aun, aeq, aminmax, afieldAddr, abuild, anew, fieldPlaces, afill, setSeg, kn_P, Nat.reduceAdd, Nat.reduceMul, Nat.reducePow, Nat.reduceSub, Nat.reduceEqDiff, Nat.reduceLT, Nat.reduceLeDiff, Int.reduceEq, Int.reduceNe, Int.reduceLT, Int.reduceLE, Int.reduceAdd, Int.reduceSub, Int.reduceToNat, Int.reduceBNe, Int.reduceBEq, tyR]; with_reducible rfl, ?_⟩
  exact q
end Go.Proofs.Ytecfofmndpgnjaa.sy

/- slots.New (own work). -/
namespace Go.Proofs.Ytecfofmndpgnjaa.sy
open Go.AM Go.AM.Hp
set_option linter.unusedSimpArgs false
set_option linter.unusedVariables false
variable {G : List Nat → Option (List AV)} {base : Nat} {w0 : World}
set_option maxRecDepth 100000
variable {H : AHeap} {s : Nat} {o : Tb} {k : Nat} {ids : List Int} {us : List Bool} {l : List (Int × Int × Nat)} {clk : Nat} {a : List Int}
theorem reps1 (n : Nat) (v : AV) : reps n [v] = List.replicate n v := by
  induction n with
  | zero => rfl
  | succ n ih => simp only [reps, ih, List.singleton_append, List.replicate_succ]
theorem mk26 {n : Nat} (hn : n ≤ 4096) (H : AHeap) : amakeSlice (kn G base w0).c H 28 (.int .i64 n) (.int .i64 n) = some (.slice (.own H.length) 1 0 n, hnew H (.row 3 1 (ints (List.replicate n 0)))) := by
  rw [amake_eq]
  simp only [amakeSlice2, kn_P, Try.underlying28, Option.bind_some, in3, zc3]
  rw [if_pos ⟨by omega, by omega, by simp; omega, by omega, by simp, by simp, by simp [AV.one]⟩]
  simp [fresh, reps1]
theorem mk27 {n : Nat} (hn : n ≤ 4096) (H : AHeap) : amakeSlice (kn G base w0).c H 40 (.int .i64 n) (.int .i64 n) = some (.slice (.own H.length) 1 0 n, hnew H (.row 4 1 ((List.replicate n false).map AV.bool))) := by
  rw [amake_eq]
  simp only [amakeSlice2, kn_P, Try.underlying40, Option.bind_some, in4, zc4]
  rw [if_pos ⟨by omega, by omega, by simp; omega, by omega, by simp, by simp, by simp [AV.one]⟩]
  simp [fresh, reps1]
theorem bs46 (H : AHeap) : abuildSlice (kn G base w0).c H 77 0 [] = some (.slice (.own H.length) 1 0 0, hnew H (.row 3 1 [])) := by
  simp only [abuildSlice, kn_P, Try.underlying77, Option.bind_some, sz3, zc3]
  rw [if_neg (by simp), if_pos (by simp)]
  rfl
theorem mm1 (k : Int) : (if k < 0 then 0 else k) = max k 0 := by omega
theorem mm2 (k : Int) : (if 4096 < k then 4096 else k) = min k 4096 := by omega
def newObs (q n : Nat) : List AObj := [.row 3 1 (ints (List.replicate n 0)), .row 4 1 ((List.replicate n false).map AV.bool), .map [] 0, .row 3 1 [], .row 77 1 [.slice (.own (q + 3)) 1 0 0], .row 79 4 [.slice (.own q) 1 0 n, .slice (.own (q + 1)) 1 0 n, .map (.own (q + 2)), .ptr (.own (q + 4)) 0]]
theorem hat_more {L : List AObj} {i : Nat} {ob : AObj} (h : L[i]? = some ob) : hat (H ++ L.map some) (H.length + i) = some ob := by
  unfold hat
  rw [List.getElem?_append_right (by omega)]
  simp [h]
def NewS (x : Int) (H : AHeap) : AV → AHeap → Prop := fun r H' => ∃ (n s : Nat) (o : Tb) (a : List Int), (n : Int) = min (max x 0) 4096 ∧ r = .ptr (.own s) 0 ∧ Sts H' s o n (List.replicate n 0) (List.replicate n false) [] 0 a ∧ Inv n (List.replicate n 0) (List.replicate n false) [] a ∧ Keep H H' (fun _ => False) ∧ H.length ≤ s ∧ H.length ≤ o.bi ∧ H.length ≤ o.bu ∧ H.length ≤ o.m ∧ H.length ≤ o.pf ∧ H.length ≤ o.bf
theorem new_ok (x : Int) : ∃ r H', Pt (kn G base w0) 28 [.int .i64 x] H r H' ∧ NewS x H r H' := by
  obtain ⟨n, hn⟩ : ∃ n : Nat, (n : Int) = min (max x 0) 4096 := ⟨(min (max x 0) 4096).toNat, by omega⟩
  have hn4 : n ≤ 4096 := by omega
  refine Pt.fn (n := 31) (rs := [.tmp 2]) Try.func28 (b := _) rfl rfl rfl (by decide) ?_
  refine D.sq (D.region (T := none_) (by simp only [rulesA, rulesB, numbered, ayield, mapO, constAV, scAV, optval, abin, aint, acmp, aconv, aun, aeq, aminmax, afieldAddr, abuild, anew, fieldPlaces, afill, setSeg, kn_P, Nat.reduceAdd, Nat.reduceMul, Nat.reducePow, Nat.reduceSub, Nat.reduceEqDiff, Nat.reduceLT, Nat.reduceLeDiff, Int.reduceEq, Int.reduceNe, Int.reduceLT, Int.reduceLE, Int.reduceAdd, Int.reduceSub, Int.reduceToNat, Int.reduceBNe, Int.reduceBEq, tyR]; with_reducible rfl) ?_)
  simp only [rulesK, Nat.reduceEqDiff]
  refine D.sq (D.region (T := none_) (by simp only [rulesA, rulesB, numbered, ayield, mapO, constAV, scAV, optval, abin, aint, acmp, aconv, aun, aeq, aminmax, afieldAddr, abuild, anew, fieldPlaces, afill, setSeg, kn_P, Nat.reduceAdd, Nat.reduceMul, Nat.reducePow, Nat.reduceSub, Nat.reduceEqDiff, Nat.reduceLT, Nat.reduceLeDiff, Int.reduceEq, Int.reduceNe, Int.reduceLT, Int.reduceLE, Int.reduceAdd, Int.reduceSub, Int.reduceToNat, Int.reduceBNe, Int.reduceBEq, tyR, List.foldlM_cons, List.foldlM_nil, mm1, mm2, ← hn, Option.pure_def, bind]; with_reducible rfl) ?_)
  simp only [rulesK, Nat.reduceEqDiff]
  refine D.sq (D.plain (T := none_) (by kernel_rfl) (by simp only [rulesA, rulesB, numbered, ayield, mapO, constAV, scAV, optval, abin, aint, acmp, aconv, aun, aeq, aminmax, afieldAddr, abuild, anew, fieldPlaces, afill, setSeg, kn_P, Nat.reduceAdd, Nat.reduceMul, Nat.reducePow, Nat.reduceSub, Nat.reduceEqDiff, Nat.reduceLT, Nat.reduceLeDiff, Int.reduceEq, Int.reduceNe, Int.reduceLT, Int.reduceLE, Int.reduceAdd, Int.reduceSub, Int.reduceToNat, Int.reduceBNe, Int.reduceBEq, tyR, mk26 hn4, mk27 hn4, bs46, fresh, len_new]; with_reducible rfl) ?_)
  simp only [rulesK, Nat.reduceEqDiff]
  have e6 : hnew (hnew (hnew (hnew (hnew (hnew H (.row 3 1 (ints (List.replicate n 0)))) (.row 4 1 ((List.replicate n false).map AV.bool))) (.map [] 0)) (.row 3 1 [])) (.row 77 1 [.slice (.own (H.length + 1 + 1 + 1)) 1 0 0])) (.row 79 4 [.slice (.own H.length) 1 0 n, .slice (.own (H.length + 1)) 1 0 n, .map (.own (H.length + 1 + 1)), .ptr (.own (H.length + 1 + 1 + 1 + 1)) 0]) = H ++ (newObs H.length n).map some := by simp [hnew, newObs]
  rw [e6]
  clear e6
  generalize hH6 : H ++ (newObs H.length n).map some = H6
  have at6 : ∀ (i : Nat) (ob : AObj), (newObs H.length n)[i]? = some ob → hat H6 (H.length + i) = some ob := fun i ob h => by rw [← hH6]; exact hat_more h
  have len6 : H6.length = H.length + 6 := by rw [← hH6]; simp [newObs]
  have k6 : Keep H H6 (fun _ => False) := ⟨by omega, fun j hj _ => by rw [← hH6]; unfold hat; rw [List.getElem?_append_left hj]⟩
  have F6 : Fr H6 (H.length + 4) (H.length + 3) [] := ⟨at6 4 _ rfl, ⟨[], at6 3 _ rfl, by simp, rfl⟩, by omega⟩
  refine D.sq (D.sq (D.region (T := none_) (by simp only [rulesA, rulesB, numbered, ayield, mapO, constAV, scAV, optval, abin, aint, acmp, aconv, aun, aeq, aminmax, afieldAddr, abuild, anew, fieldPlaces, afill, setSeg, kn_P, Nat.reduceAdd, Nat.reduceMul, Nat.reducePow, Nat.reduceSub, Nat.reduceEqDiff, Nat.reduceLT, Nat.reduceLeDiff, Int.reduceEq, Int.reduceNe, Int.reduceLT, Int.reduceLE, Int.reduceAdd, Int.reduceSub, Int.reduceToNat, Int.reduceBNe, Int.reduceBEq, tyR]; with_reducible rfl) ?_))
  simp only [rulesK, Nat.reduceEqDiff]
  refine D.bl ?_
  refine D.lp (fun m env H' => ∃ (i : Nat) (b : Nat) (a : List Int), m = n - i ∧ i ≤ n ∧ Keep H6 H' (fun j => j = H.length + 4 ∨ j = H.length + 3) ∧ Fr H' (H.length + 4) b a ∧ (b = H.length + 3 ∨ H6.length ≤ b) ∧ a.Perm ((List.range i).map fun q : Nat => (q : Int)) ∧ Heap a a.length ∧ ELe (E 31 [(18, .int .i64 i), (17, .int .i64 n), (3, .ptr (.own (H.length + 5)) 0)]) env) n ⟨0, _, _, by omega, by omega, Keep.refl _, F6, .inl rfl, .refl _, fun i h0 hi => by simp at hi, by exact E_le (by decide) (E_size _ _) (by simp only [List.forall_mem_cons, List.not_mem_nil, false_implies, implies_true, and_true, E_get, Nat.reduceEqDiff, Nat.reduceLT, Nat.reduceLeDiff, if_true, if_false, and_self, true_and] <;> first | rfl | exact ⟨rfl, rfl⟩)⟩ ?_
  rintro m env H' ⟨i, b, a, rfl, hi, hk, hF, hb, hp, hh, he⟩
  refine D.forget he ?_
  clear he
  have hal : a.length = i := by rw [hp.length_eq]; simp
  have row' : hat H' (H.length + 5) = _ := (hk.2 (H.length + 5) (by omega) (by omega)).trans (at6 5 _ rfl)
  have l3 := own_ld (G := G) (base := base) (w0 := w0) (i := 3) row' rfl ag76
  refine D.sq (D.region (T := none_) (by simp only [rulesA, rulesB, numbered, ayield, mapO, constAV, scAV, optval, abin, aint, acmp, aconv, aun, aeq, aminmax, afieldAddr, abuild, anew, fieldPlaces, afill, setSeg, kn_P, Nat.reduceAdd, Nat.reduceMul, Nat.reducePow, Nat.reduceSub, Nat.reduceEqDiff, Nat.reduceLT, Nat.reduceLeDiff, Int.reduceEq, Int.reduceNe, Int.reduceLT, Int.reduceLE, Int.reduceAdd, Int.reduceSub, Int.reduceToNat, Int.reduceBNe, Int.reduceBEq, tyR]; with_reducible rfl) ?_)
  simp only [rulesK, Nat.reduceEqDiff]
  refine D.sq (D.cond (by simp only [rulesA, rulesB, numbered, ayield, mapO, constAV, scAV, optval, abin, aint, acmp, aconv, aun, aeq, aminmax, afieldAddr, abuild, anew, fieldPlaces, afill, setSeg, kn_P, Nat.reduceAdd, Nat.reduceMul, Nat.reducePow, Nat.reduceSub, Nat.reduceEqDiff, Nat.reduceLT, Nat.reduceLeDiff, Int.reduceEq, Int.reduceNe, Int.reduceLT, Int.reduceLE, Int.reduceAdd, Int.reduceSub, Int.reduceToNat, Int.reduceBNe, Int.reduceBEq, tyR]; with_reducible rfl) (fun h => ?_) (fun h => ?_))
  · simp only [decide_eq_true_eq, Int.ofNat_lt] at h
    refine D.skip ?_
    simp only [rulesK, Nat.reduceEqDiff]
    refine D.sq (D.bl (D.sq (D.region (T := none_) (by simp only [rulesA, rulesB, numbered, ayield, mapO, constAV, scAV, optval, abin, aint, acmp, aconv, aun, aeq, aminmax, afieldAddr, abuild, anew, fieldPlaces, afill, setSeg, kn_P, Nat.reduceAdd, Nat.reduceMul, Nat.reducePow, Nat.reduceSub, Nat.reduceEqDiff, Nat.reduceLT, Nat.reduceLeDiff, Int.reduceEq, Int.reduceNe, Int.reduceLT, Int.reduceLE, Int.reduceAdd, Int.reduceSub, Int.reduceToNat, Int.reduceBNe, Int.reduceBEq, tyR]; with_reducible rfl) ?_)))
    simp only [rulesK, Nat.reduceEqDiff]
    obtain ⟨r1, H1, hc1, b1, a1, hF1, hp1, hh1, hk1, hb1⟩ := call_only (κ := kn G base w0) (f := 36) (args := [.iface 76 (.ptr (.own (H.length + 4)) 0), .iface 3 (.int .i64 (i : Int))]) (H := H') (fun _ H0 r H' => PushS (H.length + 4) b a (i : Int) H0 r H') (hpush_ok hF i (by omega) hh)
    refine D.regC hc1 (by simp only [rulesA, rulesB, numbered, ayield, mapO, constAV, scAV, optval, abin, aint, acmp, aconv, aun, aeq, aminmax, afieldAddr, abuild, anew, fieldPlaces, afill, setSeg, kn_P, Nat.reduceAdd, Nat.reduceMul, Nat.reducePow, Nat.reduceSub, Nat.reduceEqDiff, Nat.reduceLT, Nat.reduceLeDiff, Int.reduceEq, Int.reduceNe, Int.reduceLT, Int.reduceLE, Int.reduceAdd, Int.reduceSub, Int.reduceToNat, Int.reduceBNe, Int.reduceBEq, tyR, hc1, l3, hb15]; with_reducible rfl) ?_
    simp only [rulesK, Nat.reduceEqDiff]
    have hw : IntKind.i64.wrap ((i : Int) + 1) = ((i + 1 : Nat) : Int) := wrapN _ (by omega) (by omega)
    refine D.region (T := none_) (by simp only [rulesA, rulesB, numbered, ayield, mapO, constAV, scAV, optval, abin, aint, acmp, aconv, aun, aeq, aminmax, afieldAddr, abuild, anew, fieldPlaces, afill, setSeg, kn_P, Nat.reduceAdd, Nat.reduceMul, Nat.reducePow, Nat.reduceSub, Nat.reduceEqDiff, Nat.reduceLT, Nat.reduceLeDiff, Int.reduceEq, Int.reduceNe, Int.reduceLT, Int.reduceLE, Int.reduceAdd, Int.reduceSub, Int.reduceToNat, Int.reduceBNe, Int.reduceBEq, tyR, hw]; with_reducible rfl) ?_
    simp only [rulesK, Nat.reduceEqDiff]
    refine ⟨n - (i + 1), by omega, i + 1, b1, a1, rfl, by omega, hk.trans' hk1 (fun j hj e => ?_), hF1, ?_, ?_, hh1, by exact E_le (by decide) (E_size _ _) (by simp only [List.forall_mem_cons, List.not_mem_nil, false_implies, implies_true, and_true, E_get, Nat.reduceEqDiff, Nat.reduceLT, Nat.reduceLeDiff, if_true, if_false, and_self, true_and] <;> first | rfl | exact ⟨rfl, rfl⟩)⟩
    · rcases hb with rfl | hb
      · exact e
      · rcases e with e | e
        · exact .inl e
        · omega
    · rcases hb1 with rfl | hb1
      · exact hb
      · exact .inr (by have := hk.1; omega)
    · rw [List.range_succ, List.map_append]
      exact hp1.trans (hp.append_right _)
  · simp only [decide_eq_false_iff_not, Int.ofNat_lt] at h
    obtain rfl : i = n := by omega
    refine D.exit ?_
    simp only [rulesK, Nat.reduceEqDiff]
    refine D.sq (D.region (T := none_) (by simp only [rulesA, rulesB, numbered, ayield, mapO, constAV, scAV, optval, abin, aint, acmp, aconv, aun, aeq, aminmax, afieldAddr, abuild, anew, fieldPlaces, afill, setSeg, kn_P, Nat.reduceAdd, Nat.reduceMul, Nat.reducePow, Nat.reduceSub, Nat.reduceEqDiff, Nat.reduceLT, Nat.reduceLeDiff, Int.reduceEq, Int.reduceNe, Int.reduceLT, Int.reduceLE, Int.reduceAdd, Int.reduceSub, Int.reduceToNat, Int.reduceBNe, Int.reduceBEq, tyR]; with_reducible rfl) ?_)
    simp only [rulesK, Nat.reduceEqDiff]
    refine D.ret ?_
    simp only [rulesK, Nat.reduceEqDiff]
    refine ⟨_, by simp only [resOf, aresult, rulesA, rulesB, numbered, ayield, mapO, constAV, scAV, optval, abin, aint, acmp, aconv, aun, aeq, aminmax, afieldAddr, abuild, anew, fieldPlaces, afill, setSeg, kn_P, Nat.reduceAdd, Nat.reduceMul, Nat.reducePow, Nat.reduceSub, Nat.reduceEqDiff, Nat.reduceLT, Nat.reduceLeDiff, Int.reduceEq, Int.reduceNe, Int.reduceLT, Int.reduceLE, Int.reduceAdd, Int.reduceSub, Int.reduceToNat, Int.reduceBNe, Int.reduceBEq, tyR]; with_reducible rfl, ?_⟩
    have hmem : ∀ x, x ∈ a ↔ ∃ q : Nat, x = q ∧ q < i := by
      intro x
      rw [hp.mem_iff, List.mem_map]
      constructor
      · rintro ⟨q, hq, rfl⟩; exact ⟨q, rfl, by simpa using hq⟩
      · rintro ⟨q, rfl, hq⟩; exact ⟨q, by simpa using hq, rfl⟩
    have hrep : ∀ q : Nat, (List.replicate i false).getD q false = false := by
      intro q; simp only [List.getD_eq_getElem?_getD, List.getElem?_replicate]; split <;> rfl
    refine ⟨i, H.length + 5, ⟨H.length, H.length + 1, H.length + 2, H.length + 4, b⟩, a, hn, rfl, ⟨row', by simp, by simp, ?_, ?_, ⟨?_, by simp, by simp, by simp⟩, hF, ?_⟩, ⟨hn4, by simp, ?_, ?_, ?_, hh, by simp; omega, by simp⟩, ?_, by omega, Nat.le_refl _, Nat.le_add_right _ _, Nat.le_add_right _ _, Nat.le_add_right _ _, by show H.length ≤ b; omega⟩
    · exact (hk.2 H.length (by omega) (by omega)).trans (at6 0 _ rfl)
    · exact (hk.2 (H.length + 1) (by omega) (by omega)).trans (at6 1 _ rfl)
    · exact (hk.2 (H.length + 2) (by omega) (by omega)).trans (at6 2 _ rfl)
    · simp only []; omega
    · intro q hq hu; rw [hrep q] at hu; cases hu
    · intro x
      rw [hmem]
      constructor
      · rintro ⟨q, h1, h2⟩; exact ⟨q, h1, h2, hrep q⟩
      · rintro ⟨q, h1, h2, _⟩; exact ⟨q, h1, h2⟩
    · exact (hp.nodup_iff).2 (List.Pairwise.map _ (fun a b h e => h (by omega)) List.nodup_range)
    · exact k6.trans' hk (fun j hj e => by omega)
end Go.Proofs.Ytecfofmndpgnjaa.sy

/- slots.Put (own work). -/
namespace Go.Proofs.Ytecfofmndpgnjaa.sy
open Go.AM Go.AM.Hp
set_option linter.unusedSimpArgs false
set_option linter.unusedVariables false
variable {G : List Nat → Option (List AV)} {base : Nat} {w0 : World}
set_option maxRecDepth 100000
variable {H : AHeap} {s : Nat} {o : Tb} {k : Nat} {ids : List Int} {us : List Bool} {l : List (Int × Int × Nat)} {clk : Nat} {a : List Int}
def Own (o : Tb) (j : Nat) : Prop := j = o.bi ∨ j = o.bu ∨ j = o.m ∨ j = o.pf ∨ j = o.bf
theorem Sts.apart (h : Sts H s o k ids us l clk a) : s ≠ o.bi ∧ s ≠ o.bu ∧ s ≠ o.m ∧ s ≠ o.pf ∧ s ≠ o.bf ∧ o.bi ≠ o.bu ∧ o.bi ≠ o.m ∧ o.bi ≠ o.pf ∧ o.bu ≠ o.m ∧ o.bu ≠ o.pf ∧ o.bu ≠ o.bf ∧ o.m ≠ o.pf ∧ o.m ≠ o.bf := by
  obtain ⟨cells, c1, _⟩ := h.fr.row
  have r := h.row; have r1 := h.hi; have r2 := h.hu; have r3 := h.ml.at_; have r4 := h.fr.var
  refine ⟨?_, ?_, ?_, ?_, ?_, ?_, ?_, ?_, ?_, ?_, ?_, ?_, ?_⟩ <;> intro e
  · rw [e, r1] at r; cases r
  · rw [e, r2] at r; cases r
  · rw [e, r3] at r; cases r
  · rw [e, r4] at r; cases r
  · rw [e, c1] at r; cases r
  · rw [e, r2] at r1; cases r1
  · rw [e, r3] at r1; cases r1
  · rw [e, r4] at r1; cases r1
  · rw [e, r3] at r2; cases r2
  · rw [e, r4] at r2; cases r2
  · rw [e, c1] at r2; cases r2
  · rw [e, r4] at r3; cases r3
  · rw [e, c1] at r3; cases r3
theorem getD_set {α : Type} (l : List α) (n j : Nat) (v d : α) : (l.set n v).getD j d = if n = j ∧ n < l.length then v else l.getD j d := by
  simp only [List.getD_eq_getElem?_getD, List.getElem?_set]
  by_cases h : n = j
  · subst h
    by_cases h2 : n < l.length
    · simp [h2]
    · simp [h2]
  · simp [h]
/-- one is put in -/
theorem Inv.put (hI : Inv k ids us l a) (hil : ids.length = k) (hul : us.length = k) {id : Int} (hid : -9223372036854775808 ≤ id ∧ id ≤ 9223372036854775807) (hno : mget l id = none) {n : Nat} {a' : List Int} (hp : ((n : Int) :: a').Perm a) (hh : Heap a' a'.length) (c : Nat) :
    n < k ∧ Inv k (ids.set n id) (us.set n true) (l ++ [(id, (n : Int), c)]) a' := by
  obtain ⟨n', e1, hn, hu⟩ := (hI.free n).1 (hp.mem_iff.1 (by simp))
  obtain rfl : n = n' := by omega
  have hnd := (hp.nodup_iff).2 hI.nd
  obtain ⟨nd1, nd2⟩ := List.nodup_cons.1 hnd
  have hnk : ∀ e ∈ l, e.1 ≠ id := by
    intro e he heq
    have := List.find?_eq_none.1 (Option.map_eq_none_iff.1 hno) e he
    simp [heq] at this
  refine ⟨hn, hI.k4, ?_, ?_, ?_, nd2, hh, ?_, ?_⟩
  · intro e he
    rcases List.mem_append.1 he with he | he
    · obtain ⟨j, h1, h2, h3, h4⟩ := hI.fwd e he
      have hjn : n ≠ j := by intro e'; subst e'; rw [hu] at h4; cases h4
      exact ⟨j, h1, h2, by rw [getD_set, if_neg (by omega)]; exact h3, by rw [getD_set, if_neg (by omega)]; exact h4⟩
    · simp at he; subst he
      exact ⟨n, rfl, hn, by rw [getD_set, if_pos ⟨rfl, by omega⟩], by rw [getD_set, if_pos ⟨rfl, by omega⟩]⟩
  · intro j hj hju
    by_cases hjn : n = j
    · subst hjn
      exact ⟨c, by rw [getD_set, if_pos ⟨rfl, by omega⟩]; simp⟩
    · rw [getD_set, if_neg (by omega)] at hju ⊢
      obtain ⟨b, hb⟩ := hI.bwd j hj hju
      exact ⟨b, List.mem_append_left _ hb⟩
  · intro x
    have hx : x ∈ a ↔ x = n ∨ x ∈ a' := by rw [← hp.mem_iff]; simp
    constructor
    · intro hxa
      obtain ⟨j, h1, h2, h3⟩ := (hI.free x).1 (hx.2 (.inr hxa))
      have hjn : n ≠ j := by rintro rfl; subst h1; exact nd1 hxa
      exact ⟨j, h1, h2, by rw [getD_set, if_neg (by omega)]; exact h3⟩
    · rintro ⟨j, h1, h2, h3⟩
      by_cases hjn : n = j
      · subst hjn; rw [getD_set, if_pos ⟨rfl, by omega⟩] at h3; cases h3
      · rw [getD_set, if_neg (by omega)] at h3
        rcases hx.1 ((hI.free x).2 ⟨j, h1, h2, h3⟩) with h | h
        · omega
        · exact h
  · have := hp.length_eq; have := hI.cnt; simp at *; omega
  · intro e he
    rcases List.mem_append.1 he with he | he
    · exact hI.rng e he
    · simp at he; subst he; exact hid
def PutS (id : Int) (H : AHeap) (s : Nat) (o : Tb) (k : Nat) (ids : List Int) (us : List Bool) (l : List (Int × Int × Nat)) (clk : Nat) (a : List Int) : AV → AHeap → Prop := fun r H' =>
  (∃ x, mget l id = some x ∧ r = .tuple [.int .i64 0, .int .i64 4] ∧ H' = H) ∨ (mget l id = none ∧ a = [] ∧ r = .tuple [.int .i64 0, .int .i64 6] ∧ H' = H) ∨
  (mget l id = none ∧ ∃ (n : Nat) (a' : List Int), n < k ∧ ((n : Int) :: a').Perm a ∧ (∀ y ∈ a, (n : Int) ≤ y) ∧ r = .tuple [.int .i64 n, .int .i64 0] ∧ Sts H' s o k (ids.set n id) (us.set n true) (l ++ [(id, (n : Int), clk)]) (clk + 1) a' ∧ Inv k (ids.set n id) (us.set n true) (l ++ [(id, (n : Int), clk)]) a' ∧ Keep H H' (Own o))
theorem put_ok (hT : Sts H s o k ids us l clk a) (hI : Inv k ids us l a) {id : Int} (hid : -9223372036854775808 ≤ id ∧ id ≤ 9223372036854775807) : ∃ r H', Pt (kn G base w0) 29 [.ptr (.own s) 0, .int .i64 id] H r H' ∧ PutS id H s o k ids us l clk a r H' := by
  have l2 := own_ld (G := G) (base := base) (w0 := w0) (i := 2) hT.row rfl ag75
  have l3 := own_ld (G := G) (base := base) (w0 := w0) (i := 3) hT.row rfl ag76
  have lk := hT.ml.im.look (c := (kn G base w0).c) Try.underlying75 Try.underlying3 za3 id true
  refine Pt.fn (n := 62) (rs := [.tmp 4, .tmp 5]) Try.func29 (b := _) rfl rfl rfl (by decide) ?_
  refine D.sq (D.region (T := none_) (by simp only [rulesA, rulesB, numbered, ayield, mapO, constAV, scAV, optval, abin, aint, acmp, aconv, aun, aeq, aminmax, afieldAddr, abuild, anew, fieldPlaces, afill, setSeg, kn_P, Nat.reduceAdd, Nat.reduceMul, Nat.reducePow, Nat.reduceSub, Nat.reduceEqDiff, Nat.reduceLT, Nat.reduceLeDiff, Int.reduceEq, Int.reduceNe, Int.reduceLT, Int.reduceLE, Int.reduceAdd, Int.reduceSub, Int.reduceToNat, Int.reduceBNe, Int.reduceBEq, tyR]; with_reducible rfl) ?_)
  simp only [rulesK, Nat.reduceEqDiff]
  refine D.sq (D.sq (D.region (T := none_) (by simp only [rulesA, rulesB, numbered, ayield, mapO, constAV, scAV, optval, abin, aint, acmp, aconv, aun, aeq, aminmax, afieldAddr, abuild, anew, fieldPlaces, afill, setSeg, kn_P, Nat.reduceAdd, Nat.reduceMul, Nat.reducePow, Nat.reduceSub, Nat.reduceEqDiff, Nat.reduceLT, Nat.reduceLeDiff, Int.reduceEq, Int.reduceNe, Int.reduceLT, Int.reduceLE, Int.reduceAdd, Int.reduceSub, Int.reduceToNat, Int.reduceBNe, Int.reduceBEq, tyR]; with_reducible rfl) ?_))
  simp only [rulesK, Nat.reduceEqDiff]
  refine D.cond (by simp only [rulesA, rulesB, numbered, ayield, mapO, constAV, scAV, optval, abin, aint, acmp, aconv, aun, aeq, aminmax, afieldAddr, abuild, anew, fieldPlaces, afill, setSeg, kn_P, Nat.reduceAdd, Nat.reduceMul, Nat.reducePow, Nat.reduceSub, Nat.reduceEqDiff, Nat.reduceLT, Nat.reduceLeDiff, Int.reduceEq, Int.reduceNe, Int.reduceLT, Int.reduceLE, Int.reduceAdd, Int.reduceSub, Int.reduceToNat, Int.reduceBNe, Int.reduceBEq, tyR]; with_reducible rfl) (fun h => ?_) (fun h => ?_)
  · cases h
  refine D.skip ?_
  simp only [rulesK, Nat.reduceEqDiff]
  refine D.sq (D.sq (D.region (T := none_) (by simp only [rulesA, rulesB, numbered, ayield, mapO, constAV, scAV, optval, abin, aint, acmp, aconv, aun, aeq, aminmax, afieldAddr, abuild, anew, fieldPlaces, afill, setSeg, kn_P, Nat.reduceAdd, Nat.reduceMul, Nat.reducePow, Nat.reduceSub, Nat.reduceEqDiff, Nat.reduceLT, Nat.reduceLeDiff, Int.reduceEq, Int.reduceNe, Int.reduceLT, Int.reduceLE, Int.reduceAdd, Int.reduceSub, Int.reduceToNat, Int.reduceBNe, Int.reduceBEq, tyR, l2, lk]; with_reducible rfl) ?_))
  simp only [rulesK, Nat.reduceEqDiff]
  refine D.sq (D.region (T := none_) (by simp only [rulesA, rulesB, numbered, ayield, mapO, constAV, scAV, optval, abin, aint, acmp, aconv, aun, aeq, aminmax, afieldAddr, abuild, anew, fieldPlaces, afill, setSeg, kn_P, Nat.reduceAdd, Nat.reduceMul, Nat.reducePow, Nat.reduceSub, Nat.reduceEqDiff, Nat.reduceLT, Nat.reduceLeDiff, Int.reduceEq, Int.reduceNe, Int.reduceLT, Int.reduceLE, Int.reduceAdd, Int.reduceSub, Int.reduceToNat, Int.reduceBNe, Int.reduceBEq, tyR]; with_reducible rfl) ?_)
  simp only [rulesK, Nat.reduceEqDiff]
  cases hm : mget l id with
  | some x =>
    refine D.cond (by simp only [rulesA, rulesB, numbered, ayield, mapO, constAV, scAV, optval, abin, aint, acmp, aconv, aun, aeq, aminmax, afieldAddr, abuild, anew, fieldPlaces, afill, setSeg, kn_P, Nat.reduceAdd, Nat.reduceMul, Nat.reducePow, Nat.reduceSub, Nat.reduceEqDiff, Nat.reduceLT, Nat.reduceLeDiff, Int.reduceEq, Int.reduceNe, Int.reduceLT, Int.reduceLE, Int.reduceAdd, Int.reduceSub, Int.reduceToNat, Int.reduceBNe, Int.reduceBEq, tyR, hm, Option.isSome_some]; with_reducible rfl) (fun h => ?_) (fun h => ?_)
    rotate_left
    · cases h
    refine D.sq (D.region (T := none_) (by simp only [rulesA, rulesB, numbered, ayield, mapO, constAV, scAV, optval, abin, aint, acmp, aconv, aun, aeq, aminmax, afieldAddr, abuild, anew, fieldPlaces, afill, setSeg, kn_P, Nat.reduceAdd, Nat.reduceMul, Nat.reducePow, Nat.reduceSub, Nat.reduceEqDiff, Nat.reduceLT, Nat.reduceLeDiff, Int.reduceEq, Int.reduceNe, Int.reduceLT, Int.reduceLE, Int.reduceAdd, Int.reduceSub, Int.reduceToNat, Int.reduceBNe, Int.reduceBEq, tyR]; with_reducible rfl) ?_)
    simp only [rulesK, Nat.reduceEqDiff]
    refine D.ret ?_
    simp only [rulesK, Nat.reduceEqDiff]
    refine ⟨_, by simp only [resOf, aresult, rulesA, rulesB, numbered, ayield, mapO, constAV, scAV, optval, abin, aint, acmp, aconv, aun, aeq, aminmax, afieldAddr, abuild, anew, fieldPlaces, afill, setSeg, kn_P, Nat.reduceAdd, Nat.reduceMul, Nat.reducePow, Nat.reduceSub, Nat.reduceEqDiff, Nat.reduceLT, Nat.reduceLeDiff, Int.reduceEq, Int.reduceNe, Int.reduceLT, Int.reduceLE, Int.reduceAdd, Int.reduceSub, Int.reduceToNat, Int.reduceBNe, Int.reduceBEq, tyR]; with_reducible rfl, ?_⟩
    exact .inl ⟨x, hm, rfl, (by first | exact rfl | exact True.intro)⟩
  | none =>
  refine D.cond (by simp only [rulesA, rulesB, numbered, ayield, mapO, constAV, scAV, optval, abin, aint, acmp, aconv, aun, aeq, aminmax, afieldAddr, abuild, anew, fieldPlaces, afill, setSeg, kn_P, Nat.reduceAdd, Nat.reduceMul, Nat.reducePow, Nat.reduceSub, Nat.reduceEqDiff, Nat.reduceLT, Nat.reduceLeDiff, Int.reduceEq, Int.reduceNe, Int.reduceLT, Int.reduceLE, Int.reduceAdd, Int.reduceSub, Int.reduceToNat, Int.reduceBNe, Int.reduceBEq, tyR, hm, Option.isSome_none]; with_reducible rfl) (fun h => ?_) (fun h => ?_)
  · cases h
  refine D.skip ?_
  simp only [rulesK, Nat.reduceEqDiff]
  have hlv := hT.fr.ldv (G := G) (base := base) (w0 := w0)
  obtain ⟨r1, H1, hc1, rfl, rfl⟩ := call_only (κ := kn G base w0) (f := 37) (args := [.slice (.own o.bf) 1 0 a.length]) (H := H) (fun _ H r H' => r = .int .i64 a.length ∧ H' = H) (flen_ok hT.fr.sl)
  refine D.sq (D.sq (D.regC hc1 (by simp only [rulesA, rulesB, numbered, ayield, mapO, constAV, scAV, optval, abin, aint, acmp, aconv, aun, aeq, aminmax, afieldAddr, abuild, anew, fieldPlaces, afill, setSeg, kn_P, Nat.reduceAdd, Nat.reduceMul, Nat.reducePow, Nat.reduceSub, Nat.reduceEqDiff, Nat.reduceLT, Nat.reduceLeDiff, Int.reduceEq, Int.reduceNe, Int.reduceLT, Int.reduceLE, Int.reduceAdd, Int.reduceSub, Int.reduceToNat, Int.reduceBNe, Int.reduceBEq, tyR, hc1, l3, hlv, hb16]; with_reducible rfl) ?_))
  simp only [rulesK, Nat.reduceEqDiff]
  rcases Nat.eq_zero_or_pos a.length with h0 | h0
  · refine D.cond (by simp only [rulesA, rulesB, numbered, ayield, mapO, constAV, scAV, optval, abin, aint, acmp, aconv, aun, aeq, aminmax, afieldAddr, abuild, anew, fieldPlaces, afill, setSeg, kn_P, Nat.reduceAdd, Nat.reduceMul, Nat.reducePow, Nat.reduceSub, Nat.reduceEqDiff, Nat.reduceLT, Nat.reduceLeDiff, Int.reduceEq, Int.reduceNe, Int.reduceLT, Int.reduceLE, Int.reduceAdd, Int.reduceSub, Int.reduceToNat, Int.reduceBNe, Int.reduceBEq, tyR, h0]; with_reducible rfl) (fun h => ?_) (fun h => ?_)
    rotate_left
    · cases h
    refine D.sq (D.region (T := none_) (by simp only [rulesA, rulesB, numbered, ayield, mapO, constAV, scAV, optval, abin, aint, acmp, aconv, aun, aeq, aminmax, afieldAddr, abuild, anew, fieldPlaces, afill, setSeg, kn_P, Nat.reduceAdd, Nat.reduceMul, Nat.reducePow, Nat.reduceSub, Nat.reduceEqDiff, Nat.reduceLT, Nat.reduceLeDiff, Int.reduceEq, Int.reduceNe, Int.reduceLT, Int.reduceLE, Int.reduceAdd, Int.reduceSub, Int.reduceToNat, Int.reduceBNe, Int.reduceBEq, tyR]; with_reducible rfl) ?_)
    simp only [rulesK, Nat.reduceEqDiff]
    refine D.ret ?_
    simp only [rulesK, Nat.reduceEqDiff]
    refine ⟨_, by simp only [resOf, aresult, rulesA, rulesB, numbered, ayield, mapO, constAV, scAV, optval, abin, aint, acmp, aconv, aun, aeq, aminmax, afieldAddr, abuild, anew, fieldPlaces, afill, setSeg, kn_P, Nat.reduceAdd, Nat.reduceMul, Nat.reducePow, Nat.reduceSub, Nat.reduceEqDiff, Nat.reduceLT, Nat.reduceLeDiff, Int.reduceEq, Int.reduceNe, Int.reduceLT, Int.reduceLE, Int.reduceAdd, Int.reduceSub, Int.reduceToNat, Int.reduceBNe, Int.reduceBEq, tyR]; with_reducible rfl, ?_⟩
    exact .inr (.inl ⟨hm, List.length_eq_zero_iff.1 h0, rfl, (by first | exact rfl | exact True.intro)⟩)
  refine D.cond (by simp only [rulesA, rulesB, numbered, ayield, mapO, constAV, scAV, optval, abin, aint, acmp, aconv, aun, aeq, aminmax, afieldAddr, abuild, anew, fieldPlaces, afill, setSeg, kn_P, Nat.reduceAdd, Nat.reduceMul, Nat.reducePow, Nat.reduceSub, Nat.reduceEqDiff, Nat.reduceLT, Nat.reduceLeDiff, Int.reduceEq, Int.reduceNe, Int.reduceLT, Int.reduceLE, Int.reduceAdd, Int.reduceSub, Int.reduceToNat, Int.reduceBNe, Int.reduceBEq, tyR]; with_reducible rfl) (fun h => ?_) (fun h => ?_)
  · simp only [beq_iff_eq, decide_eq_true_eq] at h; omega
  clear h
  refine D.skip ?_
  simp only [rulesK, Nat.reduceEqDiff]
  obtain ⟨q, hq⟩ : ∃ q, a.length = q + 1 := ⟨a.length - 1, by omega⟩
  have hla : a.length ≤ 4096 := by have := hI.cnt; have := hI.k4; omega
  obtain ⟨r2, H2, hc2, x, a', rfl, hF2, hp2, hle2, hh2, hk2⟩ := call_only (κ := kn G base w0) (f := 38) (args := [.iface 76 (.ptr (.own o.pf) 0)]) (H := H1) (fun _ H0 r H' => PopS o.pf o.bf a H0 r H') (hpop_ok hT.fr hq (by omega) hI.heap)
  refine D.sq (D.regC hc2 (by simp only [rulesA, rulesB, numbered, ayield, mapO, constAV, scAV, optval, abin, aint, acmp, aconv, aun, aeq, aminmax, afieldAddr, abuild, anew, fieldPlaces, afill, setSeg, kn_P, Nat.reduceAdd, Nat.reduceMul, Nat.reducePow, Nat.reduceSub, Nat.reduceEqDiff, Nat.reduceLT, Nat.reduceLeDiff, Int.reduceEq, Int.reduceNe, Int.reduceLT, Int.reduceLE, Int.reduceAdd, Int.reduceSub, Int.reduceToNat, Int.reduceBNe, Int.reduceBEq, tyR, hc2, l3, hb17]; with_reducible rfl) ?_)
  simp only [rulesK, Nat.reduceEqDiff]
  obtain ⟨n, rfl, hnk, hun⟩ := (hI.free x).1 (hp2.mem_iff.1 (by simp))
  obtain ⟨_, hI2⟩ := hI.put hT.il hT.ul hid hm hp2 hh2 clk
  obtain ⟨b1, b2, b3, b4, b5, b6⟩ := hT.lt
  obtain ⟨d1, d2, d3, d4, d5, d6, d7, d8, d9, d10, d11, d12, d13⟩ := hT.apart
  have kp : ∀ j, j < H1.length → j ≠ o.pf → j ≠ o.bf → hat H2 j = hat H1 j := fun j hj h1 h2 => hk2.2 j hj (by rintro (h | h); exact h1 h; exact h2 h)
  have row2 := (kp s b1 d4 d5).trans hT.row
  have hi2 := (kp o.bi b2 d8 hT.ne).trans hT.hi
  have hu2 := (kp o.bu b3 d10 d11).trans hT.hu
  have m0 := own_ld (G := G) (base := base) (w0 := w0) (i := 0) row2 rfl ag28
  have m1 := own_ld (G := G) (base := base) (w0 := w0) (i := 1) row2 rfl ag40
  have m2 := own_ld (G := G) (base := base) (w0 := w0) (i := 2) row2 rfl ag75
  have x0 := own_ix (G := G) (base := base) (w0 := w0) Try.underlying28 sz3 (b := o.bi) hnk
  have x1 := own_ix (G := G) (base := base) (w0 := w0) Try.underlying40 sz4 (b := o.bu) hnk
  have w0' := wr_own hi2 (off := n) (v := .int .i64 id) (by rw [ints_len, hT.il]; exact hnk) rfl
  generalize hH3 : H2.set o.bi (some (.row 3 1 ((ints ids).set n (.int .i64 id)))) = H3 at w0'
  have hl2 : H1.length ≤ H2.length := hk2.1
  have hl3 : H3.length = H2.length := by rw [← hH3, List.length_set]
  have kp3 : ∀ j, j ≠ o.bi → hat H3 j = hat H2 j := fun j h => by rw [← hH3]; exact hat_ne _ h
  have hu3 := (kp3 o.bu (fun e => d6 e.symm)).trans hu2
  have w1' := wr_own hu3 (off := n) (v := .bool true) (by rw [List.length_map, hT.ul]; exact hnk) rfl
  generalize hH4 : H3.set o.bu (some (.row 4 1 ((us.map AV.bool).set n (.bool true)))) = H4 at w1'
  have hl4 : H4.length = H3.length := by rw [← hH4, List.length_set]
  have kp4 : ∀ j, j ≠ o.bu → hat H4 j = hat H3 j := fun j h => by rw [← hH4]; exact hat_ne _ h
  have ml4 : ML H4 o.m l clk := hT.ml.keep ((kp4 o.m (fun e => d9 e.symm)).trans ((kp3 o.m (fun e => d7 e.symm)).trans (kp o.m b4 d12 d13)))
  obtain ⟨e1, e2, ml5⟩ := ml4.ent (c := (kn G base w0).c) Try.underlying75 Try.underlying3 za3 (n : Int) hm
  generalize hH5 : H4.set o.m (some (.map ((l ++ [(id, (n : Int), clk)]).map enc) (clk + 1))) = H5 at e2 ml5
  have hl5 : H5.length = H4.length := by rw [← hH5, List.length_set]
  have kp5 : ∀ j, j ≠ o.m → hat H5 j = hat H4 j := fun j h => by rw [← hH5]; exact hat_ne _ h
  refine D.sq (D.draw (T := none_) (by kernel_rfl) (by simp only [rulesA, rulesB, numbered, ayield, mapO, constAV, scAV, optval, abin, aint, acmp, aconv, aun, aeq, aminmax, afieldAddr, abuild, anew, fieldPlaces, afill, setSeg, kn_P, Nat.reduceAdd, Nat.reduceMul, Nat.reducePow, Nat.reduceSub, Nat.reduceEqDiff, Nat.reduceLT, Nat.reduceLeDiff, Int.reduceEq, Int.reduceNe, Int.reduceLT, Int.reduceLE, Int.reduceAdd, Int.reduceSub, Int.reduceToNat, Int.reduceBNe, Int.reduceBEq, tyR, m0, m1, m2, x0, x1, astore, w0', w1', e1, e2]; with_reducible rfl) ?_)
  simp only [rulesK, Nat.reduceEqDiff]
  refine D.sq (D.region (T := none_) (by simp only [rulesA, rulesB, numbered, ayield, mapO, constAV, scAV, optval, abin, aint, acmp, aconv, aun, aeq, aminmax, afieldAddr, abuild, anew, fieldPlaces, afill, setSeg, kn_P, Nat.reduceAdd, Nat.reduceMul, Nat.reducePow, Nat.reduceSub, Nat.reduceEqDiff, Nat.reduceLT, Nat.reduceLeDiff, Int.reduceEq, Int.reduceNe, Int.reduceLT, Int.reduceLE, Int.reduceAdd, Int.reduceSub, Int.reduceToNat, Int.reduceBNe, Int.reduceBEq, tyR]; with_reducible rfl) ?_)
  simp only [rulesK, Nat.reduceEqDiff]
  refine D.ret ?_
  simp only [rulesK, Nat.reduceEqDiff]
  refine ⟨_, by simp only [resOf, aresult, rulesA, rulesB, numbered, ayield, mapO, constAV, scAV, optval, abin, aint, acmp, aconv, aun, aeq, aminmax, afieldAddr, abuild, anew, fieldPlaces, afill, setSeg, kn_P, Nat.reduceAdd, Nat.reduceMul, Nat.reducePow, Nat.reduceSub, Nat.reduceEqDiff, Nat.reduceLT, Nat.reduceLeDiff, Int.reduceEq, Int.reduceNe, Int.reduceLT, Int.reduceLE, Int.reduceAdd, Int.reduceSub, Int.reduceToNat, Int.reduceBNe, Int.reduceBEq, tyR]; with_reducible rfl, ?_⟩
  refine .inr (.inr ⟨hm, n, a', hnk, hp2, hle2, rfl, ⟨?_, by rw [List.length_set]; exact hT.il, by rw [List.length_set]; exact hT.ul, ?_, ?_, ml5, ?_, hT.ne⟩, hI2, ?_⟩)
  · rw [kp5 s d3, kp4 s d2, kp3 s d1]; exact row2
  · rw [kp5 _ d7, kp4 _ d6, ← hH3, hat_eq _ (by omega), ints, ints, List.map_set]
  · rw [kp5 _ d9, ← hH4, hat_eq _ (by omega), List.map_set]
  · refine hF2.keep ?_ ?_
    · rw [kp5 _ (fun e => d12 e.symm), kp4 _ (fun e => d10 e.symm), kp3 _ (fun e => d8 e.symm)]
    · rw [kp5 _ (fun e => d13 e.symm), kp4 _ (fun e => d11 e.symm), kp3 _ (fun e => hT.ne e.symm)]
  · refine ⟨by omega, fun j hj hne => ?_⟩
    simp only [Own, not_or] at hne
    rw [kp5 j hne.2.2.1, kp4 j hne.2.1, kp3 j hne.1]
    exact kp j hj hne.2.2.2.1 hne.2.2.2.2
end Go.Proofs.Ytecfofmndpgnjaa.sy

/- slots.Drop (own work). -/
namespace Go.Proofs.Ytecfofmndpgnjaa.sy
open Go.AM Go.AM.Hp
set_option linter.unusedSimpArgs false
set_option linter.unusedVariables false
variable {G : List Nat → Option (List AV)} {base : Nat} {w0 : World}
set_option maxRecDepth 100000
variable {H : AHeap} {s : Nat} {o : Tb} {k : Nat} {ids : List Int} {us : List Bool} {l : List (Int × Int × Nat)} {clk : Nat} {a : List Int}
/-- one is taken out -/
theorem Inv.drop (hI : Inv k ids us l a) (hnod : (l.map (·.1)).Nodup) (hil : ids.length = k) (hul : us.length = k) {n : Nat} {id : Int} {b : Nat} (hin : (id, (n : Int), b) ∈ l) (hnk : n < k) (hidn : ids.getD n 0 = id) (hu : us.getD n false = true) {l' : List (Int × Int × Nat)} (hl' : ∀ e, e ∈ l' ↔ e ∈ l ∧ e.1 ≠ id) (hlen : l'.length + 1 = l.length) {a' : List Int} (hp : a'.Perm (a ++ [(n : Int)])) (hh : Heap a' a'.length) :
    Inv k (ids.set n 0) (us.set n false) l' a' := by
  have hna : (n : Int) ∉ a := by
    intro h
    obtain ⟨j, h1, h2, h3⟩ := (hI.free n).1 h
    obtain rfl : n = j := by omega
    rw [hu] at h3; cases h3
  refine ⟨hI.k4, ?_, ?_, ?_, ?_, hh, ?_, fun e he => hI.rng e ((hl' e).1 he).1⟩
  · intro e he
    obtain ⟨h1, h2⟩ := (hl' e).1 he
    obtain ⟨j, q1, q2, q3, q4⟩ := hI.fwd e h1
    have hjn : n ≠ j := by rintro rfl; exact h2 (q3.symm.trans hidn)
    exact ⟨j, q1, q2, by rw [getD_set, if_neg (by omega)]; exact q3, by rw [getD_set, if_neg (by omega)]; exact q4⟩
  · intro j hj hju
    by_cases hjn : n = j
    · subst hjn; rw [getD_set, if_pos ⟨rfl, by omega⟩] at hju; cases hju
    · rw [getD_set, if_neg (by omega)] at hju ⊢
      obtain ⟨b', hb'⟩ := hI.bwd j hj hju
      refine ⟨b', (hl' _).2 ⟨hb', fun e => hjn ?_⟩⟩
      have h1 := mget_mem hnod hb'
      have h2 := mget_mem hnod hin
      simp only [] at e h1 h2
      rw [e, h2] at h1
      simp only [Option.some.injEq] at h1
      omega
  · intro x
    rw [hp.mem_iff, List.mem_append]
    constructor
    · rintro (h | h)
      · obtain ⟨j, h1, h2, h3⟩ := (hI.free x).1 h
        have hjn : n ≠ j := by rintro rfl; rw [hu] at h3; cases h3
        exact ⟨j, h1, h2, by rw [getD_set, if_neg (by omega)]; exact h3⟩
      · simp at h; exact ⟨n, h, hnk, by rw [getD_set, if_pos ⟨rfl, by omega⟩]⟩
    · rintro ⟨j, h1, h2, h3⟩
      by_cases hjn : n = j
      · subst hjn; exact .inr (by simp [h1])
      · rw [getD_set, if_neg (by omega)] at h3
        exact .inl ((hI.free x).2 ⟨j, h1, h2, h3⟩)
  · rw [hp.nodup_iff, List.nodup_append]
    exact ⟨hI.nd, by simp, fun x hx y hy e => by simp at hy; subst hy; subst e; exact hna hx⟩
  · have := hp.length_eq; have := hI.cnt; simp at *; omega
def DropS (id : Int) (H : AHeap) (s : Nat) (o : Tb) (k : Nat) (ids : List Int) (us : List Bool) (l : List (Int × Int × Nat)) (clk : Nat) (a : List Int) : AV → AHeap → Prop := fun r H' =>
  (mget l id = none ∧ r = .bool false ∧ H' = H) ∨
  (∃ (n : Nat) (b' : Nat) (l' : List (Int × Int × Nat)) (a' : List Int), mget l id = some (n : Int) ∧ n < k ∧ r = .bool true ∧ Sts H' s ⟨o.bi, o.bu, o.m, o.pf, b'⟩ k (ids.set n 0) (us.set n false) l' clk a' ∧ Inv k (ids.set n 0) (us.set n false) l' a' ∧ (∀ e, e ∈ l' ↔ e ∈ l ∧ e.1 ≠ id) ∧ l'.length + 1 = l.length ∧ (b' = o.bf ∨ H.length ≤ b') ∧ Keep H H' (Own o))
theorem drop_ok (hT : Sts H s o k ids us l clk a) (hI : Inv k ids us l a) (id : Int) : ∃ r H', Pt (kn G base w0) 40 [.ptr (.own s) 0, .int .i64 id] H r H' ∧ DropS id H s o k ids us l clk a r H' := by
  refine Pt.fn (n := 40) (rs := [.tmp 4]) Try.func40 (b := _) rfl rfl rfl (by decide) ?_
  refine D.sq (D.region (T := none_) (by simp only [rulesA, rulesB, numbered, ayield, mapO, constAV, scAV, optval, abin, aint, acmp, aconv, aun, aeq, aminmax, afieldAddr, abuild, anew, fieldPlaces, afill, setSeg, kn_P, Nat.reduceAdd, Nat.reduceMul, Nat.reducePow, Nat.reduceSub, Nat.reduceEqDiff, Nat.reduceLT, Nat.reduceLeDiff, Int.reduceEq, Int.reduceNe, Int.reduceLT, Int.reduceLE, Int.reduceAdd, Int.reduceSub, Int.reduceToNat, Int.reduceBNe, Int.reduceBEq, tyR]; with_reducible rfl) ?_)
  simp only [rulesK, Nat.reduceEqDiff]
  obtain ⟨r1, H1, hc1, rfl, rfl⟩ := call_only (κ := kn G base w0) (f := 39) (args := [.ptr (.own s) 0, .int .i64 id]) (H := H) (fun _ H r H' => r = .tuple [.int .i64 ((mget l id).getD 0), .bool (mget l id).isSome] ∧ H' = H) (get_ok hT id)
  refine D.sq (D.regC hc1 (by simp only [rulesA, rulesB, numbered, ayield, mapO, constAV, scAV, optval, abin, aint, acmp, aconv, aun, aeq, aminmax, afieldAddr, abuild, anew, fieldPlaces, afill, setSeg, kn_P, Nat.reduceAdd, Nat.reduceMul, Nat.reducePow, Nat.reduceSub, Nat.reduceEqDiff, Nat.reduceLT, Nat.reduceLeDiff, Int.reduceEq, Int.reduceNe, Int.reduceLT, Int.reduceLE, Int.reduceAdd, Int.reduceSub, Int.reduceToNat, Int.reduceBNe, Int.reduceBEq, tyR, hc1, hb11]; with_reducible rfl) ?_)
  simp only [rulesK, Nat.reduceEqDiff]
  refine D.sq (D.sq (D.region (T := none_) (by simp only [rulesA, rulesB, numbered, ayield, mapO, constAV, scAV, optval, abin, aint, acmp, aconv, aun, aeq, aminmax, afieldAddr, abuild, anew, fieldPlaces, afill, setSeg, kn_P, Nat.reduceAdd, Nat.reduceMul, Nat.reducePow, Nat.reduceSub, Nat.reduceEqDiff, Nat.reduceLT, Nat.reduceLeDiff, Int.reduceEq, Int.reduceNe, Int.reduceLT, Int.reduceLE, Int.reduceAdd, Int.reduceSub, Int.reduceToNat, Int.reduceBNe, Int.reduceBEq, tyR]; with_reducible rfl) ?_))
  simp only [rulesK, Nat.reduceEqDiff]
  cases hm : mget l id with
  | none =>
    refine D.cond (by simp only [rulesA, rulesB, numbered, ayield, mapO, constAV, scAV, optval, abin, aint, acmp, aconv, aun, aeq, aminmax, afieldAddr, abuild, anew, fieldPlaces, afill, setSeg, kn_P, Nat.reduceAdd, Nat.reduceMul, Nat.reducePow, Nat.reduceSub, Nat.reduceEqDiff, Nat.reduceLT, Nat.reduceLeDiff, Int.reduceEq, Int.reduceNe, Int.reduceLT, Int.reduceLE, Int.reduceAdd, Int.reduceSub, Int.reduceToNat, Int.reduceBNe, Int.reduceBEq, tyR, hm, Option.isSome_none]; with_reducible rfl) (fun h => ?_) (fun h => ?_)
    · cases h
    refine D.skip ?_
    simp only [rulesK, Nat.reduceEqDiff]
    refine D.sq (D.region (T := none_) (by simp only [rulesA, rulesB, numbered, ayield, mapO, constAV, scAV, optval, abin, aint, acmp, aconv, aun, aeq, aminmax, afieldAddr, abuild, anew, fieldPlaces, afill, setSeg, kn_P, Nat.reduceAdd, Nat.reduceMul, Nat.reducePow, Nat.reduceSub, Nat.reduceEqDiff, Nat.reduceLT, Nat.reduceLeDiff, Int.reduceEq, Int.reduceNe, Int.reduceLT, Int.reduceLE, Int.reduceAdd, Int.reduceSub, Int.reduceToNat, Int.reduceBNe, Int.reduceBEq, tyR, hm, Option.isSome_none]; with_reducible rfl) ?_)
    simp only [rulesK, Nat.reduceEqDiff]
    refine D.ret ?_
    simp only [rulesK, Nat.reduceEqDiff]
    refine ⟨_, by simp only [resOf, aresult, rulesA, rulesB, numbered, ayield, mapO, constAV, scAV, optval, abin, aint, acmp, aconv, aun, aeq, aminmax, afieldAddr, abuild, anew, fieldPlaces, afill, setSeg, kn_P, Nat.reduceAdd, Nat.reduceMul, Nat.reducePow, Nat.reduceSub, Nat.reduceEqDiff, Nat.reduceLT, Nat.reduceLeDiff, Int.reduceEq, Int.reduceNe, Int.reduceLT, Int.reduceLE, Int.reduceAdd, Int.reduceSub, Int.reduceToNat, Int.reduceBNe, Int.reduceBEq, tyR]; with_reducible rfl, ?_⟩
    exact .inl ⟨hm, rfl, (by first | exact rfl | exact True.intro)⟩
  | some x =>
  have hmem := (mget_iff hT.ml.nodup).1 hm
  obtain ⟨b, hb⟩ := hmem
  obtain ⟨n, hx, hnk, hidn, hun⟩ := hI.fwd _ hb
  simp only [] at hx hidn
  subst hx
  refine D.cond (by simp only [rulesA, rulesB, numbered, ayield, mapO, constAV, scAV, optval, abin, aint, acmp, aconv, aun, aeq, aminmax, afieldAddr, abuild, anew, fieldPlaces, afill, setSeg, kn_P, Nat.reduceAdd, Nat.reduceMul, Nat.reducePow, Nat.reduceSub, Nat.reduceEqDiff, Nat.reduceLT, Nat.reduceLeDiff, Int.reduceEq, Int.reduceNe, Int.reduceLT, Int.reduceLE, Int.reduceAdd, Int.reduceSub, Int.reduceToNat, Int.reduceBNe, Int.reduceBEq, tyR, hm, Option.isSome_some]; with_reducible rfl) (fun h => ?_) (fun h => ?_)
  rotate_left
  · cases h
  clear h
  have l2 := own_ld (G := G) (base := base) (w0 := w0) (i := 2) hT.row rfl ag75
  obtain ⟨l', ed, ml2, hll, hl'⟩ := hT.ml.del (c := (kn G base w0).c) Try.underlying75 Try.underlying3 hm
  obtain ⟨b1, b2, b3, b4, b5, b6⟩ := hT.lt
  obtain ⟨d1, d2, d3, d4, d5, d6, d7, d8, d9, d10, d11, d12, d13⟩ := hT.apart
  generalize hH2 : H1.set o.m (some (.map (l'.map enc) clk)) = H2 at ed ml2
  have hl2 : H2.length = H1.length := by rw [← hH2, List.length_set]
  have kp2 : ∀ j, j ≠ o.m → hat H2 j = hat H1 j := fun j h => by rw [← hH2]; exact hat_ne _ h
  refine D.sq (D.region (T := none_) (by simp only [rulesA, rulesB, numbered, ayield, mapO, constAV, scAV, optval, abin, aint, acmp, aconv, aun, aeq, aminmax, afieldAddr, abuild, anew, fieldPlaces, afill, setSeg, kn_P, Nat.reduceAdd, Nat.reduceMul, Nat.reducePow, Nat.reduceSub, Nat.reduceEqDiff, Nat.reduceLT, Nat.reduceLeDiff, Int.reduceEq, Int.reduceNe, Int.reduceLT, Int.reduceLE, Int.reduceAdd, Int.reduceSub, Int.reduceToNat, Int.reduceBNe, Int.reduceBEq, tyR, l2, ed]; with_reducible rfl) ?_)
  simp only [rulesK, Nat.reduceEqDiff]
  have row2 := (kp2 s d3).trans hT.row
  have m0 := own_ld (G := G) (base := base) (w0 := w0) (i := 0) row2 rfl ag28
  have m1 := own_ld (G := G) (base := base) (w0 := w0) (i := 1) row2 rfl ag40
  have x0 := own_ix (G := G) (base := base) (w0 := w0) Try.underlying28 sz3 (b := o.bi) hnk
  have x1 := own_ix (G := G) (base := base) (w0 := w0) Try.underlying40 sz4 (b := o.bu) hnk
  have hi2 := (kp2 o.bi d7).trans hT.hi
  have w0' := wr_own hi2 (off := n) (v := .int .i64 0) (by rw [ints_len, hT.il]; exact hnk) rfl
  generalize hH3 : H2.set o.bi (some (.row 3 1 ((ints ids).set n (.int .i64 0)))) = H3 at w0'
  have hl3 : H3.length = H2.length := by rw [← hH3, List.length_set]
  have kp3 : ∀ j, j ≠ o.bi → hat H3 j = hat H2 j := fun j h => by rw [← hH3]; exact hat_ne _ h
  have hu3 := (kp3 o.bu (fun e => d6 e.symm)).trans ((kp2 o.bu d9).trans hT.hu)
  have w1' := wr_own hu3 (off := n) (v := .bool false) (by rw [List.length_map, hT.ul]; exact hnk) rfl
  generalize hH4 : H3.set o.bu (some (.row 4 1 ((us.map AV.bool).set n (.bool false)))) = H4 at w1'
  have hl4 : H4.length = H3.length := by rw [← hH4, List.length_set]
  have kp4 : ∀ j, j ≠ o.bu → hat H4 j = hat H3 j := fun j h => by rw [← hH4]; exact hat_ne _ h
  refine D.sq (D.draw (T := none_) (by kernel_rfl) (by simp only [rulesA, rulesB, numbered, ayield, mapO, constAV, scAV, optval, abin, aint, acmp, aconv, aun, aeq, aminmax, afieldAddr, abuild, anew, fieldPlaces, afill, setSeg, kn_P, Nat.reduceAdd, Nat.reduceMul, Nat.reducePow, Nat.reduceSub, Nat.reduceEqDiff, Nat.reduceLT, Nat.reduceLeDiff, Int.reduceEq, Int.reduceNe, Int.reduceLT, Int.reduceLE, Int.reduceAdd, Int.reduceSub, Int.reduceToNat, Int.reduceBNe, Int.reduceBEq, tyR, m0, m1, x0, x1, astore, w0', w1', Option.getD_some]; with_reducible rfl) ?_)
  simp only [rulesK, Nat.reduceEqDiff]
  have row4 := (kp4 s d2).trans ((kp3 s d1).trans row2)
  have m3 := own_ld (G := G) (base := base) (w0 := w0) (i := 3) row4 rfl ag76
  have F4 : Fr H4 o.pf o.bf a := hT.fr.keep (by rw [kp4 _ (fun e => d10 e.symm), kp3 _ (fun e => d8 e.symm), kp2 _ (fun e => d12 e.symm)]) (by rw [kp4 _ (fun e => d11 e.symm), kp3 _ (fun e => hT.ne e.symm), kp2 _ (fun e => d13 e.symm)])
  have hla : a.length ≤ 4096 := by have := hI.cnt; have := hI.k4; omega
  obtain ⟨r5, H5, hc5, b', a', hF5, hp5, hh5, hk5, hb5⟩ := call_only (κ := kn G base w0) (f := 36) (args := [.iface 76 (.ptr (.own o.pf) 0), .iface 3 (.int .i64 (n : Int))]) (H := H4) (fun _ H0 r H' => PushS o.pf o.bf a (n : Int) H0 r H') (hpush_ok F4 n (by omega) hI.heap)
  refine D.regC hc5 (by simp only [rulesA, rulesB, numbered, ayield, mapO, constAV, scAV, optval, abin, aint, acmp, aconv, aun, aeq, aminmax, afieldAddr, abuild, anew, fieldPlaces, afill, setSeg, kn_P, Nat.reduceAdd, Nat.reduceMul, Nat.reducePow, Nat.reduceSub, Nat.reduceEqDiff, Nat.reduceLT, Nat.reduceLeDiff, Int.reduceEq, Int.reduceNe, Int.reduceLT, Int.reduceLE, Int.reduceAdd, Int.reduceSub, Int.reduceToNat, Int.reduceBNe, Int.reduceBEq, tyR, hc5, m3, hb15, Option.getD_some]; with_reducible rfl) ?_
  simp only [rulesK, Nat.reduceEqDiff]
  refine D.sq (D.region (T := none_) (by simp only [rulesA, rulesB, numbered, ayield, mapO, constAV, scAV, optval, abin, aint, acmp, aconv, aun, aeq, aminmax, afieldAddr, abuild, anew, fieldPlaces, afill, setSeg, kn_P, Nat.reduceAdd, Nat.reduceMul, Nat.reducePow, Nat.reduceSub, Nat.reduceEqDiff, Nat.reduceLT, Nat.reduceLeDiff, Int.reduceEq, Int.reduceNe, Int.reduceLT, Int.reduceLE, Int.reduceAdd, Int.reduceSub, Int.reduceToNat, Int.reduceBNe, Int.reduceBEq, tyR, hm, Option.isSome_some]; with_reducible rfl) ?_)
  simp only [rulesK, Nat.reduceEqDiff]
  refine D.ret ?_
  simp only [rulesK, Nat.reduceEqDiff]
  refine ⟨_, by simp only [resOf, aresult, rulesA, rulesB, numbered, ayield, mapO, constAV, scAV, optval, abin, aint, acmp, aconv, aun, aeq, aminmax, afieldAddr, abuild, anew, fieldPlaces, afill, setSeg, kn_P, Nat.reduceAdd, Nat.reduceMul, Nat.reducePow, Nat.reduceSub, Nat.reduceEqDiff, Nat.reduceLT, Nat.reduceLeDiff, Int.reduceEq, Int.reduceNe, Int.reduceLT, Int.reduceLE, Int.reduceAdd, Int.reduceSub, Int.reduceToNat, Int.reduceBNe, Int.reduceBEq, tyR]; with_reducible rfl, ?_⟩
  have hI5 := hI.drop hT.ml.nodup hT.il hT.ul hb hnk hidn hun hl' hll hp5 hh5
  have hl5 := hk5.1
  have kp5 : ∀ j, j < H4.length → j ≠ o.pf → j ≠ o.bf → hat H5 j = hat H4 j := fun j hj h1 h2 => hk5.2 j hj (by rintro (h | h); exact h1 h; exact h2 h)
  refine .inr ⟨n, b', l', a', hm, hnk, rfl, ⟨?_, by rw [List.length_set]; exact hT.il, by rw [List.length_set]; exact hT.ul, ?_, ?_, ?_, hF5, ?_⟩, hI5, hl', hll, ?_, ?_⟩
  · rw [kp5 s (by omega) d4 d5]; exact row4
  · show hat H5 o.bi = _
    rw [kp5 _ (by omega) d8 hT.ne, kp4 _ d6, ← hH3, hat_eq _ (by omega), ints, ints, List.map_set]
  · show hat H5 o.bu = _
    rw [kp5 _ (by omega) d10 d11, ← hH4, hat_eq _ (by omega), List.map_set]
  · exact ml2.keep (by rw [kp5 _ (by omega) d12 d13, kp4 _ (fun e => d9 e.symm), kp3 _ (fun e => d7 e.symm)])
  · show o.bi ≠ b'
    rcases hb5 with rfl | hb5
    · exact hT.ne
    · omega
  · rcases hb5 with rfl | hb5
    · exact .inl rfl
    · exact .inr (by omega)
  · refine ⟨by omega, fun j hj hne => ?_⟩
    simp only [Own, not_or] at hne
    rw [kp5 j (by omega) hne.2.2.2.1 hne.2.2.2.2, kp4 j hne.2.1, kp3 j hne.1, kp2 j hne.2.2.1]
end Go.Proofs.Ytecfofmndpgnjaa.sy

/- slots.Slots as a map that is asked (own work). -/
namespace Go.Proofs.Ytecfofmndpgnjaa.sy
open Go.AM Go.AM.Hp
set_option linter.unusedSimpArgs false
set_option linter.unusedVariables false
variable {G : List Nat → Option (List AV)} {base : Nat} {w0 : World}
set_option maxRecDepth 100000
variable {H : AHeap} {s : Nat} {o : Tb} {k : Nat} {ids : List Int} {us : List Bool} {l : List (Int × Int × Nat)} {clk : Nat} {a : List Int} {f : Int → Option Int} {c : Nat}
/-- a table behind a pointer, as a map -/
def T (H : AHeap) (s : Nat) (o : Tb) (k : Nat) (f : Int → Option Int) (c : Nat) : Prop := ∃ ids us l clk a, Sts H s o k ids us l clk a ∧ Inv k ids us l a ∧ (∀ q, mget l q = f q) ∧ l.length = c
theorem T.rng (h : T H s o k f c) {q x : Int} (e : f q = some x) : ∃ n : Nat, x = n ∧ n < k := by
  obtain ⟨ids, us, l, clk, a, hT, hI, hf, hc⟩ := h
  rw [← hf] at e
  obtain ⟨b, hb⟩ := (mget_iff hT.ml.nodup).1 e
  obtain ⟨n, h1, h2, _⟩ := hI.fwd _ hb
  exact ⟨n, h1, h2⟩
theorem T.inj (h : T H s o k f c) {q q' x : Int} (e : f q = some x) (e' : f q' = some x) : q = q' := by
  obtain ⟨ids, us, l, clk, a, hT, hI, hf, hc⟩ := h
  rw [← hf] at e e'
  obtain ⟨b, hb⟩ := (mget_iff hT.ml.nodup).1 e
  obtain ⟨b', hb'⟩ := (mget_iff hT.ml.nodup).1 e'
  obtain ⟨n, h1, h2, h3, _⟩ := hI.fwd _ hb
  obtain ⟨n', h1', h2', h3', _⟩ := hI.fwd _ hb'
  simp only [] at h1 h1' h3 h3'
  obtain rfl : n = n' := by omega
  rw [← h3, ← h3']
theorem T.le (h : T H s o k f c) : c ≤ k ∧ k ≤ 4096 := by
  obtain ⟨ids, us, l, clk, a, hT, hI, hf, hc⟩ := h
  have := hI.cnt; exact ⟨by omega, hI.k4⟩
theorem T.lt (h : T H s o k f c) : s < H.length ∧ o.bi < H.length ∧ o.bu < H.length ∧ o.m < H.length ∧ o.pf < H.length ∧ o.bf < H.length := by
  obtain ⟨ids, us, l, clk, a, hT, _⟩ := h
  exact hT.lt
theorem T.keep {H' : AHeap} (h : T H s o k f c) (hk : ∀ j, (j = s ∨ Own o j) → hat H' j = hat H j) : T H' s o k f c := by
  obtain ⟨ids, us, l, clk, a, hT, hI, hf, hc⟩ := h
  exact ⟨ids, us, l, clk, a, hT.keep (hk _ (.inl rfl)) (hk _ (.inr (.inl rfl))) (hk _ (.inr (.inr (.inl rfl)))) (hk _ (.inr (.inr (.inr (.inl rfl))))) (hk _ (.inr (.inr (.inr (.inr (.inl rfl)))))) (hk _ (.inr (.inr (.inr (.inr (.inr rfl)))))), hI, hf, hc⟩
theorem T.own_lt (h : T H s o k f c) {j : Nat} (hj : j = s ∨ Own o j) : j < H.length := by
  obtain ⟨h1, h2, h3, h4, h5, h6⟩ := h.lt
  rcases hj with rfl | rfl | rfl | rfl | rfl | rfl <;> assumption
theorem T.keepF {H' : AHeap} (h : T H s o k f c) (hk : Keep H H' (fun _ => False)) : T H' s o k f c := h.keep fun j hj => hk.2 j (h.own_lt hj) id
theorem Inv.used (hI : Inv k ids us l a) (hn : (l.map (·.1)).Nodup) {n : Nat} (hnk : n < k) : us.getD n false = true ↔ ∃ q, mget l q = some (n : Int) := by
  constructor
  · intro h
    obtain ⟨b, hb⟩ := hI.bwd n hnk h
    exact ⟨_, mget_mem hn hb⟩
  · rintro ⟨q, hq⟩
    obtain ⟨b, hb⟩ := (mget_iff hn).1 hq
    obtain ⟨j, h1, h2, h3, h4⟩ := hI.fwd _ hb
    simp only [] at h1
    obtain rfl : n = j := by omega
    exact h4
theorem mget_app {id v : Int} {b : Nat} (h0 : mget l id = none) (q : Int) : mget (l ++ [(id, v, b)]) q = upd1 (mget l) id (some v) q := by
  simp only [mget, List.find?_append, upd1]
  by_cases hq : q = id
  · subst hq
    have : l.find? (fun e => e.1 == q) = none := Option.map_eq_none_iff.1 h0
    simp [this]
  · rw [if_neg hq]
    have : ([(id, v, b)] : List (Int × Int × Nat)).find? (fun e => e.1 == q) = none := by simp; exact fun e => hq e.symm
    rw [this]
    simp
theorem mget_del {l' : List (Int × Int × Nat)} (hn : (l.map (·.1)).Nodup) (hn' : (l'.map (·.1)).Nodup) {id : Int} (hl' : ∀ e, e ∈ l' ↔ e ∈ l ∧ e.1 ≠ id) (q : Int) : mget l' q = upd1 (mget l) id none q := by
  unfold upd1
  split
  · rename_i h
    subst h
    exact mget_none fun e he => ((hl' e).1 he).2
  · rename_i h
    cases hm : mget l q with
    | some v =>
      obtain ⟨b, hb⟩ := (mget_iff hn).1 hm
      exact (mget_iff hn').2 ⟨b, (hl' _).2 ⟨hb, h⟩⟩
    | none =>
      cases hm' : mget l' q with
      | none => rfl
      | some v =>
        obtain ⟨b, hb⟩ := (mget_iff hn').1 hm'
        have := (mget_iff hn).2 ⟨b, ((hl' _).1 hb).1⟩
        rw [hm] at this; cases this
theorem upd1_congr {f g : Int → Option Int} (h : ∀ q, f q = g q) (id : Int) (v : Option Int) (q : Int) : upd1 f id v q = upd1 g id v q := by
  simp only [upd1, h]
def PutT (id : Int) (H : AHeap) (s : Nat) (o : Tb) (k : Nat) (f : Int → Option Int) (c : Nat) : AV → AHeap → Prop := fun r H' =>
  (∃ x, f id = some x ∧ r = .tuple [.int .i64 0, .int .i64 4] ∧ H' = H) ∨ (f id = none ∧ c = k ∧ (∀ n : Nat, n < k → ∃ q, f q = some (n : Int)) ∧ r = .tuple [.int .i64 0, .int .i64 6] ∧ H' = H) ∨
  (f id = none ∧ c < k ∧ ∃ n : Nat, n < k ∧ (∀ q, f q ≠ some (n : Int)) ∧ (∀ j : Nat, j < n → ∃ q, f q = some (j : Int)) ∧ r = .tuple [.int .i64 n, .int .i64 0] ∧ T H' s o k (upd1 f id (some (n : Int))) (c + 1) ∧ Keep H H' (Own o))
theorem putT (h : T H s o k f c) {id : Int} (hid : -9223372036854775808 ≤ id ∧ id ≤ 9223372036854775807) : ∃ r H', Pt (kn G base w0) 29 [.ptr (.own s) 0, .int .i64 id] H r H' ∧ PutT id H s o k f c r H' := by
  obtain ⟨ids, us, l, clk, a, hT, hI, hf, hc⟩ := h
  have hfr : ∀ n : Nat, n < k → ((n : Int) ∈ a ↔ us.getD n false = false) := by
    intro n hn
    rw [hI.free]
    constructor
    · rintro ⟨j, h1, h2, h3⟩; obtain rfl : n = j := by omega
      exact h3
    · intro h; exact ⟨n, rfl, hn, h⟩
  obtain ⟨r, H', hp, h⟩ := put_ok (G := G) (base := base) (w0 := w0) hT hI hid
  refine ⟨r, H', hp, ?_⟩
  rcases h with ⟨x, h1, h2, h3⟩ | ⟨h1, h2, h3, h4⟩ | ⟨h1, n, a', h2, h3, h4, h5, h6, h7, h8⟩
  · exact .inl ⟨x, by rw [← hf]; exact h1, h2, h3⟩
  · refine .inr (.inl ⟨by rw [← hf]; exact h1, by have := hI.cnt; subst h2; simp at this; omega, fun n hn => ?_, h3, h4⟩)
    have : us.getD n false = true := by
      cases hu : us.getD n false with
      | true => rfl
      | false => have := (hfr n hn).2 hu; rw [h2] at this; simp at this
    obtain ⟨q, hq⟩ := (hI.used hT.ml.nodup hn).1 this
    exact ⟨q, by rw [← hf]; exact hq⟩
  · have hna : (n : Int) ∈ a := h3.mem_iff.1 (by simp)
    have hle : c < k := by have := hI.cnt; have := List.length_pos_of_mem hna; omega
    refine .inr (.inr ⟨by rw [← hf]; exact h1, hle, n, h2, fun q hq => ?_, fun j hj => ?_, h5, ⟨_, _, _, _, _, h6, h7, fun q => ?_, by simp [hc]⟩, h8⟩)
    · rw [← hf] at hq
      have := (hI.used hT.ml.nodup h2).2 ⟨q, hq⟩
      rw [(hfr n h2).1 hna] at this; cases this
    · have : us.getD j false = true := by
        cases hu : us.getD j false with
        | true => rfl
        | false => have := h4 _ ((hfr j (by omega)).2 hu); omega
      obtain ⟨q, hq⟩ := (hI.used hT.ml.nodup (by omega)).1 this
      exact ⟨q, by rw [← hf]; exact hq⟩
    · rw [mget_app h1, upd1_congr hf]
def DropT (id : Int) (H : AHeap) (s : Nat) (o : Tb) (k : Nat) (f : Int → Option Int) (c : Nat) : AV → AHeap → Prop := fun r H' =>
  (f id = none ∧ r = .bool false ∧ H' = H) ∨
  (∃ (n b' c' : Nat), f id = some (n : Int) ∧ n < k ∧ r = .bool true ∧ c = c' + 1 ∧ T H' s ⟨o.bi, o.bu, o.m, o.pf, b'⟩ k (upd1 f id none) c' ∧ (b' = o.bf ∨ H.length ≤ b') ∧ Keep H H' (Own o))
theorem dropT (h : T H s o k f c) (id : Int) : ∃ r H', Pt (kn G base w0) 40 [.ptr (.own s) 0, .int .i64 id] H r H' ∧ DropT id H s o k f c r H' := by
  obtain ⟨ids, us, l, clk, a, hT, hI, hf, hc⟩ := h
  obtain ⟨r, H', hp, h⟩ := drop_ok (G := G) (base := base) (w0 := w0) hT hI id
  refine ⟨r, H', hp, ?_⟩
  rcases h with ⟨h1, h2, h3⟩ | ⟨n, b', l', a', h1, h2, h3, h4, h5, h6, h7, h8, h9⟩
  · exact .inl ⟨by rw [← hf]; exact h1, h2, h3⟩
  · refine .inr ⟨n, b', l'.length, by rw [← hf]; exact h1, h2, h3, by omega, ⟨_, _, _, _, _, h4, h5, fun q => ?_, rfl⟩, h8, h9⟩
    rw [mget_del hT.ml.nodup h4.ml.nodup h6, upd1_congr hf]
theorem getT (h : T H s o k f c) (id : Int) : ∃ r H', Pt (kn G base w0) 39 [.ptr (.own s) 0, .int .i64 id] H r H' ∧ (r = .tuple [.int .i64 ((f id).getD 0), .bool (f id).isSome] ∧ H' = H) := by
  obtain ⟨ids, us, l, clk, a, hT, hI, hf, hc⟩ := h
  rw [← hf]
  exact get_ok hT id
theorem lenT (h : T H s o k f c) : ∃ r H', Pt (kn G base w0) 86 [.ptr (.own s) 0] H r H' ∧ (r = .int .i64 c ∧ H' = H) := by
  obtain ⟨ids, us, l, clk, a, hT, hI, hf, rfl⟩ := h
  exact len_ok hT
def IdsT (H : AHeap) (f : Int → Option Int) (c : Nat) : AV → AHeap → Prop := fun r H' => ∃ zs : List Int, zs.Pairwise (· < ·) ∧ (∀ q, q ∈ zs ↔ ∃ x, f q = some x) ∧ zs.length = c ∧ Go.AM.Own H' r 3 (ints zs) ∧ Keep H H' (fun _ => False) ∧ ∀ b, r.at? = some b → H.length ≤ b
theorem idsT (h : T H s o k f c) : ∃ r H', Pt (kn G base w0) 35 [.ptr (.own s) 0] H r H' ∧ IdsT H f c r H' := by
  obtain ⟨ids, us, l, clk, a, hT, hI, hf, hc⟩ := h
  obtain ⟨r, H', hp, h1, h2, h3⟩ := ids_ok (G := G) (base := base) (w0 := w0) hT hI
  have hperm := isortI_perm (l.map (·.1))
  refine ⟨r, H', hp, isortI (l.map (·.1)), ?_, fun q => ?_, by rw [hperm.length_eq, List.length_map, hc], h1, h2, h3⟩
  · have h4 := isortI_sorted (l.map (·.1))
    have h5 := hperm.nodup_iff.2 hT.ml.nodup
    exact (List.Pairwise.and h4 h5).imp fun ⟨h, h'⟩ => by omega
  · rw [hperm.mem_iff, List.mem_map]
    constructor
    · rintro ⟨e, he, rfl⟩
      exact ⟨e.2.1, by rw [← hf]; exact mget_mem hT.ml.nodup he⟩
    · rintro ⟨x, hx⟩
      rw [← hf] at hx
      obtain ⟨b, hb⟩ := (mget_iff hT.ml.nodup).1 hx
      exact ⟨_, hb, rfl⟩
def NewT (x : Int) (H : AHeap) : AV → AHeap → Prop := fun r H' => ∃ (n s : Nat) (o : Tb), (n : Int) = min (max x 0) 4096 ∧ r = .ptr (.own s) 0 ∧ T H' s o n (fun _ => none) 0 ∧ Keep H H' (fun _ => False) ∧ ∀ j, (j = s ∨ Own o j) → H.length ≤ j
theorem newT (x : Int) : ∃ r H', Pt (kn G base w0) 28 [.int .i64 x] H r H' ∧ NewT x H r H' := by
  obtain ⟨r, H', hp, n, s, o, a, h1, h2, h3, h4, h5, h6, h7, h8, h9, h10, h11⟩ := new_ok (G := G) (base := base) (w0 := w0) (H := H) x
  refine ⟨r, H', hp, n, s, o, h1, h2, ⟨_, _, _, _, _, h3, h4, fun q => rfl, rfl⟩, h5, ?_⟩
  rintro j (rfl | rfl | rfl | rfl | rfl | rfl) <;> assumption
theorem awake_run : isTrue (acall (kn G base w0).c drawRunB gcCall (skeys.prims (kn G base w0).c) 60 8 [] []) = true := by kernel_rfl
theorem awake_ok : ∃ r H', Pt (kn G base w0) 8 [] [] r H' ∧ r = .bool true := by
  obtain ⟨H', h⟩ := isTrue_some awake_run
  exact ⟨_, H', Pt.run (κ := kn G base w0) (skeys.prims_ok (c := (kn G base w0).c) rfl base w0) h, rfl⟩
end Go.Proofs.Ytecfofmndpgnjaa.sy

/-
  REGIONS THAT DRAW THEIR ORDER, OVER ANY HEAP, the general law (own work): the heap is told for each set of those operations that may have been run.
-/
namespace Go.AM
open Go.RowKit
set_option linter.unusedSimpArgs false
set_option linter.unusedVariables false

variable {c : Ctx} {base : Nat} {w0 w : World} {ρ : Pl} {H : AHeap}

theorem stepV_rel {call : Callee} (hc : CallOK c base w0 call) (h : Rel c base w0 ρ H w) (hf : Fresh ρ H) {env : AEnv} {a : Act} (he : EnvR ρ env a.tmps) {ops : List Oper} {o : Oper} {u : Option AV} {H' : AHeap}
    (e : stepV c call ops o env H = some (u, H')) : ∃ x w' ρ', (∀ v, u = some v → VR ρ' v x) ∧ Post c base w0 ρ H w ρ' H' w' := by
  simp only [stepV, Option.bind_eq_some_iff] at e
  obtain ⟨b, hb, e⟩ := e
  cases b with
  | false =>
    simp only [Bool.false_eq_true, if_false, Option.some.injEq, Prod.mk.injEq] at e
    obtain ⟨rfl, rfl⟩ := e
    exact ⟨_, w, ρ, fun v hv => by cases hv; exact undef_r ρ, Post.refl h⟩
  | true =>
    simp only [if_true, Option.bind_eq_some_iff] at e
    obtain ⟨⟨r, H1⟩, hr, e⟩ := e
    obtain ⟨ρ1, n, w1, hrun, hres, hpost⟩ := op_sound h he hr (fun _ => hf _ (Nat.le_refl _))
    cases r with
    | val v =>
      cases e
      cases n <;> simp only [PRes] at hres
      rename_i x
      exact ⟨x, w1, ρ1, fun u hu => by cases hu; exact hres, hpost⟩
    | skip =>
      cases e
      cases n <;> simp only [PRes] at hres
      exact ⟨_, w1, ρ1, fun v hv => by cases hv; exact undef_r ρ1, hpost⟩
    | call f args =>
      cases n <;> simp only [PRes] at hres
      rename_i g xs
      obtain ⟨rfl, l, hl, rfl⟩ := hres
      simp only [Option.bind_eq_some_iff] at e
      obtain ⟨⟨v, H2⟩, hv, e⟩ := e
      cases e
      obtain ⟨e', w', fr, ⟨ρ', x, rfl, hvr, hp2⟩, _⟩ := hc f args H1 v H2 hv ρ1 w1 l hpost.rel (hpost.fresh hf) hl []
      exact ⟨x, w', ρ', fun u hu => by cases hu; exact hvr, hpost.trans hp2⟩

abbrev envT (ops : List Oper) (t : List (Option AV × AHeap)) (env : AEnv) (j : Nat) : AEnv := envK (fun i => (ops.getD i default).dst) (fun i => (t.getD i dft).1) (fun _ => true) env j

/-- the text's order, as it is walked -/
theorem trace_rel {call : Callee} (hc : CallOK c base w0 call) {ops : List Oper} {env : AEnv} {t : List (Option AV × AHeap)} (ht : trace c call ops ops env H = some t) (h : Rel c base w0 ρ H w) (hf : Fresh ρ H) {a : Act} (he : EnvR ρ env a.tmps) :
    ∀ j, j ≤ ops.length → ∃ ρ' w' a', Post c base w0 ρ H w ρ' (heapsOf H t j) w' ∧ EnvR ρ' (envT ops t env j) (Act.tmps a') := by
  intro j
  induction j with
  | zero => intro _; exact ⟨ρ, w, a, Post.refl h, he⟩
  | succ j ih =>
    intro hj
    obtain ⟨ρ1, w1, a1, hp, he1⟩ := ih (by omega)
    have hst := trace_at ht j _ (opsOf_get (ops := ops) (by omega))
    obtain ⟨x, w2, ρ2, hv, hp2⟩ := stepV_rel hc hp.rel (hp.fresh hf) he1 hst
    refine ⟨ρ2, w2, a1.put (opsOf ops j).dst x, hp.trans hp2, ?_⟩
    have := (he1.mono hp2.ext).put (opsOf ops j).dst hv
    exact this
theorem trace_low {call : Callee} (hc : CallOK c base w0 call) {ops : List Oper} {env : AEnv} {t : List (Option AV × AHeap)} (ht : trace c call ops ops env H = some t) (h : Rel c base w0 ρ H w) (hf : Fresh ρ H) {a : Act} (he : EnvR ρ env a.tmps) :
    ∀ j, j ≤ ops.length → heapLow (heapsOf H t j).length (heapsOf H t j) = true ∧ envLow (heapsOf H t j).length (envT ops t env j) ∧ H.length ≤ (heapsOf H t j).length := by
  intro j hj
  obtain ⟨ρ', w', a', hp, he'⟩ := trace_rel hc ht h hf he j hj
  exact ⟨hp.rel.low (hp.fresh hf), he'.low (hp.fresh hf), hp.len⟩

theorem stepV_congr {call : Callee} {ops : List Oper} {o : Oper} {e1 e2 : AEnv} (h : ∀ t, eget e1 t = eget e2 t) {K : AHeap} : stepV c call ops o e1 K = stepV c call ops o e2 K := by
  simp only [stepV, awanted_reads (ops := ops) (o := o) fun t _ => h t, aop_congr (aval_reads (ops := ops) (o := o) fun t _ => h t)]

theorem isP_stepV {call : Callee} {ops : List Oper} {o : Oper} (hp : isP o.op = true) {env : AEnv} {v : Option AV} {H' : AHeap} (e : stepV c call ops o env H = some (v, H')) : H' = H ∧ ∀ K, stepV c call ops o env K = some (v, K) := by
  simp only [stepV, Option.bind_eq_some_iff] at e
  obtain ⟨b, hb, e⟩ := e
  cases b with
  | false =>
    simp only [Bool.false_eq_true, if_false, Option.some.injEq, Prod.mk.injEq] at e
    obtain ⟨rfl, rfl⟩ := e
    exact ⟨rfl, fun K => by simp only [stepV, hb, Option.bind_some, Bool.false_eq_true, if_false]⟩
  | true =>
    simp only [if_true, Option.bind_eq_some_iff] at e
    obtain ⟨⟨r, H1⟩, hr, e⟩ := e
    obtain ⟨⟨rfl, u, rfl⟩, hk⟩ := isP_still hp hr []
    cases e
    refine ⟨rfl, fun K => ?_⟩
    have := (isP_still hp hr K).2
    simp only [stepV, hb, Option.bind_some, if_true, this]

theorem anyG_sound (hm : c.P.follows .mixedOrders = true) (call : Callee) (hc : CallOK c base w0 call) (id : Nat) (opsA : Array Oper) (env env' : AEnv) (H H' : AHeap) (t : List (Option AV × AHeap)) (ht : trace c call opsA.toList opsA.toList env H = some t)
    (hend : endOf opsA.toList t env H = (env', H')) (hedge : edgesOk opsA.toList = true) (hap : apartOk opsA.toList = true)
    (hmono0 : ∀ j, j < opsA.toList.length → (heapsOf H t j).length ≤ (heapsOf H t (j + 1)).length)
    (A : (Nat → Bool) → AHeap) (hlen : ∀ S, (A S).length = (heapsOf H t opsA.toList.length).length)
    (hA0 : ∀ S, (∀ i, S i = false) → ∀ i o, hat (A S) i = some o ↔ hat H i = some o)
    (hAn : ∀ S, (∀ i, i < opsA.toList.length → S i = true) → A S = heapsOf H t opsA.toList.length)
    (hAP : ∀ S j, j < opsA.toList.length → isP (opsOf opsA.toList j).op = true → S j = false → A (fun i => if i = j then true else S i) = A S)
    (hchk0 : ∀ (S : Nat → Bool) (j : Nat), j < opsA.toList.length → S j = false → isP (opsOf opsA.toList j).op = false →
      (∀ k, k < opsA.toList.length → S k = true → ∀ i, ((Region.before opsA.toList.toArray).getD k 0).testBit i = true → S i = true) → (∀ i, ((Region.before opsA.toList.toArray).getD j 0).testBit i = true → S i = true) →
      heapLow (heapsOf H t j).length ((A S).take (heapsOf H t j).length) = true ∧ ∃ V',
      stepV c call opsA.toList (opsOf opsA.toList j) (lowEnv (heapsOf H t j).length (envT opsA.toList t env j)) ((A S).take (heapsOf H t j).length) = some ((t.getD j dft).1, V') ∧ V'.length = (heapsOf H t (j + 1)).length ∧
        V' ++ (A S).drop (heapsOf H t (j + 1)).length = A (fun i => if i = j then true else S i))
    (ρ : Pl) (w : World) (a : Act) (h : Rel c base w0 ρ H w) (hf : Fresh ρ H) (he : EnvR ρ env a.tmps) : (Code.region id opsA true).wp c.P (Behind c base w0 ρ H w a .normal env' H') a w := by
  obtain ⟨ops⟩ := opsA
  simp only at ht hend hedge hap hmono0 hlen hAn hAP hchk0
  have hcan := fun j (hj : j < ops.length) => trace_at ht j _ (opsOf_get hj)
  obtain ⟨_, _, f3⟩ := trace_facts ht
  have hst := endOf_steps ht
  rw [f3, Option.some.injEq] at hst
  have hheap := endOf_heap ht
  rw [hend] at hst hheap
  simp only [Prod.mk.injEq] at hst
  have hE := hst.1
  change H' = _ at hheap
  subst hE hheap
  clear hst f3 hend
  simp only [envT] at hchk0
  generalize hdst : (fun i => (ops.getD i default).dst) = dst at *
  generalize hvals : (fun i => (t.getD i dft).1) = vals at *
  have hdst' : ∀ i, dst i = (opsOf ops i).dst := fun i => by rw [← hdst]; rfl
  have hvals' : ∀ i, (t.getD i dft).1 = vals i := fun i => by rw [← hvals]
  have hcan' : ∀ j, j < ops.length → stepV c call ops (opsOf ops j) (envK dst vals (fun _ => true) env j) (heapsOf H t j) = some (vals j, heapsOf H t (j + 1)) := fun j hj => by
    rw [hcan j hj, ← hvals' j]; rfl
  clear hcan
  generalize hhp : heapsOf H t = hp at *
  have hp0 : hp 0 = H := by rw [← hhp]; rfl
  generalize hs : (fun k => (hp k).length) = s at *
  have hs' : ∀ k, (hp k).length = s k := fun k => by rw [← hs]
  simp only [hs'] at hlen hmono0
  have hs0 : s 0 = H.length := by rw [← hs', hp0]
  have hmono1 : ∀ j, j < ops.length → s j ≤ s (j + 1) := hmono0
  have hmono : ∀ {j k}, j ≤ k → k ≤ ops.length → s j ≤ s k := fun hjk hk => mono_of hmono1 hjk hk
  have hedge' : ∀ j, j < ops.length → ∀ e ∈ (opsOf ops j).after.toList, Region.binds .any e = true → e.on < j := by
    intro j hj e hej hb
    have := List.all_eq_true.1 (List.all_eq_true.1 hedge j (List.mem_range.2 hj)) e hej
    rw [hb] at this
    simpa using this
  have hap' : ∀ i j, i < j → j < ops.length → ((Region.before ops.toArray).getD j 0).testBit i = true ∨ Oper.apart ops.toArray (opsOf ops i) (opsOf ops j) = true := by
    intro i j hij hj
    have := List.all_eq_true.1 (List.all_eq_true.1 hap j (List.mem_range.2 hj)) i (List.mem_range.2 hij)
    simpa only [Bool.or_eq_true] using this
  simp only [hs', hvals'] at hchk0
  generalize hbf : Region.before ops.toArray = bf at *
  have keep_mono : ∀ {S S' : Nat → Bool}, (∀ i, S i = true → S' i = true) → ∀ i, keepS s ops.length S i = true → keepS s ops.length S' i = true := by
    intro S S' hSS i hk
    rcases keepS_iff.1 hk with h1 | ⟨j, h1, h2, h3⟩
    · exact keepS_iff.2 (.inl h1)
    · exact keepS_iff.2 (.inr ⟨j, h1, hSS j h2, h3⟩)
  -- the heart: what holds when some have been run
  have main : ∀ (fuel : Nat) (listed : Array Bool) (ρ' : Pl) (a' : Act) (w' : World), listed.size = ops.length → toCome (setOf listed) ops.length = fuel →
      (∀ j, j < ops.length → setOf listed j = true → ∀ i, (bf.getD j 0).testBit i = true → setOf listed i = true) → a'.defers = a.defers →
      Post c base w0 ρ H w ρ' (A (setOf listed)) w' → EnvR ρ' (envK dst vals (setOf listed) env ops.length) a'.tmps → (∀ i p, s 0 ≤ i → ρ' (.own i) = some p → keepS s ops.length (setOf listed) i = true) →
      wpAny c.P .any ops.toArray (Behind c base w0 ρ H w a .normal (envK dst vals (fun _ => true) env ops.length) (hp ops.length)) fuel listed a' w' := by
    intro fuel
    induction fuel with
    | zero =>
      intro listed ρ' a' w' hls hcount hclosed hdf hpost henv hinv
      have hall := toCome_zero hcount
      have hE : EnvEq (envK dst vals (setOf listed) env ops.length) (envK dst vals (fun _ => true) env ops.length) :=
        ⟨by rw [envK_size, envK_size], fun t => envK_agree _ (fun i hi _ => hall i hi)⟩
      have hHH : A (setOf listed) = hp ops.length := hAn _ hall
      refine ⟨?_, rfl, hdf, ρ', hHH ▸ hpost, henv.congr hE⟩
      rw [List.eq_nil_iff_forall_not_mem]
      intro i hi
      obtain ⟨hi1, hi2, _⟩ := (mem_ready hls).1 hi
      rw [hall i hi1] at hi2; cases hi2
    | succ fuel ih =>
      intro listed ρ' a' w' hls hcount hclosed hdf hpost henv hinv
      refine ⟨fun hnil => ?_, fun j hj => ?_⟩
      · -- none is ready, and not all are through: that cannot be
        exfalso
        have hall : ∀ k, k ≤ ops.length → ∀ i, i < k → setOf listed i = true := by
          intro k
          induction k with
          | zero => intro _ i hi; omega
          | succ k ihk =>
            intro hk i hi
            by_cases hik : i = k
            · subst hik
              cases hS : setOf listed i with
              | true => rfl
              | false =>
                have : i ∈ Region.ready .any ops.toArray listed := (mem_ready hls).2 ⟨by omega, hS, fun e hej hb => ihk (by omega) _ (hedge' i (by omega) e hej hb)⟩
                rw [hnil] at this; cases this
            · exact ihk (by omega) i (by omega)
        have hz : toCome (setOf listed) ops.length = 0 := by
          have : ∀ m, m ≤ ops.length → toCome (setOf listed) m = 0 := by
            intro m hm'
            induction m with
            | zero => rfl
            | succ m ihm => simp only [toCome]; rw [ihm (by omega), hall _ (Nat.le_refl _) m (by omega)]; rfl
          exact this _ (Nat.le_refl _)
        omega
      · obtain ⟨hjn, hSj, hready⟩ := (mem_ready hls).1 hj
        have hoj := opsOf_get hjn
        have hpre : ∀ i, (bf.getD j 0).testBit i = true → setOf listed i = true := by
          intro i hi
          rw [← hbf] at hi
          obtain ⟨e, hej, hb, hq⟩ := before_bits hoj (hedge' j hjn) hi
          rcases hq with rfl | hq
          · exact hready e hej hb
          · rw [hbf] at hq
            exact hclosed e.on (by have := hedge' j hjn e hej hb; omega) (hready e hej hb) i hq
        have hpr : ∀ i, i < ops.length → i ≠ j → setOf listed i = decide (i < j) ∨ Oper.apart ops.toArray (opsOf ops (min i j)) (opsOf ops (max i j)) = true := by
          intro i hi hij
          by_cases hlt : i < j
          · rcases hap' i j hlt hjn with hb | hb
            · exact .inl (by rw [hpre i hb]; simp [hlt])
            · exact .inr (by rw [Nat.min_eq_left (by omega), Nat.max_eq_right (by omega)]; exact hb)
          · rcases hap' j i (by omega) hi with hb | hb
            · refine .inl ?_
              cases hS : setOf listed i with
              | false => simp; omega
              | true =>
                have := hclosed i hi hS j hb
                rw [hSj] at this; cases this
            · exact .inr (by rw [Nat.min_eq_right (by omega), Nat.max_eq_left (by omega)]; exact hb)
        have hreads : ∀ t ∈ (opsOf ops j).looksAt ops.toArray, eget (envK dst vals (setOf listed) env ops.length) t = eget (envK dst vals (fun _ => true) env j) t := by
          intro t ht'
          rw [← envK_upto j ops.length (by omega)]
          refine envK_agree _ (fun i hi hd => ?_)
          by_cases hij : i = j
          · subst hij; rw [hSj]; simp
          · rcases hpr i hi hij with hp | hap
            · exact hp
            · exfalso
              rw [hdst'] at hd
              by_cases hlt : i < j
              · rw [Nat.min_eq_left (by omega), Nat.max_eq_right (by omega)] at hap
                exact (Oper.apart_spec hap).1 t hd ht'
              · rw [Nat.min_eq_right (by omega), Nat.max_eq_left (by omega)] at hap
                exact (Oper.apart_spec hap).2.2 t hd ht'
        have hreads2 : ∀ t ∈ (opsOf ops j).looksAt ops.toArray, eget (lowEnv (s j) (envK dst vals (setOf listed) env ops.length)) t = eget (lowEnv (s j) (envK dst vals (fun _ => true) env j)) t := fun t ht' => by
          rw [lowEnv_get, lowEnv_get, hreads t ht']
        have hw : awanted ops (lowEnv (s j) (envK dst vals (setOf listed) env ops.length)) (opsOf ops j) = awanted ops (lowEnv (s j) (envK dst vals (fun _ => true) env j)) (opsOf ops j) := awanted_reads hreads2
        have hop : ∀ K, aop c (lowEnv (s j) (envK dst vals (setOf listed) env ops.length)) (opsOf ops j).op K = aop c (lowEnv (s j) (envK dst vals (fun _ => true) env j)) (opsOf ops j).op K := fun K => aop_congr (aval_reads hreads2) K
        generalize hS' : (fun i => if i = j then true else setOf listed i) = S' at *
        have hS'j : S' j = true := by rw [← hS']; simp
        have hS'n : ∀ i, i ≠ j → S' i = setOf listed i := fun i hi => by rw [← hS']; simp [hi]
        have hset : setOf (listed.setIfInBounds j true) = S' := by
          funext i
          simp only [setOf, Array.getD_eq_getD_getElem?, Array.getElem?_setIfInBounds]
          by_cases hij : j = i
          · subst hij
            rw [if_pos rfl, if_pos (by omega), hS'j]; rfl
          · rw [if_neg hij, hS'n i (Ne.symm hij)]
            simp [setOf, Array.getD_eq_getD_getElem?]
        have hSS' : ∀ i, setOf listed i = true → S' i = true := fun i hi => by
          by_cases hij : i = j
          · rw [hij]; exact hS'j
          · rw [hS'n i hij]; exact hi
        have henv' : EnvEq (eput (envK dst vals (setOf listed) env ops.length) (dst j) (vals j)) (envK dst vals S' env ops.length) := by
          refine ⟨by rw [eput_size, envK_size, envK_size], fun t => ?_⟩
          by_cases hdt : dst j = some t
          · have := envK_last (vals := vals) (env := env) hdt hS'j ops.length hjn (fun i h1 h2 hd => by
              rw [hS'n i (by omega)]
              rcases hpr i h2 (by omega) with hp | hap
              · rw [hp]; simp; omega
              · exfalso
                rw [Nat.min_eq_right (by omega), Nat.max_eq_left (by omega)] at hap
                rw [hdst'] at hd hdt
                exact (Oper.apart_spec hap).2.1 t hdt hd)
            rw [this, hdt]
            exact eput_eq (by rw [envK_size, envK_size])
          · rw [eput_ne hdt]
            refine envK_agree _ (fun i hi hd => ?_)
            exact (hS'n i (fun hij => hdt (by rw [← hij]; exact hd))).symm
        cases hPj : isP (opsOf ops j).op with
        | true =>
          obtain ⟨hPs, hPk⟩ := isP_stepV hPj (hcan' j hjn)
          have hw2 : awanted ops (envK dst vals (setOf listed) env ops.length) (opsOf ops j) = awanted ops (envK dst vals (fun _ => true) env j) (opsOf ops j) := awanted_reads hreads
          have hop2 : ∀ K, aop c (envK dst vals (setOf listed) env ops.length) (opsOf ops j).op K = aop c (envK dst vals (fun _ => true) env j) (opsOf ops j).op K := fun K => aop_congr (aval_reads hreads) K
          have hgo : stepV c call ops (opsOf ops j) (envK dst vals (setOf listed) env ops.length) (A (setOf listed)) = some (vals j, A (setOf listed)) := by
            rw [← hPk]
            simp only [stepV, hw2, hop2]
          have hfA : Fresh ρ' (A (setOf listed)) := fun i hi => by
            cases hq : ρ' (.own i) with
            | none => rfl
            | some p =>
              rw [hlen] at hi
              have := hinv i p (Nat.le_trans (hmono (Nat.zero_le _) (Nat.le_refl _)) hi) hq
              rcases keepS_iff.1 this with h3 | ⟨k, h3, h4, h5, h6⟩
              · have := hmono (Nat.zero_le ops.length) (Nat.le_refl _); omega
              · have := hmono (show k + 1 ≤ ops.length by omega) (Nat.le_refl _); omega
          refine stepV_sound hc hpost.rel hfA henv hoj hgo ?_
          intro x w2 ρ2 hv hp2
          have hAS : A S' = A (setOf listed) := by rw [← hS']; exact hAP _ j hjn hPj hSj
          refine ih (listed.setIfInBounds j true) ρ2 (a'.put (opsOf ops j).dst x) w2 (by simpa using hls) ?_ ?_ ?_ ?_ ?_ ?_
          · rw [hset]
            have := toCome_step hSj hS'j (fun i hi => (hS'n i hi).symm) hjn
            omega
          · rw [hset]
            intro k hk hSk i hi
            by_cases hij : i = j
            · rw [hij]; exact hS'j
            · rw [hS'n i hij]
              by_cases hkj : k = j
              · subst hkj; exact hpre i hi
              · exact hclosed k hk (by rw [← hS'n k hkj]; exact hSk) i hi
          · rw [← hdf]; cases (opsOf ops j).dst <;> rfl
          · rw [hset, hAS]; exact hpost.trans hp2
          · rw [hset]; exact EnvR.congr (by rw [hdst']; exact (henv.mono hp2.ext).put _ hv) henv'
          · rw [hset]
            intro i p h1 hq
            rcases hp2.new _ _ hq with e1 | ⟨k, hk, h2, h3⟩
            · exact keep_mono hSS' i (hinv i p h1 e1)
            · omega
        | false =>
          -- whose number it is
          have hdisj : ∀ i, s j ≤ i → i < s (j + 1) → keepS s ops.length (setOf listed) i = false := by
            intro i h1 h2
            cases hk : keepS s ops.length (setOf listed) i with
            | false => rfl
            | true =>
              exfalso
              rcases keepS_iff.1 hk with h3 | ⟨k, h3, h4, h5, h6⟩
              · have := hmono (Nat.zero_le j) (Nat.le_of_lt hjn); omega
              · rcases Nat.lt_trichotomy k j with hlt | rfl | hlt
                · have := hmono (show k + 1 ≤ j by omega) (Nat.le_of_lt hjn); omega
                · rw [hSj] at h4; cases h4
                · have := hmono (show j + 1 ≤ k by omega) (Nat.le_of_lt h3); omega
          obtain ⟨hlow, V', hsp3, hVl', hAA⟩ := hchk0 (setOf listed) j hjn hSj hPj hclosed hpre
          have hlenA := hlen (setOf listed)
          rw [hS'] at hAA
          generalize hAe : A (setOf listed) = An at *
          have hsn : s (j + 1) ≤ s ops.length := hmono (by omega) (Nat.le_refl _)
          have hsj : s j ≤ s (j + 1) := hmono1 j hjn
          have hVl : (An.take (s j)).length = s j := by rw [List.length_take]; omega
          have hVh : ∀ i, i < s j → hat (An.take (s j)) i = hat An i := fun i hi => by
            unfold hat; rw [List.getElem?_take, if_pos hi]
          have hgo : stepV c call ops (opsOf ops j) (lowEnv (s j) (envK dst vals (setOf listed) env ops.length)) (An.take (s j)) = some (vals j, V') := by
            rw [← hsp3]
            simp only [stepV, hw, hop]
          have hm' : H.length ≤ s j := by rw [← hs0]; exact hmono (Nat.zero_le _) (Nat.le_of_lt hjn)
          have hrelV := rel_part h hf hpost.ext hm' hpost.rel (fun i o e => by rw [← hVh i (hVl ▸ hat_lt e)]; exact e) hlow hVl
          have hfV : Fresh (AM.cut (s j) ρ') (An.take (s j)) := fun i hi => by
            unfold AM.cut
            rw [if_neg]
            simp [Loc.low]; omega
          refine stepV_sound hc hrelV hfV henv.cut hoj hgo ?_
          intro x w2 ρ2 hv hp2
          obtain ⟨hp3, he1, he2⟩ := post_part2 (A' := A S') hm' hpost hVh hVl hp2 (fun i h1 h2 => by
              rw [hVl'] at h2
              cases hq : ρ' (.own i) with
              | none => rfl
              | some p =>
                have := hinv i p (by have := hmono (Nat.zero_le j) (Nat.le_of_lt hjn); omega) hq
                rw [hdisj i h1 h2] at this; cases this) (fun i o => by
              rw [← hAA]
              unfold hat
              rcases Nat.lt_or_ge i V'.length with hi | hi
              · rw [List.getElem?_append_left hi]
                constructor
                · exact fun e => .inl ⟨hi, e⟩
                · rintro (⟨_, e⟩ | ⟨h1, _⟩)
                  · exact e
                  · omega
              · rw [List.getElem?_append_right hi, List.getElem?_drop, ← hVl', show V'.length + (i - V'.length) = i by omega]
                constructor
                · exact fun e => .inr ⟨hi, e⟩
                · rintro (⟨h1, _⟩ | ⟨_, e⟩)
                  · omega
                  · exact e) (by rw [← hAA, List.length_append, List.length_drop]; omega) (by rw [← hAA, List.length_append]; omega)
          refine ih (listed.setIfInBounds j true) (joinP (s j) V'.length ρ' ρ2) (a'.put (opsOf ops j).dst x) w2 (by simpa using hls) ?_ ?_ ?_ ?_ ?_ ?_
          · rw [hset]
            have := toCome_step hSj hS'j (fun i hi => (hS'n i hi).symm) hjn
            omega
          · rw [hset]
            intro k hk hSk i hi
            by_cases hij : i = j
            · rw [hij]; exact hS'j
            · rw [hS'n i hij]
              by_cases hkj : k = j
              · subst hkj; exact hpre i hi
              · exact hclosed k hk (by rw [← hS'n k hkj]; exact hSk) i hi
          · rw [← hdf]; cases (opsOf ops j).dst <;> rfl
          · rw [hset]; exact hp3
          · rw [hset]; exact EnvR.congr (by rw [hdst']; exact (henv.mono he1).put _ (fun u hu => (hv u hu).mono he2)) henv'
          · rw [hset]
            intro i p h1 hq
            simp only [joinP] at hq
            split at hq
            · rename_i hi
              rw [hVl'] at hi
              exact keepS_iff.2 (.inr ⟨j, hjn, hS'j, hi.1, hi.2⟩)
            · exact keep_mono hSS' i (hinv i p h1 hq)
  refine wp_region_any hm ?_
  have hS0 : ∀ i, setOf (Array.replicate ops.length false) i = false := fun i => by
    simp only [setOf, Array.getD_eq_getD_getElem?, Array.getElem?_replicate]
    split <;> rfl
  have hE0 : ∀ k, envK dst vals (setOf (Array.replicate ops.length false)) env k = env := by
    intro k
    induction k with
    | zero => rfl
    | succ k ihk => simp only [envK, hS0]; simpa using ihk
  have hT0 : ∀ k, toCome (setOf (Array.replicate ops.length false)) k = k := by
    intro k
    induction k with
    | zero => rfl
    | succ k ihk => simp only [toCome, hS0]; simp [ihk]
  refine main ops.length (Array.replicate ops.length false) ρ a _ (by simp) (hT0 _) (fun j _ hj => by rw [hS0] at hj; cases hj) rfl ?_ ?_ ?_
  · exact post_same (post_drew h) (hA0 _ hS0) (by rw [hlen, ← hs0]; exact hmono (Nat.zero_le _) (Nat.le_refl _))
  · rw [hE0]; exact he
  · intro i p h1 hq
    rw [hf i (by omega)] at hq; cases hq


/-! ### operations that only add, each told by what it looks at -/

theorem hat_ext {L M : AHeap} (hl : L.length = M.length) (h : ∀ b, hat L b = hat M b) : L = M := by
  apply List.ext_getElem?
  intro i
  have := h i
  unfold hat at this
  rcases Nat.lt_or_ge i L.length with hi | hi
  · rw [List.getElem?_eq_getElem hi, List.getElem?_eq_getElem (hl ▸ hi)] at this ⊢
    simpa using this
  · rw [List.getElem?_eq_none hi, List.getElem?_eq_none (hl ▸ hi)]
theorem hat_none {L : AHeap} {b : Nat} (h : L.length ≤ b) : hat L b = none := by
  unfold hat; rw [List.getElem?_eq_none h]
theorem hat_app {L M : AHeap} {b : Nat} : hat (L ++ M) b = if b < L.length then hat L b else hat M (b - L.length) := by
  unfold hat
  by_cases h : b < L.length
  · rw [if_pos h, List.getElem?_append_left h]
  · rw [if_neg h, List.getElem?_append_right (by omega)]
theorem hat_take {L : AHeap} {m b : Nat} : hat (L.take m) b = if b < m then hat L b else none := by
  unfold hat
  by_cases h : b < m
  · rw [if_pos h, List.getElem?_take, if_pos h]
  · rw [if_neg h, List.getElem?_take, if_neg h]
theorem hat_drop {L : AHeap} {m b : Nat} : hat (L.drop m) b = hat L (m + b) := by
  unfold hat; rw [List.getElem?_drop]
theorem hat_setI {L : AHeap} {i b : Nat} {o : Option AObj} : hat (L.set i o) b = if b = i ∧ i < L.length then o else hat L b := by
  split
  · rename_i h; obtain ⟨rfl, h⟩ := h; exact hat_eq o h
  · rename_i h
    by_cases hb : b = i
    · subst hb
      have : L.length ≤ b := by omega
      rw [hat_none this, hat_none (by simpa using this)]
    · exact hat_ne o hb
theorem heapLow_of {n : Nat} {L : AHeap} (h : ∀ b o, hat L b = some o → o.low n = true) : heapLow n L = true := by
  refine heapLow_iff.2 fun o ho => ?_
  obtain ⟨i, hi, he⟩ := List.getElem_of_mem ho
  refine h i o ?_
  unfold hat
  rw [List.getElem?_eq_getElem hi, he]

/-- what a listed operation looks at: its number, how many new things lie ahead of it, those that it needs, the one that it takes away, how many it makes -/
structure Lo where
  j : Nat
  ahead : Nat
  need : List Nat := []
  kill : Option Nat := none
  makes : Nat := 0

def mk1 (U : List Lo) (ops : List Oper) (j : Nat) : Nat := match U.find? (fun u => u.j == j) with
  | some u => u.makes
  | none => if isP (opsOf ops j).op then 0 else 1
def sg (U : List Lo) (ops : List Oper) : Nat → Nat
  | 0 => 0
  | j + 1 => sg U ops j + mk1 U ops j
def killOf (U : List Lo) (j : Nat) : Option Nat := (U.find? fun u => u.j == j).bind (·.kill)
def needOf (U : List Lo) (j : Nat) : List Nat := match U.find? (fun u => u.j == j) with | some u => u.need | none => []
def killK (H : AHeap) (q : Option Nat) (K : AHeap) : AHeap := match q with | none => K | some b => K.set (H.length + b) none

/-- is the last operation behind all others? -/
def lastOk (ops : List Oper) : Bool := !isP (opsOf ops (ops.length - 1)).op && (Nat.blt 0 ops.length && (List.range (ops.length - 1)).all fun i => isP (opsOf ops i).op || ((Region.before ops.toArray).getD (ops.length - 1) 0).testBit i)
def localOk (ops : List Oper) (U : List Lo) (last : Bool) : Bool :=
  edgesOk ops && (apartOk ops && ((!last || lastOk ops) && ((List.range ops.length).all fun j =>
    (isP (opsOf ops j).op && (U.find? fun u => u.j == j).isNone) || ((last && Nat.beq j (ops.length - 1) && (U.find? fun u => u.j == j).isNone) ||
      (match U.find? (fun u => u.j == j) with
       | none => plainOper (opsOf ops j)
       | some u => !isP (opsOf ops j).op && (Nat.beq u.ahead (sg U ops j) && (Nat.ble u.makes 1 && ((u.need.all fun b => (List.range j).any fun i => Nat.beq (mk1 U ops i) 1 && (Nat.beq (sg U ops i) b && ((Region.before ops.toArray).getD j 0).testBit i) && (List.range ops.length).all fun k => !(killOf U k == some b) || (Nat.beq k j || ((Region.before ops.toArray).getD k 0).testBit j)) &&
           (match u.kill with | none => true | some b => u.need.contains b)))))))))


theorem take_trace2 {call : Callee} {ops : List Oper} : ∀ {r : List Oper} {env : AEnv} {H : AHeap} {t : List (Option AV × AHeap)}, trace c call ops r env H = some t → ∀ m, m ≤ r.length →
    asteps c call ops (r.take m) env H = some (envK (fun i => (r.getD i default).dst) (fun i => (t.getD i dft).1) (fun _ => true) env m, heapsOf H t m)
  | r, env, H, t, ht, 0, _ => rfl
  | [], env, H, t, ht, m + 1, h => by simp at h
  | o :: r, env, H, t, ht, m + 1, h => by
    simp only [trace, Option.bind_eq_some_iff, Option.some.injEq] at ht
    obtain ⟨p, hp, t', ht, rfl⟩ := ht
    have ih := take_trace2 ht m (by simpa using h)
    simp only [List.take_succ_cons, asteps, astep_stepV, hp, Option.map_some, Option.bind_some]
    rw [ih, envK_shift]
    cases m <;> rfl

theorem maker_len {env : AEnv} {o : Op} (hp : plainOp o = true) (hn : isP o = false) {r : ARes} {H' : AHeap} (e : aop c env o H = some (r, H')) : H'.length = H.length + 1 := by
  unfold plainOp at hp
  split at hp <;> first | (simp [isP] at hn; done) | skip
  · simp only [aop, both, anew, Option.bind_eq_some_iff, Option.map_eq_some_iff] at e
    obtain ⟨z, hz, ⟨u, H1⟩, ⟨m, hm, e⟩, e2⟩ := e
    split at e
    · cases e; cases e2; simp [hnew]
    · cases e
  · simp only [aop, both, anew, Option.bind_eq_some_iff, Option.map_eq_some_iff] at e
    obtain ⟨z, hz, ⟨u, H1⟩, ⟨m, hm, e⟩, e2⟩ := e
    split at e
    · cases e; cases e2; simp [hnew]
    · cases e
  · simp only [aop, both, abuildSlice, Option.bind_eq_some_iff, Option.map_eq_some_iff] at e
    obtain ⟨l, hls, ⟨u, H1⟩, ⟨d, hd, e⟩, e2⟩ := e
    split at e
    · simp only [Option.bind_eq_some_iff] at e
      obtain ⟨m, hm, z, hz, e⟩ := e
      split at e
      · simp only [Option.map_eq_some_iff] at e
        obtain ⟨cs, hcs, e⟩ := e
        cases e; cases e2; simp [hnew]
      · split at e
        · cases e; cases e2; simp [hnew]
        · cases e
    · cases e
  · simp only [aop, Option.some.injEq, Prod.mk.injEq] at e
    obtain ⟨rfl, rfl⟩ := e
    simp [hnew]
  · simp only [aop, both, Option.bind_eq_some_iff] at e
    obtain ⟨u, hu, v, hv, e⟩ := e
    unfold amakeSlice at e
    split at e
    · simp only [Option.map_eq_some_iff, Option.bind_eq_some_iff] at e
      obtain ⟨⟨q, H1⟩, ⟨d, hd, e⟩, e2⟩ := e
      split at e
      · simp only [Option.bind_eq_some_iff] at e
        obtain ⟨i, hi, z, hz, e⟩ := e
        split at e
        · cases e; cases e2; simp [hnew]
        · cases e
      · cases e
    · cases e
  · cases hp

theorem sg_mono {U : List Lo} {ops : List Oper} : ∀ {i j : Nat}, i ≤ j → sg U ops i ≤ sg U ops j := by
  intro i j h
  induction j with
  | zero => obtain rfl : i = 0 := by omega
            exact Nat.le_refl _
  | succ j ih =>
    by_cases e : i = j + 1
    · subst e; exact Nat.le_refl _
    · exact Nat.le_trans (ih (by omega)) (Nat.le_add_right _ _)
theorem sg_inj {U : List Lo} {ops : List Oper} {i j : Nat} (h : sg U ops i = sg U ops j) (hi : mk1 U ops i = 1) (hj : mk1 U ops j = 1) : i = j := by
  rcases Nat.lt_trichotomy i j with h1 | h1 | h1
  · have := sg_mono (U := U) (ops := ops) (show i + 1 ≤ j by omega); simp only [sg, hi] at this; omega
  · exact h1
  · have := sg_mono (U := U) (ops := ops) (show j + 1 ≤ i by omega); simp only [sg, hj] at this; omega
theorem ifS {S : Nat → Bool} {i j : Nat} (h : S i = true) : (if i = j then true else S i) = true := by
  split
  · rfl
  · exact h
theorem killK_len {K : AHeap} {q : Option Nat} : (killK H q K).length = K.length := by cases q <;> simp [killK]
theorem killK_hat {K : AHeap} {q : Option Nat} {b : Nat} : hat (killK H q K) b = if H.length ≤ b ∧ q = some (b - H.length) then none else hat K b := by
  cases q with
  | none => simp [killK]
  | some x =>
    by_cases hb : b = H.length + x
    · subst hb
      rw [if_pos (show H.length ≤ H.length + x ∧ some x = some (H.length + x - H.length) from ⟨by omega, by congr 1; omega⟩)]
      simp only [killK, hat_setI]
      split
      · rfl
      · rename_i h; exact hat_none (by simp at h; omega)
    · rw [if_neg (fun e => hb (by have h2 := e.2; simp only [Option.some.injEq] at h2; omega))]
      simp only [killK, hat_setI]
      rw [if_neg (fun e => hb e.1)]

section
open Classical
variable (H : AHeap) (t : List (Option AV × AHeap)) (U : List Lo) (ops : List Oper) (q : Nat)
/-- who is there when those of S have been run -/
def Al (S : Nat → Bool) (b : Nat) : Prop := b < H.length ∨ ((∃ i, i < q ∧ S i = true ∧ mk1 U ops i = 1 ∧ b = H.length + sg U ops i) ∧ ∀ k, k < q → S k = true → killOf U k ≠ some (b - H.length))
noncomputable def Fo (b : Nat) : Option AObj := if b < H.length then hat H b else if h : ∃ i, i < q ∧ mk1 U ops i = 1 ∧ b = H.length + sg U ops i then hat (heapsOf H t (h.choose + 1)) b else none
noncomputable def AS (N : Nat) (S : Nat → Bool) : AHeap := (List.range N).map fun b => if Al H U ops q S b then Fo H t U ops q b else none
variable {H t U ops q}
theorem AS_len {N : Nat} {S : Nat → Bool} : (AS H t U ops q N S).length = N := by simp [AS]
theorem AS_hat {N : Nat} {S : Nat → Bool} {b : Nat} : hat (AS H t U ops q N S) b = if b < N ∧ Al H U ops q S b then Fo H t U ops q b else none := by
  unfold hat AS
  by_cases hb : b < N
  · rw [List.getElem?_eq_getElem (by simpa using hb)]
    simp only [List.getElem_map, List.getElem_range, hb, true_and]
  · rw [List.getElem?_eq_none (by simpa using hb), if_neg (fun e => hb e.1)]
theorem Fo_old {b : Nat} (h : b < H.length) : Fo H t U ops q b = hat H b := by simp [Fo, h]
theorem Fo_new {i : Nat} (hi : i < q) (h1 : mk1 U ops i = 1) : Fo H t U ops q (H.length + sg U ops i) = hat (heapsOf H t (i + 1)) (H.length + sg U ops i) := by
  have hx : ∃ i', i' < q ∧ mk1 U ops i' = 1 ∧ H.length + sg U ops i = H.length + sg U ops i' := ⟨i, hi, h1, rfl⟩
  unfold Fo
  rw [if_neg (by omega), dif_pos hx]
  have hc := hx.choose_spec
  rw [sg_inj (by omega) hc.2.1 h1]
end

theorem local_sound (hm : c.P.follows .mixedOrders = true) (call : Callee) (hc : CallOK c base w0 call) (id : Nat) (opsA : Array Oper) (env env' : AEnv) (H H' : AHeap) (U : List Lo) (last : Bool) (hs : localOk opsA.toList U last = true)
    (hst : asteps c call opsA.toList opsA.toList env H = some (env', H'))
    (hU : ∀ u ∈ U, ∃ ej Hj v news, asteps c call opsA.toList (opsA.toList.take u.j) env H = some (ej, Hj) ∧ news.length = u.makes ∧ ∀ K : AHeap, K.length = H.length + u.ahead → (∀ b, b < H.length → hat K b = hat H b) → (∀ b ∈ u.need, hat K (H.length + b) = hat Hj (H.length + b)) →
      stepV c call opsA.toList (opsOf opsA.toList u.j) ej K = some (v, killK H u.kill K ++ news))
    (ρ : Pl) (w : World) (a : Act) (h : Rel c base w0 ρ H w) (hf : Fresh ρ H) (he : EnvR ρ env a.tmps) : (Code.region id opsA true).wp c.P (Behind c base w0 ρ H w a .normal env' H') a w := by
  classical
  obtain ⟨t, ht⟩ := trace_of_steps hst
  have hend := endOf_steps ht
  rw [hst, Option.some.injEq] at hend
  have low := trace_low hc ht h hf he
  have rel := trace_rel hc ht h hf he
  generalize hops : opsA.toList = ops at *
  simp only [localOk, Bool.and_eq_true, Bool.or_eq_true, Bool.not_eq_true', List.all_eq_true, List.mem_range] at hs
  obtain ⟨hedge, hap, hlast, hall⟩ := hs
  have hcan : ∀ j, j < ops.length → stepV c call ops (opsOf ops j) (envT ops t env j) (heapsOf H t j) = some ((t.getD j dft).1, heapsOf H t (j + 1)) := fun j hj => trace_at ht j _ (opsOf_get hj)
  have hbef : ∀ i j, j < ops.length → ((Region.before ops.toArray).getD j 0).testBit i = true → i < j := by
    intro i j hj hb
    have hedge' : ∀ j, j < ops.length → ∀ e ∈ (opsOf ops j).after.toList, Region.binds .any e = true → e.on < j := by
      intro j hj e hej hb
      have := List.all_eq_true.1 (List.all_eq_true.1 hedge j (List.mem_range.2 hj)) e hej
      rw [hb] at this
      simpa using this
    have key : ∀ m j, j < m → j < ops.length → ((Region.before ops.toArray).getD j 0).testBit i = true → i < j := by
      intro m
      induction m with
      | zero => intro j h; omega
      | succ m ih =>
        intro j hjm hj hb
        obtain ⟨e, hej, hb', hq⟩ := before_bits (opsOf_get hj) (hedge' j hj) hb
        have hlt := hedge' j hj e hej hb'
        rcases hq with rfl | hq
        · exact hlt
        · exact Nat.lt_trans (ih e.on (by omega) (by omega) hq) hlt
    exact key (j + 1) j (by omega) hj hb
  generalize hq : (if last = true then ops.length - 1 else ops.length) = q
  have hqn : q ≤ ops.length := by subst hq; split <;> omega
  -- what is told of each local operation
  have find_none : ∀ {j}, (U.find? fun u => u.j == j) = none → killOf U j = none ∧ needOf U j = [] := fun {j} h => by simp [killOf, needOf, h]
  have fact : ∀ j, j < q → (isP (opsOf ops j).op = true ∧ mk1 U ops j = 0 ∧ killOf U j = none ∧ needOf U j = []) ∨ (isP (opsOf ops j).op = false ∧ plainOper (opsOf ops j) = true ∧ mk1 U ops j = 1 ∧ killOf U j = none ∧ needOf U j = []) ∨
      (isP (opsOf ops j).op = false ∧ ∃ u ∈ U, u.j = j ∧ u.ahead = sg U ops j ∧ mk1 U ops j = u.makes ∧ u.makes ≤ 1 ∧ killOf U j = u.kill ∧ needOf U j = u.need ∧
        (∀ b ∈ u.need, ∃ i, i < j ∧ mk1 U ops i = 1 ∧ sg U ops i = b ∧ ((Region.before ops.toArray).getD j 0).testBit i = true ∧ ∀ k, k < ops.length → killOf U k = some b → k = j ∨ ((Region.before ops.toArray).getD k 0).testBit j = true) ∧ ∀ b, u.kill = some b → b ∈ u.need) := by
    intro j hj
    rcases hall j (by omega) with ⟨h1, h2⟩ | ⟨⟨h1, h2⟩, h3⟩ | h1
    · have h2' := Option.isNone_iff_eq_none.1 h2
      exact .inl ⟨h1, by simp [mk1, h2', h1], find_none h2'⟩
    · subst hq; rw [h1, if_pos rfl] at hj
      have := Nat.eq_of_beq_eq_true h2; omega
    · cases hfd : U.find? (fun u => u.j == j) with
      | none =>
        rw [hfd] at h1
        cases hp : isP (opsOf ops j).op with
        | true => exact .inl ⟨rfl, by simp [mk1, hfd, hp], find_none hfd⟩
        | false => exact .inr (.inl ⟨rfl, h1, by simp [mk1, hfd, hp], find_none hfd⟩)
      | some u =>
        rw [hfd] at h1
        simp only [Bool.and_eq_true, List.all_eq_true, List.any_eq_true, List.mem_range, Bool.or_eq_true, Bool.not_eq_true', beq_eq_false_iff_ne, ne_eq] at h1
        obtain ⟨k0, k1, k2, k3, k4⟩ := h1
        have huj : u.j = j := by have := List.find?_some hfd; simpa using this
        refine .inr (.inr ⟨k0, u, List.mem_of_find?_eq_some hfd, huj, Nat.eq_of_beq_eq_true k1, by simp [mk1, hfd], by simpa using k2, by simp [killOf, hfd], by simp [needOf, hfd], ?_, ?_⟩)
        · intro b hb
          obtain ⟨i, hi, ⟨g1, g2, g3⟩, g4⟩ := k3 b hb
          refine ⟨i, hi, Nat.eq_of_beq_eq_true g1, Nat.eq_of_beq_eq_true g2, g3, fun k hk hkb => ?_⟩
          rcases g4 k hk with g | g | g
          · exact absurd hkb g
          · exact .inl (Nat.eq_of_beq_eq_true g)
          · exact .inr g
        · intro b hb
          rw [hb] at k4
          simpa using k4
  -- a thing taken away was made by what lies ahead
  have killer : ∀ k, k < q → ∀ b, killOf U k = some b → ∃ i, i < k ∧ mk1 U ops i = 1 ∧ sg U ops i = b ∧ ((Region.before ops.toArray).getD k 0).testBit i = true := by
    intro k hk b hb
    rcases fact k hk with ⟨_, _, h1, _⟩ | ⟨_, _, _, h1, _⟩ | ⟨_, u, _, _, _, _, _, h1, _, h2, h3⟩
    · rw [h1] at hb; cases hb
    · rw [h1] at hb; cases hb
    · rw [h1] at hb
      obtain ⟨i, g1, g2, g3, g4, _⟩ := h2 b (h3 b hb)
      exact ⟨i, g1, g2, g3, g4⟩
  have mk01 : ∀ j, j < q → mk1 U ops j ≤ 1 := by
    intro j hj
    rcases fact j hj with ⟨_, h1, _⟩ | ⟨_, _, h1, _⟩ | ⟨_, u, _, _, _, h1, h2, _⟩ <;> omega
  have step : ∀ j, j < q → (heapsOf H t j).length = H.length + sg U ops j → (∀ b, b < H.length → hat (heapsOf H t j) b = hat H b) → ∃ news : AHeap, news.length = mk1 U ops j ∧ heapsOf H t (j + 1) = killK H (killOf U j) (heapsOf H t j) ++ news ∧ ∀ K : AHeap, K.length = H.length + sg U ops j → (∀ b, b < H.length → hat K b = hat H b) →
      (∀ b ∈ needOf U j, hat K (H.length + b) = hat (heapsOf H t j) (H.length + b)) → stepV c call ops (opsOf ops j) (envT ops t env j) K = some ((t.getD j dft).1, killK H (killOf U j) K ++ news) := by
    intro j hj hl hold
    have hjn : j < ops.length := by omega
    rcases fact j hj with ⟨hp, h1, h2, h3⟩ | ⟨hn, hp, h1, h2, h3⟩ | ⟨hn, u, hu, rfl, h1, h2, h3, h4, h5, h6, h7⟩
    · obtain ⟨e1, e2⟩ := isP_stepV hp (hcan j hjn)
      refine ⟨[], by rw [h1]; rfl, by rw [h2, e1, List.append_nil]; rfl, fun K _ _ _ => ?_⟩
      rw [h2, List.append_nil]; exact e2 K
    · have hs := hcan j hjn
      have hpo : plainOp (opsOf ops j).op = true := by simp only [plainOper, Bool.and_eq_true] at hp; exact hp.1
      rw [stepV_plain hp, Option.bind_eq_some_iff] at hs
      obtain ⟨⟨r, K0⟩, ha, hs⟩ := hs
      obtain ⟨v, rfl, hv⟩ := plain_step hpo (low j (by omega)).2.1 ha
      have hlen := maker_len hpo hn ha
      simp only [Option.some.injEq, Prod.mk.injEq] at hs
      obtain ⟨hs1, hs2⟩ := hs
      rcases hv with ⟨e1, _⟩ | ⟨ob, e1, _, _, e2⟩
      · rw [e1] at hlen; omega
      · refine ⟨[some ob], by rw [h1]; rfl, by rw [h2, ← hs2, e1]; rfl, fun K hK _ _ => ?_⟩
        rw [h2, stepV_plain hp, e2 K (by rw [hK, hl]), ← hs1]
        rfl
    · obtain ⟨ej, Hj, v, news, g1, g2, g3⟩ := hU u hu
      have hT := take_trace2 ht u.j (by omega)
      rw [g1, Option.some.injEq, Prod.mk.injEq] at hT
      obtain ⟨rfl, rfl⟩ := hT
      have hc0 := g3 (heapsOf H t u.j) (by rw [hl, h1]) hold (fun _ _ => rfl)
      have hs := hcan u.j hjn
      simp only [envT] at hs
      rw [hc0, Option.some.injEq, Prod.mk.injEq] at hs
      refine ⟨news, by rw [g2, h2], by rw [h4, ← hs.2], fun K k1 k2 k3 => ?_⟩
      rw [h4, ← hs.1]
      exact g3 K (by rw [k1, h1]) k2 (by rw [← h5]; exact k3)
  have canon : ∀ j, j ≤ q → (heapsOf H t j).length = H.length + sg U ops j ∧ ∀ b, b < (heapsOf H t j).length → hat (heapsOf H t j) b = if Al H U ops q (fun i => decide (i < j)) b then Fo H t U ops q b else none := by
    intro j
    induction j with
    | zero =>
      intro _
      refine ⟨rfl, fun b hb => ?_⟩
      have hb' : b < H.length := hb
      rw [if_pos (.inl hb'), Fo_old hb']; rfl
    | succ j ih =>
      intro hj
      obtain ⟨i1, i2⟩ := ih (by omega)
      have hold : ∀ b, b < H.length → hat (heapsOf H t j) b = hat H b := fun b hb => by rw [i2 b (by omega), if_pos (.inl hb), Fo_old hb]
      obtain ⟨news, g1, g2, _⟩ := step j (by omega) i1 hold
      have hl : (heapsOf H t (j + 1)).length = H.length + sg U ops (j + 1) := by rw [g2, List.length_append, killK_len, i1, g1]; simp only [sg]; omega
      refine ⟨hl, fun b hb => ?_⟩
      rw [hl] at hb
      by_cases hbj : b < H.length + sg U ops j
      · rw [g2, hat_app, killK_len, i1, if_pos hbj, killK_hat, i2 b (by omega)]
        by_cases hk : H.length ≤ b ∧ killOf U j = some (b - H.length)
        · rw [if_pos hk, if_neg]
          rintro (h1 | ⟨_, h1⟩)
          · omega
          · exact h1 j (by omega) (by simp) hk.2
        · rw [if_neg hk]
          have : Al H U ops q (fun i => decide (i < j)) b ↔ Al H U ops q (fun i => decide (i < j + 1)) b := by
            constructor
            · rintro (h1 | ⟨⟨i, k1, k2, k3, k4⟩, h2⟩)
              · exact .inl h1
              · refine .inr ⟨⟨i, k1, by simp at k2 ⊢; omega, k3, k4⟩, fun k hk' hS e => ?_⟩
                by_cases hkj : k = j
                · subst hkj; exact hk ⟨by omega, e⟩
                · exact h2 k hk' (by simp at hS ⊢; omega) e
            · rintro (h1 | ⟨⟨i, k1, k2, k3, k4⟩, h2⟩)
              · exact .inl h1
              · refine .inr ⟨⟨i, k1, ?_, k3, k4⟩, fun k hk' hS e => h2 k hk' (by simp at hS ⊢; omega) e⟩
                simp at k2 ⊢
                by_cases hij : i = j
                · subst hij; omega
                · omega
          simp only [this]
      · have hm1 : mk1 U ops j = 1 := by have := mk01 j (by omega); simp only [sg] at hb; omega
        have hbe : b = H.length + sg U ops j := by simp only [sg, hm1] at hb; omega
        rw [if_pos, hbe, Fo_new (by omega) hm1]
        refine .inr ⟨⟨j, by omega, by simp, hm1, hbe⟩, fun k hk hS e => ?_⟩
        obtain ⟨i, k1, k2, k3, _⟩ := killer k hk _ e
        have : i = j := sg_inj (by omega) k2 hm1
        simp at hS; omega
  have mono1 : ∀ j, j < ops.length → (heapsOf H t j).length ≤ (heapsOf H t (j + 1)).length := by
    intro j hj
    obtain ⟨ρ1, w1, a1, hp, he1⟩ := rel j (by omega)
    obtain ⟨x, w2, ρ2, hv, hp2⟩ := stepV_rel hc hp.rel (hp.fresh hf) he1 (hcan j hj)
    exact hp2.len
  have hmono : ∀ {j k}, j ≤ k → k ≤ ops.length → (heapsOf H t j).length ≤ (heapsOf H t k).length := fun hjk hk => mono_of (s := fun k => (heapsOf H t k).length) (fun j hj => mono1 j hj) hjk hk
  have heq : ∀ (j : Nat), j ≤ q → ∀ S : Nat → Bool, (∀ i, i < q → mk1 U ops i = 1 ∨ killOf U i ≠ none → (S i = true ↔ i < j)) → (AS H t U ops q (heapsOf H t ops.length).length S).take (heapsOf H t j).length = heapsOf H t j := by
    intro j hj S hS
    obtain ⟨c1, c2⟩ := canon j hj
    have hN := hmono (show j ≤ ops.length by omega) (Nat.le_refl _)
    refine hat_ext (by rw [List.length_take, AS_len]; omega) fun b => ?_
    rw [hat_take]
    by_cases hb : b < (heapsOf H t j).length
    · rw [if_pos hb, AS_hat, c2 b hb]
      have : (b < (heapsOf H t ops.length).length ∧ Al H U ops q S b) ↔ Al H U ops q (fun i => decide (i < j)) b := by
        constructor
        · rintro ⟨_, h1 | ⟨⟨i, k1, k2, k3, k4⟩, h2⟩⟩
          · exact .inl h1
          · exact .inr ⟨⟨i, k1, by simpa using (hS i k1 (.inl k3)).1 k2, k3, k4⟩, fun k hk hk' e => h2 k hk ((hS k hk (.inr (by rw [e]; simp))).2 (by simpa using hk')) e⟩
        · rintro (h1 | ⟨⟨i, k1, k2, k3, k4⟩, h2⟩)
          · exact ⟨by omega, .inl h1⟩
          · exact ⟨by omega, .inr ⟨⟨i, k1, (hS i k1 (.inl k3)).2 (by simpa using k2), k3, k4⟩, fun k hk hk' e => h2 k hk (by simpa using (hS k hk (.inr (by rw [e]; simp))).1 hk') e⟩⟩
      simp only [this]
    · rw [if_neg hb, hat_none (by omega)]
  have hlq : last = true → q = ops.length - 1 ∧ 0 < ops.length ∧ isP (opsOf ops (ops.length - 1)).op = false ∧ ∀ i, i < ops.length - 1 → isP (opsOf ops i).op = true ∨ ((Region.before ops.toArray).getD (ops.length - 1) 0).testBit i = true := by
    intro hl
    rcases hlast with h1 | h1
    · rw [hl] at h1; cases h1
    · simp only [lastOk, Bool.and_eq_true, Bool.not_eq_true', List.all_eq_true, List.mem_range, Bool.or_eq_true, Nat.blt_eq] at h1
      exact ⟨by rw [← hq, if_pos hl], h1.2.1, h1.1, h1.2.2⟩
  have hnlq : last = false → q = ops.length := fun hl => by rw [← hq, hl]; simp
  have pfree : ∀ i, i < q → isP (opsOf ops i).op = true → mk1 U ops i = 0 ∧ killOf U i = none := by
    intro i hi hp
    rcases fact i hi with ⟨_, h1, h2, _⟩ | ⟨h1, _⟩ | ⟨h1, _⟩
    · exact ⟨h1, h2⟩
    · rw [hp] at h1; cases h1
    · rw [hp] at h1; cases h1
  subst hops
  refine anyG_sound hm call hc id opsA env env' H H' t ht hend.symm hedge hap mono1 (fun S => if (last && S (opsA.toList.length - 1)) = true then heapsOf H t opsA.toList.length else AS H t U opsA.toList q (heapsOf H t opsA.toList.length).length S) ?_ ?_ ?_ ?_ ?_ ρ w a h hf he
  all_goals generalize opsA.toList = ops at *
  · intro S
    split
    · rfl
    · exact AS_len
  · intro S hS i o
    simp only [hS, Bool.and_false, Bool.false_eq_true, if_false]
    rw [AS_hat]
    have : Al H U ops q S i ↔ i < H.length := by
      constructor
      · rintro (h1 | ⟨⟨i, k1, k2, _⟩, _⟩)
        · exact h1
        · rw [hS] at k2; cases k2
      · exact .inl
    simp only [this]
    by_cases hi : i < H.length
    · rw [if_pos ⟨by have := (low ops.length (Nat.le_refl _)).2.2; omega, hi⟩, Fo_old hi]
    · rw [if_neg (fun e => hi e.2), hat_none (by omega)]
  · intro S hS
    try simp only []
    split
    · rfl
    · rename_i hl
      have hlf : last = false := by
        cases hl' : last with
        | false => rfl
        | true =>
          obtain ⟨_, h0, _⟩ := hlq hl'
          rw [hl', hS _ (by omega)] at hl; simp at hl
      have hqe := hnlq hlf
      have := heq ops.length (by omega) S (fun i hi _ => ⟨fun _ => by omega, fun _ => hS i (by omega)⟩)
      refine Eq.trans ?_ this
      rw [List.take_of_length_le (by rw [AS_len]; exact Nat.le_refl _)]
  · intro S j hj hp hSj
    try simp only []
    have hne : last = true → j ≠ ops.length - 1 := by
      intro hl e
      obtain ⟨_, _, h1, _⟩ := hlq hl
      rw [← e, hp] at h1; cases h1
    have e1 : (last && (if ops.length - 1 = j then true else S (ops.length - 1))) = (last && S (ops.length - 1)) := by
      cases hl : last with
      | false => rfl
      | true => rw [if_neg (Ne.symm (hne hl))]
    rw [e1]
    split
    · rfl
    · refine hat_ext (by rw [AS_len, AS_len]) fun b => ?_
      rw [AS_hat, AS_hat]
      have hjq : j < q := by
        cases hl : last with
        | false => rw [hnlq hl]; exact hj
        | true => rw [(hlq hl).1]; have := hne hl; omega
      obtain ⟨p1, p2⟩ := pfree j hjq hp
      have : Al H U ops q (fun i => if i = j then true else S i) b ↔ Al H U ops q S b := by
        constructor
        · rintro (h1 | ⟨⟨i, k1, k2, k3, k4⟩, h2⟩)
          · exact .inl h1
          · refine .inr ⟨⟨i, k1, ?_, k3, k4⟩, fun k hk hS => h2 k hk (ifS hS)⟩
            by_cases hij : i = j
            · subst hij; omega
            · simpa only [hij, if_false] using k2
        · rintro (h1 | ⟨⟨i, k1, k2, k3, k4⟩, h2⟩)
          · exact .inl h1
          · refine .inr ⟨⟨i, k1, ifS k2, k3, k4⟩, fun k hk hS e => ?_⟩
            by_cases hkj : k = j
            · subst hkj; rw [p2] at e; cases e
            · exact h2 k hk (by simpa only [hkj, if_false] using hS) e
      simp only [this]
  · intro S j hj hSj hnP hclo hpre
    try simp only []
    by_cases hL : last = true ∧ j = ops.length - 1
    · -- the last one
      obtain ⟨hl, rfl⟩ := hL
      obtain ⟨l1, l2, l3, l4⟩ := hlq hl
      rw [hl]
      simp only [Bool.true_and, hSj, Bool.false_eq_true, if_false, if_true]
      have hA := heq (ops.length - 1) (by omega) S (fun i hi hh => ⟨fun _ => by omega, fun _ => by
        rcases l4 i (by omega) with hp | hb
        · obtain ⟨p1, p2⟩ := pfree i (by omega) hp
          rcases hh with hh | hh
          · omega
          · exact absurd p2 hh
        · exact hpre i hb⟩)
      rw [hA]
      refine ⟨(low _ (by omega)).1, heapsOf H t (ops.length - 1 + 1), ?_, rfl, ?_⟩
      · rw [← hcan _ hj]
        have hlow := (low (ops.length - 1) (by omega)).2.1
        exact stepV_congr (fun t' => hlow.eq t')
      · rw [show ops.length - 1 + 1 = ops.length by omega, List.drop_of_length_le (by rw [AS_len]; exact Nat.le_refl _), List.append_nil]
    · have hjq : j < q := by
        cases hl : last with
        | false => rw [hnlq hl]; exact hj
        | true => rw [(hlq hl).1]; have : j ≠ ops.length - 1 := fun e => hL ⟨hl, e⟩
                  omega
      have hlS : ∀ S' : Nat → Bool, S' (ops.length - 1) = (if ops.length - 1 = j then true else S (ops.length - 1)) ∨ S' (ops.length - 1) = S (ops.length - 1) → (last && S' (ops.length - 1)) = false := by
        intro S' hS'
        cases hl : last with
        | false => rfl
        | true =>
          obtain ⟨l1, l2, l3, l4⟩ := hlq hl
          have hne : j ≠ ops.length - 1 := fun e => hL ⟨hl, e⟩
          have hSn : S (ops.length - 1) = false := by
            cases hSn : S (ops.length - 1) with
            | false => rfl
            | true =>
              rcases l4 j (by omega) with hp | hb
              · rw [hp] at hnP; cases hnP
              · have := hclo (ops.length - 1) (by omega) hSn j hb
                rw [hSj] at this; cases this
          rcases hS' with e | e
          · rw [e, if_neg (Ne.symm hne), hSn]; rfl
          · rw [e, hSn]; rfl
      rw [hlS S (.inr rfl), hlS (fun i => if i = j then true else S i) (.inl rfl)]
      simp only [Bool.false_eq_true, if_false]
      obtain ⟨c1, c2⟩ := canon j (by omega)
      obtain ⟨d1, d2⟩ := canon (j + 1) hjq
      have hold : ∀ b, b < H.length → hat (heapsOf H t j) b = hat H b := fun b hb => by rw [c2 b (by omega), if_pos (.inl hb), Fo_old hb]
      obtain ⟨news, g1, g2, g3⟩ := step j hjq c1 hold
      have hNj := hmono (show j ≤ ops.length by omega) (Nat.le_refl _)
      have hNj1 := hmono (show j + 1 ≤ ops.length by omega) (Nat.le_refl _)
      have hKl : ((AS H t U ops q (heapsOf H t ops.length).length S).take (heapsOf H t j).length).length = H.length + sg U ops j := by
        rw [List.length_take, AS_len, c1] at *; omega
      have hKh : ∀ b, hat ((AS H t U ops q (heapsOf H t ops.length).length S).take (heapsOf H t j).length) b = if b < (heapsOf H t j).length ∧ Al H U ops q S b then Fo H t U ops q b else none := by
        intro b
        rw [hat_take, AS_hat]
        by_cases hb : b < (heapsOf H t j).length
        · rw [if_pos hb]
          have e1 : (b < (heapsOf H t ops.length).length ∧ Al H U ops q S b) ↔ (b < (heapsOf H t j).length ∧ Al H U ops q S b) := ⟨fun e => ⟨hb, e.2⟩, fun e => ⟨by omega, e.2⟩⟩
          simp only [e1]
        · rw [if_neg hb, if_neg (fun e => hb e.1)]
      have hko : ∀ b, b < H.length → hat ((AS H t U ops q (heapsOf H t ops.length).length S).take (heapsOf H t j).length) b = hat H b := fun b hb => by
        rw [hKh, if_pos ⟨by omega, .inl hb⟩, Fo_old hb]
      have hkn : ∀ b ∈ needOf U j, hat ((AS H t U ops q (heapsOf H t ops.length).length S).take (heapsOf H t j).length) (H.length + b) = hat (heapsOf H t j) (H.length + b) := by
        intro b hb
        rcases fact j hjq with ⟨_, _, _, h1⟩ | ⟨_, _, _, _, h1⟩ | ⟨_, u, hu, huj, h1, h2, h3, h4, h5, h6, h7⟩
        · rw [h1] at hb; cases hb
        · rw [h1] at hb; cases hb
        · rw [h5] at hb
          obtain ⟨i, i1, i2, i3, i4, i5⟩ := h6 b hb
          have hsg := sg_mono (U := U) (ops := ops) (show i + 1 ≤ j by omega)
          simp only [sg, i2] at hsg
          have hlt : H.length + b < (heapsOf H t j).length := by rw [c1]; omega
          rw [hKh, if_pos, c2 _ hlt, if_pos]
          · refine .inr ⟨⟨i, by omega, by simpa using i1, i2, by rw [i3]⟩, fun k hk hS e => ?_⟩
            rw [show H.length + b - H.length = b by omega] at e
            have hkj : k < j := by simpa using hS
            rcases i5 k (by omega) e with rfl | hb'
            · omega
            · have := hbef _ _ (show k < ops.length by omega) hb'; omega
          · refine ⟨hlt, .inr ⟨⟨i, by omega, hpre i i4, i2, by rw [i3]⟩, fun k hk hS e => ?_⟩⟩
            rw [show H.length + b - H.length = b by omega] at e
            rcases i5 k (by omega) e with rfl | hb'
            · rw [hSj] at hS; cases hS
            · have := hclo k (by omega) hS j hb'
              rw [hSj] at this; cases this
      have hgo := g3 _ hKl hko hkn
      refine ⟨heapLow_of fun b o e => ?_, killK H (killOf U j) ((AS H t U ops q (heapsOf H t ops.length).length S).take (heapsOf H t j).length) ++ news, ?_, ?_, ?_⟩
      · rw [hKh] at e
        split at e
        · rename_i hb
          obtain ⟨hb, hal⟩ := hb
          rcases hal with h1 | ⟨⟨i, k1, k2, k3, rfl⟩, _⟩
          · rw [Fo_old h1] at e
            exact AObj.low_mono (low j (by omega)).2.2 (heapLow_hat (low 0 (by omega)).1 e)
          · rw [Fo_new k1 k3] at e
            have hij : i < j := by
              rcases Nat.lt_or_ge i j with h1 | h1
              · exact h1
              · have := sg_mono (U := U) (ops := ops) h1; omega
            exact AObj.low_mono (hmono (show i + 1 ≤ j by omega) (by omega)) (heapLow_hat (low (i + 1) (by omega)).1 e)
        · cases e
      · rw [← hgo]
        have hlow := (low j (by omega)).2.1
        exact stepV_congr (fun t' => hlow.eq t')
      · rw [List.length_append, killK_len, hKl, g1, d1]; simp only [sg]; omega
      · have hsl : (killK H (killOf U j) ((AS H t U ops q (heapsOf H t ops.length).length S).take (heapsOf H t j).length) ++ news).length = (heapsOf H t (j + 1)).length := by
          rw [List.length_append, killK_len, hKl, g1, d1]; simp only [sg]; omega
        refine hat_ext (by rw [List.length_append, hsl, List.length_drop, AS_len, AS_len]; omega) fun b => ?_
        rw [hat_app, hsl, hat_drop, AS_hat, AS_hat (b := b)]
        by_cases hb1 : b < (heapsOf H t (j + 1)).length
        · rw [if_pos hb1, hat_app, killK_len, hKl, killK_hat, hKh]
          by_cases hb0 : b < H.length + sg U ops j
          · rw [if_pos hb0]
            by_cases hk : H.length ≤ b ∧ killOf U j = some (b - H.length)
            · rw [if_pos hk, if_neg]
              rintro ⟨_, h1 | ⟨_, h1⟩⟩
              · omega
              · exact h1 j hjq (by simp) hk.2
            · rw [if_neg hk]
              have : (b < (heapsOf H t j).length ∧ Al H U ops q S b) ↔ (b < (heapsOf H t ops.length).length ∧ Al H U ops q (fun i => if i = j then true else S i) b) := by
                constructor
                · rintro ⟨_, h1 | ⟨⟨i, k1, k2, k3, k4⟩, h2⟩⟩
                  · exact ⟨by omega, .inl h1⟩
                  · refine ⟨by omega, .inr ⟨⟨i, k1, ifS k2, k3, k4⟩, fun k hk' hS e => ?_⟩⟩
                    by_cases hkj : k = j
                    · subst hkj; exact hk ⟨by omega, e⟩
                    · exact h2 k hk' (by simpa only [hkj, if_false] using hS) e
                · rintro ⟨_, h1 | ⟨⟨i, k1, k2, k3, k4⟩, h2⟩⟩
                  · exact ⟨by omega, .inl h1⟩
                  · refine ⟨by omega, .inr ⟨⟨i, k1, ?_, k3, k4⟩, fun k hk' hS e => h2 k hk' (ifS hS) e⟩⟩
                    by_cases hij : i = j
                    · subst hij; omega
                    · simpa only [hij, if_false] using k2
              simp only [this]
          · have hm1 : mk1 U ops j = 1 := by have := mk01 j hjq; rw [d1] at hb1; simp only [sg] at hb1; omega
            have hbe : b = H.length + sg U ops j := by rw [d1] at hb1; simp only [sg, hm1] at hb1; omega
            rw [if_neg hb0, if_pos, hbe, Fo_new hjq hm1, g2, hat_app, killK_len, c1, if_neg (by omega)]
            refine ⟨(by omega : b < (heapsOf H t ops.length).length), .inr ⟨⟨j, hjq, by simp, hm1, hbe⟩, fun k hk hS e => ?_⟩⟩
            obtain ⟨i, k1, k2, k3, k4⟩ := killer k hk _ e
            have hij : i = j := sg_inj (by omega) k2 hm1
            subst hij
            by_cases hki : k = i
            · omega
            · have := hclo k (by omega) (by simpa only [hki, if_false] using hS) i k4
              rw [hSj] at this; cases this
        · rw [if_neg hb1, show (heapsOf H t (j + 1)).length + (b - (heapsOf H t (j + 1)).length) = b by omega]
          have : Al H U ops q S b ↔ Al H U ops q (fun i => if i = j then true else S i) b := by
            rw [d1] at hb1
            constructor
            · rintro (h1 | ⟨⟨i, k1, k2, k3, k4⟩, h2⟩)
              · exact .inl h1
              · refine .inr ⟨⟨i, k1, ifS k2, k3, k4⟩, fun k hk' hS e => ?_⟩
                by_cases hkj : k = j
                · subst hkj
                  obtain ⟨i', g1, g2, g3, _⟩ := killer k hk' _ e
                  have := sg_mono (U := U) (ops := ops) (show i' + 1 ≤ k + 1 by omega)
                  have e1 : sg U ops (i' + 1) = sg U ops i' + 1 := by simp only [sg, g2]
                  omega
                · exact h2 k hk' (by simpa only [hkj, if_false] using hS) e
            · rintro (h1 | ⟨⟨i, k1, k2, k3, k4⟩, h2⟩)
              · exact .inl h1
              · refine .inr ⟨⟨i, k1, ?_, k3, k4⟩, fun k hk' hS e => h2 k hk' (ifS hS) e⟩
                by_cases hij : i = j
                · subst hij
                  have e1 : sg U ops (i + 1) = sg U ops i + 1 := by simp only [sg, k3]
                  omega
                · simpa only [hij, if_false] using k2
          simp only [this]

variable {κ : Kn} {T : FuncId → Spec} {env : AEnv} {K : AExit → AEnv → AHeap → Prop}
/-- A REGION THAT DRAWS ITS ORDER over any heap: operations that only add (or take away what is new), each told by what it looks at; the last one may be any, if it is behind all others -/
theorem D.local {id : Nat} {ops : Array Oper} {env' : AEnv} {H' : AHeap} (U : List Lo) (last : Bool) (hs : localOk ops.toList U last = true) (h : asteps κ.c (callT κ T) ops.toList ops.toList env H = some (env', H'))
    (hU : ∀ u ∈ U, ∃ ej Hj v news, asteps κ.c (callT κ T) ops.toList (ops.toList.take u.j) env H = some (ej, Hj) ∧ news.length = u.makes ∧ ∀ K : AHeap, K.length = H.length + u.ahead → (∀ b, b < H.length → hat K b = hat H b) → (∀ b ∈ u.need, hat K (H.length + b) = hat Hj (H.length + b)) →
      stepV κ.c (callT κ T) ops.toList (opsOf ops.toList u.j) ej K = some (v, killK H u.kill K ++ news))
    (k : K .normal env' H') : D κ (.region id ops true) env H K :=
  ⟨.normal, env', H', k, fun ρ w a hr hf he => local_sound κ.mixed _ (callT_ok T) id ops env env' H H' U last hs h hU ρ w a hr hf he⟩
end Go.AM

/-
  REGIONS THAT DRAW THEIR ORDER, more rules over any heap (own work): regions in which nothing moves; movers in a row beside looks; a call and then new things.
-/
namespace Go.AM
open Go.RowKit
set_option linter.unusedSimpArgs false
set_option linter.unusedVariables false

variable {c : Ctx} {base : Nat} {w0 w : World} {ρ : Pl} {H : AHeap}

theorem before_lt {ops : List Oper} (hedge : edgesOk ops = true) : ∀ i j, j < ops.length → ((Region.before ops.toArray).getD j 0).testBit i = true → i < j := by
  intro i j hj hb
  have hedge' : ∀ j, j < ops.length → ∀ e ∈ (opsOf ops j).after.toList, Region.binds .any e = true → e.on < j := by
    intro j hj e hej hb
    have := List.all_eq_true.1 (List.all_eq_true.1 hedge j (List.mem_range.2 hj)) e hej
    rw [hb] at this
    simpa using this
  have key : ∀ m j, j < m → j < ops.length → ((Region.before ops.toArray).getD j 0).testBit i = true → i < j := by
    intro m
    induction m with
    | zero => intro j h; omega
    | succ m ih =>
      intro j hjm hj hb
      obtain ⟨e, hej, hb', hq⟩ := before_bits (opsOf_get hj) (hedge' j hj) hb
      have hlt := hedge' j hj e hej hb'
      rcases hq with rfl | hq
      · exact hlt
      · exact Nat.lt_trans (ih e.on (by omega) (by omega) hq) hlt
  exact key (j + 1) j (by omega) hj hb

/-! ### nothing moves -/
def calmOk (ops : List Oper) (ks : List Nat) : Bool := edgesOk ops && (apartOk ops && (List.range ops.length).all fun i => quiet (opsOf ops i).op || ks.contains i)
variable {κ : Kn} {T : FuncId → Spec} {env : AEnv} {K : AExit → AEnv → AHeap → Prop}
theorem D.calm {id : Nat} {ops : Array Oper} {env' : AEnv} {H' : AHeap} (ks : List Nat) (hs : calmOk ops.toList ks = true) (h : asteps κ.c (callT κ T) ops.toList ops.toList env H = some (env', H'))
    (hk : ∀ k ∈ ks, ∃ e, asteps κ.c (callT κ T) ops.toList (ops.toList.take (k + 1)) env H = some (e, H)) (k : K .normal env' H') : D κ (.region id ops true) env H K := by
  refine ⟨.normal, env', H', k, fun ρ w a hr hf he => ?_⟩
  obtain ⟨t, ht⟩ := trace_of_steps h
  refine order_sound κ.mixed _ (callT_ok T) id ops env env' H H' ?_ h ρ w a hr hf he
  simp only [drawOk, ht]
  generalize ops.toList = os at *
  simp only [calmOk, Bool.and_eq_true, List.all_eq_true, List.mem_range] at hs
  obtain ⟨h1, h2, h3⟩ := hs
  obtain ⟨f1, f2, f3⟩ := trace_facts ht
  have hheap := heap_trace ht
  have hat : ∀ j, j < os.length → os[j]? = some (opsOf os j) := fun j hj => opsOf_get hj
  have hH : ∀ m, m ≤ os.length → heapsOf H t m = H := by
    intro m
    induction m with
    | zero => intro _; rfl
    | succ m ih =>
      intro hm
      have hq := h3 m (by omega)
      simp only [Bool.or_eq_true] at hq
      rcases hq with hq | hq
      · have hst := f1 m _ (hat m (by omega))
        rw [hheap m (by omega)] at hst
        have : mvOf (opsOf os m).op (heapsOf H t m) (t.getD m dft).2 = false := by simp [mvOf, hq]
        have := mvOf_same this hst
        show (t.getD m dft).2 = _
        rw [this]; exact ih (by omega)
      · obtain ⟨e, hpre⟩ := hk m (by simpa using hq)
        obtain ⟨e2, hpre2⟩ := take_trace ht (m + 1) hm
        rw [hpre, Option.some.injEq, Prod.mk.injEq] at hpre2
        exact hpre2.2.symm
  simp only [regOk, Bool.and_eq_true]
  refine ⟨h1, h2, List.all_eq_true.2 fun i hi => ?_⟩
  rw [List.mem_range] at hi
  rw [Bool.or_eq_true]
  refine .inl ?_
  rw [f2 i hi, hheap i (by omega), hH i (by omega)]
  have : (t.getD i dft).2 = H := hH (i + 1) (by omega)
  rw [this, mvOf_self]; rfl

/-! ### movers in a row, and looks beside them -/
def fixJ (ops : List Oper) (j : Nat) : Bool := ((opsOf ops j).looksAt ops.toArray).all fun a => (List.range ops.length).all fun i => Nat.blt i j || !((opsOf ops i).dst == some a)
def rowOk (ops : List Oper) (F ks : List Nat) : Bool :=
  edgesOk ops && (apartOk ops && (F.all (fixJ ops) && (List.range ops.length).all fun i => quiet (opsOf ops i).op || (F.contains i || (ks.contains i && (List.range ops.length).all fun j => Nat.beq i j || (inOrder (Region.before ops.toArray) i j || (isP (opsOf ops j).op || F.contains j))))))
theorem fixJ_env {call : Callee} {ops : List Oper} {vals : Nat → Option AV} {env : AEnv} {j : Nat} (hj : j < ops.length) (h : fixJ ops j = true) (K : AHeap) :
    stepV c call ops (opsOf ops j) (envK (fun i => (ops.getD i default).dst) vals (fun _ => true) env ops.length) K = stepV c call ops (opsOf ops j) (envK (fun i => (ops.getD i default).dst) vals (fun _ => true) env j) K := by
  have hr : ∀ a ∈ (opsOf ops j).looksAt ops.toArray, eget (envK (fun i => (ops.getD i default).dst) vals (fun _ => true) env ops.length) a = eget (envK (fun i => (ops.getD i default).dst) vals (fun _ => true) env j) a := by
    intro a ha
    simp only [fixJ, List.all_eq_true, List.mem_range, Bool.or_eq_true, Bool.not_eq_true', beq_eq_false_iff_ne] at h
    refine envK_after ops.length (by omega) fun i h1 h2 => ?_
    rcases h a ha i h2 with h3 | h3
    · rw [Nat.blt_eq] at h3; omega
    · exact h3
  simp only [stepV, awanted_reads hr, aop_congr (aval_reads hr)]
/-- ks: who may move, with the heaps behind; F: who looks, the same at each heap that may be there -/
theorem D.row {id : Nat} {ops : Array Oper} {env' : AEnv} {H' : AHeap} (F : List Nat) (ks : List (Nat × AHeap)) (hs : rowOk ops.toList F (ks.map (·.1)) = true)
    (h : asteps κ.c (callT κ T) ops.toList ops.toList env H = some (env', H'))
    (hk : ∀ p ∈ ks, ∃ e, asteps κ.c (callT κ T) ops.toList (ops.toList.take (p.1 + 1)) env H = some (e, p.2))
    (hF : ∀ j ∈ F, ∃ v, ∀ X ∈ H :: (ks.filter fun p => !((Region.before ops.toList.toArray).getD p.1 0).testBit j).map (·.2), stepV κ.c (callT κ T) ops.toList (opsOf ops.toList j) env' X = some (v, X))
    (k : K .normal env' H') : D κ (.region id ops true) env H K := by
  refine ⟨.normal, env', H', k, fun ρ w a hr hf he => ?_⟩
  obtain ⟨t, ht⟩ := trace_of_steps h
  refine order_sound κ.mixed _ (callT_ok T) id ops env env' H H' ?_ h ρ w a hr hf he
  simp only [drawOk, ht]
  generalize ops.toList = os at *
  simp only [rowOk, Bool.and_eq_true, List.all_eq_true, List.mem_range] at hs
  obtain ⟨h1, h2, h3, h4⟩ := hs
  obtain ⟨f1, f2, f3⟩ := trace_facts ht
  have hE : envK (fun i => (os.getD i default).dst) (fun i => (t.getD i dft).1) (fun _ => true) env os.length = env' := by
    rw [f3, Option.some.injEq, Prod.mk.injEq] at h; exact h.1
  have hheap := heap_trace ht
  have hat : ∀ j, j < os.length → os[j]? = some (opsOf os j) := fun j hj => opsOf_get hj
  have hkh : ∀ m, m < os.length → quiet (opsOf os m).op = false → m ∉ F → ∃ p ∈ ks, p.1 = m ∧ heapsOf H t (m + 1) = p.2 := by
    intro m hm hqf hnF
    have hq := h4 m hm
    simp only [Bool.or_eq_true, Bool.and_eq_true, hqf, Bool.false_eq_true, false_or] at hq
    rcases hq with hq | hq
    · exact absurd (by simpa using hq) hnF
    · have hq' : m ∈ ks.map (·.1) := by simpa using hq.1
      obtain ⟨p, hp, rfl⟩ := List.mem_map.1 hq'
      obtain ⟨e, hpre⟩ := hk p hp
      obtain ⟨e2, hpre2⟩ := take_trace ht (p.1 + 1) (by omega)
      rw [hpre, Option.some.injEq, Prod.mk.injEq] at hpre2
      exact ⟨p, hp, rfl, hpre2.2.symm⟩
  -- what a look tells
  have hlook : ∀ j, j < os.length → j ∈ F → (heapsOf H t j = H ∨ ∃ p ∈ ks, p.1 < j ∧ heapsOf H t j = p.2) → ∃ v, (t.getD j dft) = (v, heapsOf H t j) ∧ ∀ X ∈ H :: (ks.filter fun p => !((Region.before os.toArray).getD p.1 0).testBit j).map (·.2), stepV κ.c (callT κ T) os (opsOf os j) (envK (fun i => (os.getD i default).dst) (fun i => (t.getD i dft).1) (fun _ => true) env j) X = some (v, X) := by
    intro j hj' hjF hin
    obtain ⟨v, hv⟩ := hF j hjF
    have hv2 : ∀ X ∈ H :: (ks.filter fun p => !((Region.before os.toArray).getD p.1 0).testBit j).map (·.2), stepV κ.c (callT κ T) os (opsOf os j) (envK (fun i => (os.getD i default).dst) (fun i => (t.getD i dft).1) (fun _ => true) env j) X = some (v, X) := by
      intro X hX
      rw [← fixJ_env hj' (h3 j hjF) X, hE]
      exact hv X hX
    have hst := f1 j _ (hat j hj')
    have hjm : heapsOf H t j ∈ H :: (ks.filter fun p => !((Region.before os.toArray).getD p.1 0).testBit j).map (·.2) := by
      rcases hin with e | ⟨p, hp, hlt, e⟩
      · rw [e]; exact List.mem_cons_self
      · refine List.mem_cons_of_mem _ (List.mem_map.2 ⟨p, List.mem_filter.2 ⟨hp, ?_⟩, e.symm⟩)
        cases hb : ((Region.before os.toArray).getD p.1 0).testBit j with
        | false => rfl
        | true => have := before_lt h1 j p.1 (by omega) hb; omega
    rw [hheap j (by omega), hv2 _ hjm, Option.some.injEq] at hst
    exact ⟨v, hst.symm, hv2⟩
  -- the heap ahead of j
  have hin : ∀ m, m ≤ os.length → heapsOf H t m = H ∨ ∃ p ∈ ks, p.1 < m ∧ heapsOf H t m = p.2 := by
    intro m
    induction m with
    | zero => intro _; exact .inl rfl
    | succ m ih =>
      intro hm
      have up : heapsOf H t (m + 1) = heapsOf H t m → heapsOf H t (m + 1) = H ∨ ∃ p ∈ ks, p.1 < m + 1 ∧ heapsOf H t (m + 1) = p.2 := by
        intro e1
        rw [e1]
        rcases ih (by omega) with e | ⟨p, hp, hlt, e⟩
        · exact .inl e
        · exact .inr ⟨p, hp, by omega, e⟩
      cases hq : quiet (opsOf os m).op with
      | true =>
        have hst := f1 m _ (hat m (by omega))
        rw [hheap m (by omega)] at hst
        have : mvOf (opsOf os m).op (heapsOf H t m) (t.getD m dft).2 = false := by simp [mvOf, hq]
        exact up (mvOf_same this hst)
      | false =>
        by_cases hmF : m ∈ F
        · obtain ⟨v, e, _⟩ := hlook m (by omega) hmF (ih (by omega))
          exact up (congrArg Prod.snd e)
        · obtain ⟨p, hp, e1, e2⟩ := hkh m (by omega) hq hmF
          exact .inr ⟨p, hp, by omega, e2⟩
  have hmvF : ∀ j, j < os.length → j ∈ F → (moves os H t).getD j false = false := by
    intro j hj hjF
    obtain ⟨v, e, _⟩ := hlook j hj hjF (hin j (by omega))
    rw [f2 j hj, hheap j (by omega), e]
    exact mvOf_self _ _
  simp only [regOk, Bool.and_eq_true]
  refine ⟨h1, h2, List.all_eq_true.2 fun i hi => ?_⟩
  rw [List.mem_range] at hi
  have hq := h4 i hi
  simp only [Bool.or_eq_true, Bool.and_eq_true] at hq ⊢
  rcases hq with hq | hq | ⟨_, hq⟩
  · exact .inl (by rw [moves_quiet os H t i hq]; rfl)
  · exact .inl (by rw [hmvF i hi (by simpa using hq)]; rfl)
  · refine .inr (List.all_eq_true.2 fun j hj => ?_)
    have hj' := List.mem_range.1 hj
    have hq := List.all_eq_true.1 hq j hj
    simp only [Bool.or_eq_true] at hq ⊢
    rcases hq with e | e | e | e
    · exact .inl e
    · exact .inr (.inl e)
    · refine .inr (.inr ?_)
      simp only [still, moves_quiet os H t j (isP_quiet e), e, Bool.not_false, Bool.true_or, Bool.true_and]
    · refine .inr (.inr ?_)
      have hjF : j ∈ F := by simpa using e
      obtain ⟨v, hst, hv2⟩ := hlook j hj' hjF (hin j (by omega))
      have hmv := hmvF j hj' hjF
      simp only [still, hmv, Bool.not_false, Bool.true_and]
      rw [Bool.or_eq_true]
      refine .inr (List.all_eq_true.2 fun k hk' => ?_)
      rw [List.mem_range] at hk'
      have hsame : sameStep (some (v, heapsOf H t k)) v (heapsOf H t k) = true := by cases v <;> simp [sameStep, AV.beq_refl]
      rw [Bool.or_eq_true, Bool.or_eq_true]
      cases hmk : (k == 0 || (moves os H t).getD (k - 1) false) with
      | false => exact .inl (.inl rfl)
      | true =>
        cases hps : possible os (Region.before os.toArray) (moves os H t) k j with
        | false => exact .inl (.inr rfl)
        | true =>
          refine .inr ?_
          have hkm : heapsOf H t k ∈ H :: (ks.filter fun p => !((Region.before os.toArray).getD p.1 0).testBit j).map (·.2) := by
            cases k with
            | zero => exact List.mem_cons_self
            | succ m =>
              have hmm : (moves os H t).getD m false = true := by simpa using hmk
              have hqm : quiet (opsOf os m).op = false := by
                cases hq : quiet (opsOf os m).op with
                | false => rfl
                | true => rw [moves_quiet os H t m hq] at hmm; cases hmm
              have hmnF : m ∉ F := fun e => by rw [hmvF m (by omega) e] at hmm; cases hmm
              obtain ⟨p, hp, e1, e2⟩ := hkh m (by omega) hqm hmnF
              refine List.mem_cons_of_mem _ (List.mem_map.2 ⟨p, List.mem_filter.2 ⟨hp, ?_⟩, e2.symm⟩)
              have := List.all_eq_true.1 hps m (List.mem_range.2 (by omega))
              simp only [hmm, Bool.not_true, Bool.false_or, Bool.and_eq_true, Bool.or_eq_true, Bool.not_eq_true', decide_eq_true_eq] at this
              rw [e1]
              rcases this.2 with h' | h'
              · rw [h']; rfl
              · omega
          rw [hheap k (by omega), hv2 _ hkm, hst]
          exact hsame
end Go.AM

/-
  A REGION THAT DRAWS ITS ORDER with one call that only adds, and new things behind it in the text (own work).
-/
namespace Go.AM
open Go.RowKit
set_option linter.unusedSimpArgs false
set_option linter.unusedVariables false

variable {c : Ctx} {base : Nat} {w0 w : World} {ρ : Pl} {H : AHeap}

def oneCallOk (ops : List Oper) (q : Nat) : Bool := edgesOk ops && (apartOk ops && (Nat.blt q ops.length && (List.range ops.length).all fun j => if Nat.beq j q then true else plainOper (opsOf ops j) && (!Nat.blt j q || isP (opsOf ops j).op)))

variable {κ : Kn} {T : FuncId → Spec} {env : AEnv} {K : AExit → AEnv → AHeap → Prop}
theorem D.oneCall {id : Nat} {ops : Array Oper} {env' : AEnv} {H' H1 : AHeap} (q : Nat) (hs : oneCallOk ops.toList q = true) (h : asteps κ.c (callT κ T) ops.toList ops.toList env H = some (env', H'))
    (hq : ∃ e, asteps κ.c (callT κ T) ops.toList (ops.toList.take (q + 1)) env H = some (e, H1)) (hk : Keep H H1 (fun _ => False)) (k : K .normal env' H') : D κ (.region id ops true) env H K := by
  refine ⟨.normal, env', H', k, fun ρ w a hr hf he => ?_⟩
  obtain ⟨t, ht⟩ := trace_of_steps h
  have h2 := endOf_steps ht
  rw [h, Option.some.injEq] at h2
  refine free_sound κ.mixed _ (callT_ok T) id ops env env' H H' t ht ?_ h2.symm ρ w a hr hf he
  have low := trace_low (callT_ok T) ht hr hf he
  have hst := trace_at ht
  generalize ops.toList = ops at *
  simp only [oneCallOk, Bool.and_eq_true, List.all_eq_true, List.mem_range] at hs
  obtain ⟨h1, h2', h3, h4⟩ := hs
  rw [Nat.blt_eq] at h3
  have h4' : ∀ j, j < ops.length → j ≠ q → plainOper (opsOf ops j) = true ∧ (j < q → isP (opsOf ops j).op = true) := by
    intro j hj hne
    have := h4 j hj
    rw [if_neg (fun e => hne (Nat.eq_of_beq_eq_true e))] at this
    simp only [Bool.and_eq_true, Bool.or_eq_true, Bool.not_eq_true'] at this
    refine ⟨this.1, fun hlt => ?_⟩
    rcases this.2 with g | g
    · have : Nat.blt j q = true := by rw [Nat.blt_eq]; exact hlt
      rw [this] at g; cases g
    · exact g
  have hat' : ∀ j, j < ops.length → ops[j]? = some (opsOf ops j) := fun j hj => opsOf_get hj
  have hHq : ∀ j, j ≤ q → heapsOf H t j = H := by
    intro j
    induction j with
    | zero => intro _; rfl
    | succ j ih =>
      intro hj
      obtain ⟨e1, _⟩ := isP_stepV ((h4' j (by omega) (by omega)).2 (by omega)) (hst j _ (hat' j (by omega)))
      exact Eq.trans e1 (ih (by omega))
  have hH1 : heapsOf H t (q + 1) = H1 := by
    obtain ⟨e, hpre⟩ := hq
    obtain ⟨e2, hpre2⟩ := take_trace ht (q + 1) (by omega)
    rw [hpre, Option.some.injEq, Prod.mk.injEq] at hpre2
    exact hpre2.2.symm
  have hpre1 : H1.take H.length = H := by
    refine hat_ext (by rw [List.length_take]; have := hk.1; omega) fun b => ?_
    rw [hat_take]
    by_cases hb : b < H.length
    · rw [if_pos hb, hk.2 b hb (fun e => e)]
    · rw [if_neg hb, hat_none (by omega)]
  simp only [freeOk, Bool.and_eq_true, List.all_eq_true, List.mem_range]
  refine ⟨h1, by simpa only [apartOk, List.all_eq_true, List.mem_range] using h2', fun j hj => ?_⟩
  obtain ⟨i2, i1, i0⟩ := low j (by omega)
  simp only [freeAt, Bool.and_eq_true]
  by_cases hjq : j = q
  · subst hjq
    have e0 := hHq j (Nat.le_refl _)
    have hm : mask (keepS (fun k => (heapsOf H t k).length) ops.length fun i => ((Region.before ops.toArray).getD j 0).testBit i) 0 (heapsOf H t j) = heapsOf H t j := by
      refine mask_all fun i hi => ?_
      rw [e0] at hi
      exact keepS_iff.2 (.inl hi)
    rw [hm]
    refine ⟨?_, i2, ?_⟩
    · rw [hH1, e0, hpre1]; exact heapEq_refl _
    · have hm2 : mask (keepS (fun k => (heapsOf H t k).length) ops.length fun i => ((Region.before ops.toArray).getD j 0).testBit i || Nat.beq i j) 0 (heapsOf H t (j + 1)) = heapsOf H t (j + 1) := by
        refine mask_all fun i hi => ?_
        rcases Nat.lt_or_ge i H.length with h' | h'
        · exact keepS_iff.2 (.inl h')
        · exact keepS_iff.2 (.inr ⟨j, hj, by simp, by rw [e0]; exact h', hi⟩)
      rw [hm2, stepV_congr (fun t' => i1.eq t')]
      rw [hst j _ (hat' j hj)]
      show sameStep (some ((t.getD j dft).1, heapsOf H t (j + 1))) _ _ = true
      cases (t.getD j dft).1 <;> simp [sameStep, AV.beq_refl, heapEq_refl]
  · obtain ⟨hp, _⟩ := h4' j hj hjq
    have hop : plainOp (opsOf ops j).op = true := by simp only [plainOper, Bool.and_eq_true] at hp; exact hp.1
    have hs' := hst j _ (hat' j hj)
    rw [stepV_plain hp, Option.bind_eq_some_iff] at hs'
    obtain ⟨⟨r, K0⟩, ha, hs'⟩ := hs'
    obtain ⟨v, rfl, hv⟩ := plain_step hop i1 ha
    simp only [Option.some.injEq] at hs'
    have e1 : (t.getD j dft).1 = some v := (congrArg Prod.fst hs').symm
    have e2 : heapsOf H t (j + 1) = K0 := (congrArg Prod.snd hs').symm
    have keep : ∀ (B : Nat → Bool) i, i < (heapsOf H t j).length → keepS (fun k => (heapsOf H t k).length) ops.length B i = keepS (fun k => (heapsOf H t k).length) ops.length (fun k => B k || Nat.beq k j) i := by
      intro B i hi
      rw [Bool.eq_iff_iff, keepS_iff, keepS_iff]
      constructor
      · rintro (h | ⟨k, a1, a2, a3⟩)
        · exact .inl h
        · exact .inr ⟨k, a1, by rw [a2]; rfl, a3⟩
      · rintro (h | ⟨k, a1, a2, a3⟩)
        · exact .inl h
        · refine .inr ⟨k, a1, ?_, a3⟩
          rw [Bool.or_eq_true] at a2
          rcases a2 with a2 | a2
          · exact a2
          · have := Nat.eq_of_beq_eq_true a2; subst this; omega
    refine ⟨?_, heapLow_iff.2 fun o ho => heapLow_iff.1 i2 o (mask_mem ho), ?_⟩
    · rw [e2]
      rcases hv with ⟨g, _, _⟩ | ⟨ob, g, _, _, _⟩
      · rw [g, List.take_of_length_le (Nat.le_refl _)]; exact heapEq_refl _
      · rw [g, List.take_left' rfl]; exact heapEq_refl _
    · rw [stepV_plain hp, plain_congr (fun t => i1.eq t) hop, e1]
      rcases hv with ⟨g, _, e3⟩ | ⟨ob, g, _, _, e3⟩
      · rw [e3, e2, g, mask_congr (keep _)]
        simp only [Option.bind_some, sameStep, AV.beq_refl, heapEq_refl, Bool.and_self]
      · rw [e3 _ mask_len]
        have : keepS (fun k => (heapsOf H t k).length) ops.length (fun k => ((Region.before ops.toArray).getD j 0).testBit k || Nat.beq k j) (0 + (heapsOf H t j).length) = true := by
          refine keepS_iff.2 (.inr ⟨j, hj, ?_, by omega, ?_⟩)
          · rw [Bool.or_eq_true]; exact .inr (Nat.beq_refl j)
          · rw [e2, g]; simp
        rw [e2, g, mask_app, mask_congr (keep _), this]
        simp only [Option.bind_some, sameStep, AV.beq_refl, heapEq_refl, Bool.and_self, if_true]
end Go.AM
