/- Texts of the proof in one file (own work): Sit, Aw, PlayP, AmLocal, AmRows, AmOne. -/
import Derived.Test.YtffpahpbgeillaaM4
import Derived.Test.YtffpahpbgeillaaM3
/- seat.Sit (own work): the walk. -/
namespace Go.Proofs.Ytffpahpbgeillaa.sy
open Go.AM Go.AM.Seat
set_option linter.unusedSimpArgs false
set_option linter.unusedVariables false
variable {G : List Nat → Option (List AV)} {base : Nat} {w0 : World}
set_option maxRecDepth 100000

theorem sl_one {c : Ctx} {H : AHeap} {v : AV} {xs : List AV} (h : Sl c H v xs) : v.one = true ∧ v.cells = [v] := by
  rcases h with ⟨rfl | ⟨a, rfl⟩, _⟩ | ⟨l, st, rfl, _⟩ <;> exact ⟨rfl, rfl⟩

/-- the heap in the middle of Sit: where cores are taken and who sits -/
structure Mid (H1 : AHeap) (bt mn n : Nat) (H' : AHeap) (s : St) : Prop where
  tk : hat H' bt = some (.row 4 1 (s.2.map AV.bool))
  now : IM H' mn s.1
  keep : Keep H1 H' (fun j => j = bt ∨ j = mn)
theorem Mid.at {H1 H' : AHeap} {bt mn n : Nat} {s : St} (h : Mid H1 bt mn n H' s) {j : Nat} (hj : j < H1.length) (h1 : j ≠ bt) (h2 : j ≠ mn) : hat H' j = hat H1 j := h.keep.2 j hj (by rintro (e | e) <;> contradiction)
theorem Mid.sl {H1 H' : AHeap} {bt mn n : Nat} {s : St} (h : Mid H1 bt mn n H' s) : Sl (kn G base w0).c H' (.slice (.own bt) 1 0 s.2.length) (s.2.map AV.bool) :=
  .inr ⟨.own bt, 0, by simp, fun _ => ⟨s.2.map AV.bool, by simp only [rowOf, h.tk], by rw [List.drop_zero, List.take_length]⟩⟩
/-- a core taken -/
theorem Mid.put {H1 H' : AHeap} {bt mn n : Nat} {s : St} (h : Mid H1 bt mn n H' s) (hne : bt ≠ mn) (id : Int) (i : Nat) (hi : i < s.2.length) :
    ∃ o, amapUpdate (kn G base w0).c H' 47 (.map (.own mn)) (.int .i64 id) (.int .i64 i) = some (H'.set mn (some o)) ∧
      wr (H'.set mn (some o)) (.own bt) i [.bool true] = some ((H'.set mn (some o)).set bt (some (.row 4 1 ((s.2.set i true).map AV.bool)))) ∧
      Mid H1 bt mn n ((H'.set mn (some o)).set bt (some (.row 4 1 ((s.2.set i true).map AV.bool)))) (upd1 s.1 id (some (i : Int)), s.2.set i true) := by
  obtain ⟨o, h1, h2⟩ := h.now.put (c := (kn G base w0).c) Try.underlying47 Try.underlying3 id i
  have hm := h.now.lt
  have hb := hat_lt h.tk
  have hb2 : hat (H'.set mn (some o)) bt = some (.row 4 1 (s.2.map AV.bool)) := by rw [hat_ne _ hne]; exact h.tk
  refine ⟨o, h1, ?_, ⟨?_, ?_, ?_⟩⟩
  · rw [wr_own hb2 (by simpa using hi) rfl, List.map_set]
  · rw [hat_eq _ (by simpa using hb)]
  · exact h2 _ (by rw [hat_ne _ hne.symm, hat_eq _ hm])
  · refine ⟨by simpa using h.keep.1, fun j hj hn => ?_⟩
    rw [hat_ne _ (fun e => hn (.inl e)), hat_ne _ (fun e => hn (.inr e))]
    exact h.keep.2 j hj hn

def sitN (n : Nat) (f g : Int → Option Int) (ids : List Int) : Int → Option Int := (sitSt n f g (isortI ids)).1
def after (g now : Int → Option Int) (ids : List Int) : Int → Option Int := ids.foldl (fun g id => upd1 g id (some ((now id).getD 0))) g
def SitS (p m1 m2 n : Nat) (f g : Int → Option Int) (ids : List Int) (H : AHeap) : AV → AHeap → Prop := fun r H' =>
  Keep H H' (fun j => j = p ∨ j = m1 ∨ j = m2) ∧
  ((n < ids.length ∧ r = .tuple [.nilslice, .int .i64 6] ∧ Seats H' p m1 m2 n f g) ∨
   (ids.length ≤ n ∧ ¬ ids.Nodup ∧ r = .tuple [.nilslice, .int .i64 2] ∧ Seats H' p m1 m2 n f g) ∨
   (ids.length ≤ n ∧ ids.Nodup ∧ ∃ o m', r = .tuple [o, .int .i64 0] ∧ Seats H' p m' m2 n (sitN n f g ids) (after g (sitN n f g ids) ids) ∧
      Own H' o 3 (ints (ids.map fun id => (sitN n f g ids id).getD 0)) ∧ H.length ≤ m' ∧ (∀ b, o.at? = some b → H.length ≤ b)))

theorem sorted_tw {zs : List Int} (hs : zs.Pairwise (· ≤ ·)) : (∃ j, 0 < j ∧ j < zs.length ∧ zs[j]? = zs[j - 1]?) ↔ ¬ zs.Nodup := by
  constructor
  · rintro ⟨j, h1, h2, h3⟩ hn
    rw [List.getElem?_eq_getElem h2, List.getElem?_eq_getElem (by omega)] at h3
    have := nodup_inj hn (Option.some.inj h3)
    omega
  · intro hn
    apply Classical.byContradiction
    intro hno
    apply hn
    have key : ∀ j, (h : j < zs.length) → 0 < j → zs[j - 1] < zs[j] := by
      intro j h h0
      have h1 := List.pairwise_iff_getElem.1 hs (j - 1) j (by omega) h (by omega)
      have h2 : zs[j]? ≠ zs[j - 1]? := fun e => hno ⟨j, h0, h, e⟩
      rw [List.getElem?_eq_getElem h, List.getElem?_eq_getElem (by omega)] at h2
      have h3 : zs[j - 1] ≠ zs[j] := fun e => h2 (by rw [e])
      omega
    rw [List.nodup_iff_pairwise_ne, List.pairwise_iff_getElem]
    intro i j hi hj hij
    have : ∀ d, (h : i + d + 1 < zs.length) → zs[i] < zs[i + d + 1] := by
      intro d
      induction d with
      | zero => intro h; exact key (i + 1) h (by omega)
      | succ d ih =>
        intro h
        have h1 := ih (by omega)
        have h2 := key (i + (d + 1) + 1) h (by omega)
        have h3 : zs[i + (d + 1) + 1 - 1] = zs[i + d + 1] := by congr 1
        omega
    have h1 := this (j - i - 1) (by omega)
    have h2 : zs[i + (j - i - 1) + 1]'(by omega) = zs[j] := by congr 1; omega
    omega

theorem fold_take {α : Type} (F : α → Int → α) (s : α) (l : List Int) (j : Nat) (h : j < l.length) : (l.take (j + 1)).foldl F s = F ((l.take j).foldl F s) l[j] := by
  rw [List.take_succ_eq_append_getElem h, List.foldl_append]; rfl
theorem stO_put {old : Int → Option Int} {s : St} {id : Int} {k : Nat} (h1 : old id = some (k : Int)) (h2 : s.1 id = none) (h3 : s.2.getD k false = false) : stO old s id = (upd1 s.1 id (some (k : Int)), s.2.set k true) := by
  unfold stO; rw [h1]; simp only [h2, Int.toNat_natCast, h3]; rfl
theorem stO_has {old : Int → Option Int} {s : St} {id : Int} {c : Int} (h1 : old id = some c) (h2 : (s.1 id).isSome = true) : stO old s id = s := by
  cases hq : s.1 id with
  | none => rw [hq] at h2; cases h2
  | some x => simp [stO, h1, hq]
theorem stO_tk {old : Int → Option Int} {s : St} {id : Int} {k : Nat} (h1 : old id = some (k : Int)) (h3 : s.2.getD k false = true) : stO old s id = s := by
  unfold stO; rw [h1]; simp only [Int.toNat_natCast, h3, Bool.not_true, Bool.and_false, Bool.false_eq_true, if_false]
theorem lookK {H : AHeap} {m : Nat} {f : Int → Option Int} (h : IM H m f) (k : Int) (ok : Bool) : alookup (kn G base w0).c H 47 (.map (.own m)) (.int .i64 k) ok = some (if ok then .tuple [.int .i64 ((f k).getD 0), .bool (f k).isSome] else .int .i64 ((f k).getD 0)) := h.look Try.underlying47 Try.underlying3 za3 k ok
theorem stO_no {old : Int → Option Int} {s : St} {id : Int} (h1 : old id = none) : stO old s id = s := by simp [stO, h1]
def mmq (m1 m2 : Nat) : Nat → Nat | 0 => m1 | _ => m2
def olq (f g : Int → Option Int) : Nat → Int → Option Int | 0 => f | _ => g
def stq (n : Nat) (f g : Int → Option Int) (l : List Int) : Nat → St
  | 0 => st0 n
  | 1 => l.foldl (stO f) (st0 n)
  | _ => l.foldl (stO g) (l.foldl (stO f) (st0 n))
theorem stq_succ (n : Nat) (f g : Int → Option Int) (l : List Int) : ∀ q, q < 2 → stq n f g l (q + 1) = l.foldl (stO (olq f g q)) (stq n f g l q)
  | 0, _ => rfl
  | 1, _ => rfl
set_option maxHeartbeats 4000000
theorem sit_ok {H : AHeap} {p m1 m2 n : Nat} {f g : Int → Option Int} {v : AV} {ids : List Int} (hs : Seats H p m1 m2 n f g) (hv : Sl (kn G base w0).c H v (ints ids)) (hl : ids.length ≤ 1000) (hn : 0 < n) (hn64 : n ≤ 64)
    (hf : ∀ a c, f a = some c → 0 ≤ c ∧ c < n) (hg : ∀ a c, g a = some c → 0 ≤ c ∧ c < n) (hva : ∀ b, v.at? = some b → b < H.length ∧ b ≠ p ∧ b ≠ m1 ∧ b ≠ m2) : ∃ r H', Pt (kn G base w0) 10 [.ptr (.own p) 0, v] H r H' ∧ SitS p m1 m2 n f g ids H r H' := by
  obtain ⟨hone, hcel⟩ := sl_one hv
  have hp := hat_lt hs.row
  refine Pt.fn (n := 148) (rs := [.tmp 4, .tmp 5]) Try.func10 (b := _) rfl rfl rfl (by decide) ?_
  refine D.sq (D.region (T := none_) (by simp only [rulesA, rulesB, numbered, ayield, mapO, constAV, scAV, optval, abin, aint, acmp, aconv, aun, aeq, aminmax, afieldAddr, abuild, anew, fieldPlaces, afill, setSeg, kn_P, Nat.reduceAdd, Nat.reduceMul, Nat.reducePow, Nat.reduceSub, Nat.reduceEqDiff, Nat.reduceLT, Nat.reduceLeDiff, Int.reduceEq, Int.reduceNe, Int.reduceLT, Int.reduceLE, Int.reduceAdd, Int.reduceSub, Int.reduceToNat, Int.reduceBNe, Int.reduceBEq, tyR]; with_reducible rfl) ?_)
  simp only [rulesK, Nat.reduceEqDiff]
  refine D.sq (D.sq (D.region (T := none_) (by simp only [rulesA, rulesB, numbered, ayield, mapO, constAV, scAV, optval, abin, aint, acmp, aconv, aun, aeq, aminmax, afieldAddr, abuild, anew, fieldPlaces, afill, setSeg, kn_P, Nat.reduceAdd, Nat.reduceMul, Nat.reducePow, Nat.reduceSub, Nat.reduceEqDiff, Nat.reduceLT, Nat.reduceLeDiff, Int.reduceEq, Int.reduceNe, Int.reduceLT, Int.reduceLE, Int.reduceAdd, Int.reduceSub, Int.reduceToNat, Int.reduceBNe, Int.reduceBEq, tyR]; with_reducible rfl) ?_))
  simp only [rulesK, Nat.reduceEqDiff]
  refine D.cond (by simp only [rulesA, rulesB, numbered, ayield, mapO, constAV, scAV, optval, abin, aint, acmp, aconv, aun, aeq, aminmax, afieldAddr, abuild, anew, fieldPlaces, afill, setSeg, kn_P, Nat.reduceAdd, Nat.reduceMul, Nat.reducePow, Nat.reduceSub, Nat.reduceEqDiff, Nat.reduceLT, Nat.reduceLeDiff, Int.reduceEq, Int.reduceNe, Int.reduceLT, Int.reduceLE, Int.reduceAdd, Int.reduceSub, Int.reduceToNat, Int.reduceBNe, Int.reduceBEq, tyR]; with_reducible rfl) (fun h => ?_) (fun h => ?_)
  · cases h
  clear h
  refine D.skip ?_
  simp only [rulesK, Nat.reduceEqDiff]
  -- the ids, sorted
  have hb18 : hasBody Try.prog 18 = true := by kernel_rfl
  have hb17 : hasBody Try.prog 17 = true := by kernel_rfl
  obtain ⟨fv, Ha, hc18, rfl, rfl⟩ := call_two1 (κ := kn G base w0) (f := 18) (args := [v]) (H := H) (fun _ H r H' => r = .func (.func 24) [] [.ptr (.own H.length) 0] ∧ H' = hnew H (.row 26 1 [v])) (g := 17) (fun _ H r H' => SortedS ids H r H') (by decide) (values_ok hone hcel)
  have hva' : Sl (kn G base w0).c (hnew H (.row 26 1 [v])) v (ints ids) := hv.keep (Keep.new _ (fun _ => False)) (fun b hb => ⟨(hva b hb).1, id⟩)
  obtain ⟨vo, Hb, hc17, hso⟩ := call_two2 (κ := kn G base w0) (f := 18) (fun _ H r H' => r = .func (.func 24) [] [.ptr (.own H.length) 0] ∧ H' = hnew H (.row 26 1 [v])) (g := 17) (args := [.func (.func 24) [] [.ptr (.own H.length) 0]]) (H := hnew H (.row 26 1 [v])) (fun _ H r H' => SortedS ids H r H') (by decide) (sorted_ok hva' (by omega) (hat_nn _))
  refine D.sq (D.regC hc18 (by simp only [rulesA, rulesB, numbered, ayield, mapO, constAV, scAV, optval, abin, aint, acmp, aconv, aun, aeq, aminmax, afieldAddr, abuild, anew, fieldPlaces, afill, setSeg, kn_P, Nat.reduceAdd, Nat.reduceMul, Nat.reducePow, Nat.reduceSub, Nat.reduceEqDiff, Nat.reduceLT, Nat.reduceLeDiff, Int.reduceEq, Int.reduceNe, Int.reduceLT, Int.reduceLE, Int.reduceAdd, Int.reduceSub, Int.reduceToNat, Int.reduceBNe, Int.reduceBEq, tyR, hc18, hc17, hb18, hb17, List.append_nil]; with_reducible rfl) ?_)
  simp only [rulesK, Nat.reduceEqDiff]
  clear hc18 hc17
  obtain ⟨hO, hkb, hfr⟩ := hso
  have hk0 : Keep H Hb (fun _ => False) := (Keep.new _ _).trans hkb
  have hsb : Seats Hb p m1 m2 n f g := hs.keep (hk0.2 _ hp id) (hk0.2 _ hs.now.lt id) (hk0.2 _ hs.last.lt id)
  have hvb : Sl (kn G base w0).c Hb v (ints ids) := hv.keep hk0 (fun b hb => ⟨(hva b hb).1, id⟩)
  have hvo : Sl (kn G base w0).c Hb vo (ints (isortI ids)) := hO.sl
  have hlen : (isortI ids).length = ids.length := (isortI_perm ids).length_eq
  -- too many?
  refine D.sq (D.bl (D.sq (D.region (T := none_) (by simp only [rulesA, rulesB, numbered, ayield, mapO, constAV, scAV, optval, abin, aint, acmp, aconv, aun, aeq, aminmax, afieldAddr, abuild, anew, fieldPlaces, afill, setSeg, kn_P, Nat.reduceAdd, Nat.reduceMul, Nat.reducePow, Nat.reduceSub, Nat.reduceEqDiff, Nat.reduceLT, Nat.reduceLeDiff, Int.reduceEq, Int.reduceNe, Int.reduceLT, Int.reduceLE, Int.reduceAdd, Int.reduceSub, Int.reduceToNat, Int.reduceBNe, Int.reduceBEq, tyR, hvb.len Try.underlying26, ints_len, aload, rd_own hsb.row]; with_reducible rfl) ?_)))
  simp only [rulesK, Nat.reduceEqDiff]
  refine D.cond (by simp only [rulesA, rulesB, numbered, ayield, mapO, constAV, scAV, optval, abin, aint, acmp, aconv, aun, aeq, aminmax, afieldAddr, abuild, anew, fieldPlaces, afill, setSeg, kn_P, Nat.reduceAdd, Nat.reduceMul, Nat.reducePow, Nat.reduceSub, Nat.reduceEqDiff, Nat.reduceLT, Nat.reduceLeDiff, Int.reduceEq, Int.reduceNe, Int.reduceLT, Int.reduceLE, Int.reduceAdd, Int.reduceSub, Int.reduceToNat, Int.reduceBNe, Int.reduceBEq, tyR]; with_reducible rfl) (fun h => ?_) (fun h => ?_)
  · simp only [decide_eq_true_eq, gt_iff_lt, Int.ofNat_lt] at h
    refine D.sq (D.region (T := none_) (by simp only [rulesA, rulesB, numbered, ayield, mapO, constAV, scAV, optval, abin, aint, acmp, aconv, aun, aeq, aminmax, afieldAddr, abuild, anew, fieldPlaces, afill, setSeg, kn_P, Nat.reduceAdd, Nat.reduceMul, Nat.reducePow, Nat.reduceSub, Nat.reduceEqDiff, Nat.reduceLT, Nat.reduceLeDiff, Int.reduceEq, Int.reduceNe, Int.reduceLT, Int.reduceLE, Int.reduceAdd, Int.reduceSub, Int.reduceToNat, Int.reduceBNe, Int.reduceBEq, tyR]; with_reducible rfl) ?_)
    simp only [rulesK, Nat.reduceEqDiff]
    refine D.ret ?_
    simp only [rulesK, Nat.reduceEqDiff]
    refine ⟨_, by simp only [resOf, aresult, rulesA, rulesB, numbered, ayield, mapO, constAV, scAV, optval, abin, aint, acmp, aconv, aun, aeq, aminmax, afieldAddr, abuild, anew, fieldPlaces, afill, setSeg, kn_P, Nat.reduceAdd, Nat.reduceMul, Nat.reducePow, Nat.reduceSub, Nat.reduceEqDiff, Nat.reduceLT, Nat.reduceLeDiff, Int.reduceEq, Int.reduceNe, Int.reduceLT, Int.reduceLE, Int.reduceAdd, Int.reduceSub, Int.reduceToNat, Int.reduceBNe, Int.reduceBEq, tyR]; with_reducible rfl, ?_⟩
    exact ⟨hk0.mono (fun _ _ h => h.elim), .inl ⟨h, rfl, hsb⟩⟩
  simp only [decide_eq_false_iff_not, gt_iff_lt, Int.ofNat_lt, Nat.not_lt] at h
  have hmany := h
  clear h
  -- twice?
  have hb19 : hasBody Try.prog 19 = true := by kernel_rfl
  obtain ⟨rb, Hc, hc19, rfl, bt0, rfl, hbt⟩ := call_only (κ := kn G base w0) (f := 19) (args := [vo]) (H := Hb) (fun _ H r H' => TwS (isortI ids) H r H') (twice_ok hvo (by omega))
  refine D.sq (D.regC hc19 (by simp only [rulesA, rulesB, numbered, ayield, mapO, constAV, scAV, optval, abin, aint, acmp, aconv, aun, aeq, aminmax, afieldAddr, abuild, anew, fieldPlaces, afill, setSeg, kn_P, Nat.reduceAdd, Nat.reduceMul, Nat.reducePow, Nat.reduceSub, Nat.reduceEqDiff, Nat.reduceLT, Nat.reduceLeDiff, Int.reduceEq, Int.reduceNe, Int.reduceLT, Int.reduceLE, Int.reduceAdd, Int.reduceSub, Int.reduceToNat, Int.reduceBNe, Int.reduceBEq, tyR, hc19, hb19, List.append_nil]; with_reducible rfl) ?_)
  simp only [rulesK, Nat.reduceEqDiff]
  clear hc19
  have htw := sorted_tw (isortI_sorted ids)
  refine D.cond (by simp only [rulesA, rulesB, numbered, ayield, mapO, constAV, scAV, optval, abin, aint, acmp, aconv, aun, aeq, aminmax, afieldAddr, abuild, anew, fieldPlaces, afill, setSeg, kn_P, Nat.reduceAdd, Nat.reduceMul, Nat.reducePow, Nat.reduceSub, Nat.reduceEqDiff, Nat.reduceLT, Nat.reduceLeDiff, Int.reduceEq, Int.reduceNe, Int.reduceLT, Int.reduceLE, Int.reduceAdd, Int.reduceSub, Int.reduceToNat, Int.reduceBNe, Int.reduceBEq, tyR]; with_reducible rfl) (fun h => ?_) (fun h => ?_)
  · refine D.sq (D.region (T := none_) (by simp only [rulesA, rulesB, numbered, ayield, mapO, constAV, scAV, optval, abin, aint, acmp, aconv, aun, aeq, aminmax, afieldAddr, abuild, anew, fieldPlaces, afill, setSeg, kn_P, Nat.reduceAdd, Nat.reduceMul, Nat.reducePow, Nat.reduceSub, Nat.reduceEqDiff, Nat.reduceLT, Nat.reduceLeDiff, Int.reduceEq, Int.reduceNe, Int.reduceLT, Int.reduceLE, Int.reduceAdd, Int.reduceSub, Int.reduceToNat, Int.reduceBNe, Int.reduceBEq, tyR]; with_reducible rfl) ?_)
    simp only [rulesK, Nat.reduceEqDiff]
    refine D.ret ?_
    simp only [rulesK, Nat.reduceEqDiff]
    refine ⟨_, by simp only [resOf, aresult, rulesA, rulesB, numbered, ayield, mapO, constAV, scAV, optval, abin, aint, acmp, aconv, aun, aeq, aminmax, afieldAddr, abuild, anew, fieldPlaces, afill, setSeg, kn_P, Nat.reduceAdd, Nat.reduceMul, Nat.reducePow, Nat.reduceSub, Nat.reduceEqDiff, Nat.reduceLT, Nat.reduceLeDiff, Int.reduceEq, Int.reduceNe, Int.reduceLT, Int.reduceLE, Int.reduceAdd, Int.reduceSub, Int.reduceToNat, Int.reduceBNe, Int.reduceBEq, tyR]; with_reducible rfl, ?_⟩
    refine ⟨hk0.mono (fun _ _ h => h.elim), .inr (.inl ⟨hmany, ?_, rfl, hsb⟩)⟩
    intro hnd
    exact (htw.1 (hbt.1 h)) ((isortI_perm ids).nodup_iff.2 hnd)
  have hnd : ids.Nodup := by
    rw [← (isortI_perm ids).nodup_iff]
    apply Classical.byContradiction
    intro hh
    have := hbt.2 (htw.2 hh)
    rw [h] at this; cases this
  refine D.skip ?_
  simp only [rulesK, Nat.reduceEqDiff]
  refine D.forget (env0 := E 148 [(6, vo), (1, v), (0, .ptr (.own p) 0)]) (by exact E_le (by decide) (E_size _ _) (by simp only [List.forall_mem_cons, List.not_mem_nil, false_implies, implies_true, and_true, E_get, Nat.reduceEqDiff, Nat.reduceLT, Nat.reduceLeDiff, if_true, if_false, and_self, true_and] <;> first | rfl | exact ⟨rfl, rfl⟩)) ?_
  clear h hbt bt0 htw
  have hnds : (isortI ids).Nodup := (isortI_perm ids).nodup_iff.2 hnd
  -- what is laid
  have hn47 : (n : Int) ≤ 140737488355328 := by omega
  have hn63 : (n : Int) < 9223372036854775808 := by omega
  have hn0 : (0 : Int) ≤ n := by omega
  have hcs : 0 ≤ (n : Int) ∧ (n : Int) ≤ n ∧ (1 : Nat) * (n : Int) ≤ 2 ^ 47 ∧ (n : Int) < 2 ^ 63 := by omega
  refine D.sq (D.region (T := none_) (by simp only [rulesA, rulesB, numbered, ayield, mapO, constAV, scAV, optval, abin, aint, acmp, aconv, aun, aeq, aminmax, afieldAddr, abuild, anew, fieldPlaces, afill, setSeg, kn_P, Nat.reduceAdd, Nat.reduceMul, Nat.reducePow, Nat.reduceSub, Nat.reduceEqDiff, Nat.reduceLT, Nat.reduceLeDiff, Int.reduceEq, Int.reduceNe, Int.reduceLT, Int.reduceLE, Int.reduceAdd, Int.reduceSub, Int.reduceToNat, Int.reduceBNe, Int.reduceBEq, tyR, aload, rd_own hsb.row, amake_eq, amakeSlice2, hcs, reps_rep, fresh, Int.toNat_natCast]; with_reducible rfl) ?_)
  simp only [rulesK, Nat.reduceEqDiff]
  refine D.sq (D.region (T := none_) (by simp only [rulesA, rulesB, numbered, ayield, mapO, constAV, scAV, optval, abin, aint, acmp, aconv, aun, aeq, aminmax, afieldAddr, abuild, anew, fieldPlaces, afill, setSeg, kn_P, Nat.reduceAdd, Nat.reduceMul, Nat.reducePow, Nat.reduceSub, Nat.reduceEqDiff, Nat.reduceLT, Nat.reduceLeDiff, Int.reduceEq, Int.reduceNe, Int.reduceLT, Int.reduceLE, Int.reduceAdd, Int.reduceSub, Int.reduceToNat, Int.reduceBNe, Int.reduceBEq, tyR, fresh, len_new]; with_reducible rfl) ?_)
  simp only [rulesK, Nat.reduceEqDiff]
  have hmi : Mid (hnew (hnew Hc (.row 4 1 (List.replicate n (AV.bool false)))) (.map [] 0)) Hc.length (Hc.length + 1) n (hnew (hnew Hc (.row 4 1 (List.replicate n (AV.bool false)))) (.map [] 0)) (st0 n) := by
    refine ⟨?_, ?_, Keep.refl _⟩
    · rw [hat_nw _ (by simp [len_new]), hat_nn]; simp [st0]
    · have := IM.new (H := hnew Hc (.row 4 1 (List.replicate n (AV.bool false))))
      rw [len_new] at this
      exact this
  have hk1 : Keep Hc (hnew (hnew Hc (.row 4 1 (List.replicate n (AV.bool false)))) (.map [] 0)) (fun _ => False) := (Keep.new _ _).trans (Keep.new _ _)
  have hL1 : (hnew (hnew Hc (.row 4 1 (List.replicate n (AV.bool false)))) (.map [] 0)).length = Hc.length + 2 := by simp only [len_new]
  generalize hnew (hnew Hc (.row 4 1 (List.replicate n (AV.bool false)))) (.map [] 0) = H1 at hmi hk1 hL1 ⊢
  have hs1 : Seats H1 p m1 m2 n f g := hsb.keep (hk1.2 _ (hat_lt hsb.row) id) (hk1.2 _ hsb.now.lt id) (hk1.2 _ hsb.last.lt id)
  refine D.sq (D.sq (D.draw (T := none_) (by kernel_rfl) (by simp only [rulesA, rulesB, numbered, ayield, mapO, constAV, scAV, optval, abin, aint, acmp, aconv, aun, aeq, aminmax, afieldAddr, abuild, anew, fieldPlaces, afill, setSeg, kn_P, Nat.reduceAdd, Nat.reduceMul, Nat.reducePow, Nat.reduceSub, Nat.reduceEqDiff, Nat.reduceLT, Nat.reduceLeDiff, Int.reduceEq, Int.reduceNe, Int.reduceLT, Int.reduceLE, Int.reduceAdd, Int.reduceSub, Int.reduceToNat, Int.reduceBNe, Int.reduceBEq, tyR, aload, rd_own hs1.row, fresh, abuildSlice, reps, alen]; with_reducible rfl) ?_))
  simp only [rulesK, Nat.reduceEqDiff]
  have hm2 : Mid (hnew H1 (.row 47 1 [.map (.own m1), .map (.own m2)])) Hc.length (Hc.length + 1) n (hnew H1 (.row 47 1 [.map (.own m1), .map (.own m2)])) (st0 n) := by
    refine ⟨?_, ?_, Keep.refl _⟩
    · rw [hat_nw _ (by omega)]; exact hmi.tk
    · exact hmi.now.keep (by rw [hat_nw _ (by omega)])
  have hk2 : Keep Hc (hnew H1 (.row 47 1 [.map (.own m1), .map (.own m2)])) (fun _ => False) := hk1.trans (Keep.new _ _)
  have hL2 : (hnew H1 (.row 47 1 [.map (.own m1), .map (.own m2)])).length = Hc.length + 3 := by simp only [len_new]; omega
  have h55 : hat (hnew H1 (.row 47 1 [.map (.own m1), .map (.own m2)])) (Hc.length + 2) = some (.row 47 1 [.map (.own m1), .map (.own m2)]) := by rw [← hL1, hat_nn]
  rw [hL1]
  generalize hnew H1 (.row 47 1 [.map (.own m1), .map (.own m2)]) = H2 at hm2 hk2 hL2 h55 ⊢
  have hs2 : Seats H2 p m1 m2 n f g := hsb.keep (hk2.2 _ (hat_lt hsb.row) id) (hk2.2 _ hsb.now.lt id) (hk2.2 _ hsb.last.lt id)
  have hpc := hat_lt hsb.row
  have hm1c := hsb.now.lt
  have hm2c := hsb.last.lt
  have hvoc : ∀ b, vo.at? = some b → b < Hc.length := fun b hb => hO.lt hb
  have hvc : ∀ b, v.at? = some b → b < Hc.length := fun b hb => Nat.lt_of_lt_of_le (hva b hb).1 hk0.1
  have hvo2 : Sl (kn G base w0).c H2 vo (ints (isortI ids)) := hvo.keep hk2 (fun b hb => ⟨hvoc b hb, id⟩)
  have hv2 : Sl (kn G base w0).c H2 v (ints ids) := hvb.keep hk2 (fun b hb => ⟨hvc b hb, id⟩)
  clear hk1 hL1 hmi hs1
  generalize hso : isortI ids = so at hvo2 hnds hlen hvo hO
  -- what is so in the middle
  have mI : ∀ {q}, q < 2 → Inv n so (stq n f g so q) → ∀ j, Inv n so ((so.take j).foldl (stO (olq f g q)) (stq n f g so q)) := by
    intro q hq hi j
    refine Inv.olds hnds ?_ _ (fun a ha => List.mem_of_mem_take ha) hi
    match q, hq with
    | 0, _ => exact hf
    | 1, _ => exact hg
  have sI : ∀ q, q ≤ 2 → Inv n so (stq n f g so q) := by
    intro q
    induction q with
    | zero => intro _; exact Inv.init n so
    | succ q ih =>
      intro h
      rw [stq_succ n f g so q (by omega)]
      have := mI (q := q) (by omega) (ih (by omega)) so.length
      rwa [List.take_length] at this
  have mVo : ∀ {H' s}, Mid H2 Hc.length (Hc.length + 1) n H' s → Sl (kn G base w0).c H' vo (ints so) := by
    intro H' s h
    refine hvo2.ext fun b e st k hb => ?_
    have := hvoc b (by rw [hb]; rfl)
    exact h.at (by omega) (by omega) (by omega)
  have mOld : ∀ {H' s q}, Mid H2 Hc.length (Hc.length + 1) n H' s → IM H' (mmq m1 m2 q) (olq f g q) := by
    intro H' s q h
    match q with
    | 0 => exact hs2.now.keep (h.at (by omega) (by omega) (by omega))
    | _ + 1 => exact hs2.last.keep (h.at (by omega) (by omega) (by omega))
  refine D.bl ?_
  refine D.lp (fun m env H' => ∃ q : Nat, m = 2 - q ∧ q ≤ 2 ∧ Mid H2 Hc.length (Hc.length + 1) n H' (stq n f g so q) ∧ ELe (E 148 [(57, .int .i64 q), (56, .int .i64 2), (55, .slice (.own (Hc.length + 2)) 1 0 2), (7, .slice (.own Hc.length) 1 0 n), (8, .map (.own (Hc.length + 1))), (6, vo), (1, v), (0, .ptr (.own p) 0)]) env) 2 ⟨0, by omega, by omega, hm2, by exact E_le (by decide) (E_size _ _) (by simp only [List.forall_mem_cons, List.not_mem_nil, false_implies, implies_true, and_true, E_get, Nat.reduceEqDiff, Nat.reduceLT, Nat.reduceLeDiff, if_true, if_false, and_self, true_and] <;> first | rfl | exact ⟨rfl, rfl⟩)⟩ ?_
  rintro m env H' ⟨q, rfl, hq, hM, he⟩
  refine D.forget he ?_
  clear he
  have hq2 : decide ((q : Int) < 2) = decide (q < 2) := by congr 1; simp; omega
  refine D.sq (D.region (T := none_) (by simp only [rulesA, rulesB, numbered, ayield, mapO, constAV, scAV, optval, abin, aint, acmp, aconv, aun, aeq, aminmax, afieldAddr, abuild, anew, fieldPlaces, afill, setSeg, kn_P, Nat.reduceAdd, Nat.reduceMul, Nat.reducePow, Nat.reduceSub, Nat.reduceEqDiff, Nat.reduceLT, Nat.reduceLeDiff, Int.reduceEq, Int.reduceNe, Int.reduceLT, Int.reduceLE, Int.reduceAdd, Int.reduceSub, Int.reduceToNat, Int.reduceBNe, Int.reduceBEq, tyR, hq2]; with_reducible rfl) ?_)
  simp only [rulesK, Nat.reduceEqDiff]
  refine D.sq (D.cond (by simp only [rulesA, rulesB, numbered, ayield, mapO, constAV, scAV, optval, abin, aint, acmp, aconv, aun, aeq, aminmax, afieldAddr, abuild, anew, fieldPlaces, afill, setSeg, kn_P, Nat.reduceAdd, Nat.reduceMul, Nat.reducePow, Nat.reduceSub, Nat.reduceEqDiff, Nat.reduceLT, Nat.reduceLeDiff, Int.reduceEq, Int.reduceNe, Int.reduceLT, Int.reduceLE, Int.reduceAdd, Int.reduceSub, Int.reduceToNat, Int.reduceBNe, Int.reduceBEq, tyR]; with_reducible rfl) (fun h => ?_) (fun h => ?_))
  · simp only [decide_eq_true_eq] at h
    have hql := h
    clear h
    refine D.skip ?_
    simp only [rulesK, Nat.reduceEqDiff]
    have hv55 : Sl (kn G base w0).c H' (.slice (.own (Hc.length + 2)) 1 0 2) [.map (.own m1), .map (.own m2)] :=
      .inr ⟨.own (Hc.length + 2), 0, rfl, fun _ => ⟨_, by simp only [rowOf]; rw [hM.at (by omega) (by omega) (by omega), h55], rfl⟩⟩
    have hgq : [AV.map (.own m1), AV.map (.own m2)][q]'(by simpa using hql) = .map (.own (mmq m1 m2 q)) := by
      match q, hql with
      | 0, _ => rfl
      | 1, _ => rfl
    refine D.sq (D.bl (D.sq (D.region (T := none_) (by simp only [rulesA, rulesB, numbered, ayield, mapO, constAV, scAV, optval, abin, aint, acmp, aconv, aun, aeq, aminmax, afieldAddr, abuild, anew, fieldPlaces, afill, setSeg, kn_P, Nat.reduceAdd, Nat.reduceMul, Nat.reducePow, Nat.reduceSub, Nat.reduceEqDiff, Nat.reduceLT, Nat.reduceLeDiff, Int.reduceEq, Int.reduceNe, Int.reduceLT, Int.reduceLE, Int.reduceAdd, Int.reduceSub, Int.reduceToNat, Int.reduceBNe, Int.reduceBEq, tyR, hv55.ia Try.underlying56 sz47 (i := q) (by simpa using hql), hv55.ld ag47 (i := q) (by simpa using hql), hgq]; with_reducible rfl) ?_)))
    simp only [rulesK, Nat.reduceEqDiff]
    refine D.sq (D.region (T := none_) (by simp only [rulesA, rulesB, numbered, ayield, mapO, constAV, scAV, optval, abin, aint, acmp, aconv, aun, aeq, aminmax, afieldAddr, abuild, anew, fieldPlaces, afill, setSeg, kn_P, Nat.reduceAdd, Nat.reduceMul, Nat.reducePow, Nat.reduceSub, Nat.reduceEqDiff, Nat.reduceLT, Nat.reduceLeDiff, Int.reduceEq, Int.reduceNe, Int.reduceLT, Int.reduceLE, Int.reduceAdd, Int.reduceSub, Int.reduceToNat, Int.reduceBNe, Int.reduceBEq, tyR, (mVo hM).len Try.underlying26, ints_len]; with_reducible rfl) ?_)
    simp only [rulesK, Nat.reduceEqDiff]
    refine D.bl ?_
    refine D.lp (fun m env H' => ∃ j : Nat, m = so.length - j ∧ j ≤ so.length ∧ Mid H2 Hc.length (Hc.length + 1) n H' ((so.take j).foldl (stO (olq f g q)) (stq n f g so q)) ∧ ELe (E 148 [(63, .int .i64 j), (62, .int .i64 so.length), (61, vo), (10, .map (.own (mmq m1 m2 q))), (57, .int .i64 q), (56, .int .i64 2), (55, .slice (.own (Hc.length + 2)) 1 0 2), (7, .slice (.own Hc.length) 1 0 n), (8, .map (.own (Hc.length + 1))), (6, vo), (1, v), (0, .ptr (.own p) 0)]) env) so.length ⟨0, by omega, by omega, hM, by exact E_le (by decide) (E_size _ _) (by simp only [List.forall_mem_cons, List.not_mem_nil, false_implies, implies_true, and_true, E_get, Nat.reduceEqDiff, Nat.reduceLT, Nat.reduceLeDiff, if_true, if_false, and_self, true_and] <;> first | rfl | exact ⟨rfl, rfl⟩)⟩ ?_
    have hI0 := sI q hq
    clear hM hv55 hgq H'
    rintro m env H' ⟨j, rfl, hj, hM, he⟩
    refine D.forget he ?_
    clear he
    have hI := mI hql hI0 j
    refine D.sq (D.region (T := none_) (by simp only [rulesA, rulesB, numbered, ayield, mapO, constAV, scAV, optval, abin, aint, acmp, aconv, aun, aeq, aminmax, afieldAddr, abuild, anew, fieldPlaces, afill, setSeg, kn_P, Nat.reduceAdd, Nat.reduceMul, Nat.reducePow, Nat.reduceSub, Nat.reduceEqDiff, Nat.reduceLT, Nat.reduceLeDiff, Int.reduceEq, Int.reduceNe, Int.reduceLT, Int.reduceLE, Int.reduceAdd, Int.reduceSub, Int.reduceToNat, Int.reduceBNe, Int.reduceBEq, tyR]; with_reducible rfl) ?_)
    simp only [rulesK, Nat.reduceEqDiff]
    refine D.sq (D.cond (by simp only [rulesA, rulesB, numbered, ayield, mapO, constAV, scAV, optval, abin, aint, acmp, aconv, aun, aeq, aminmax, afieldAddr, abuild, anew, fieldPlaces, afill, setSeg, kn_P, Nat.reduceAdd, Nat.reduceMul, Nat.reducePow, Nat.reduceSub, Nat.reduceEqDiff, Nat.reduceLT, Nat.reduceLeDiff, Int.reduceEq, Int.reduceNe, Int.reduceLT, Int.reduceLE, Int.reduceAdd, Int.reduceSub, Int.reduceToNat, Int.reduceBNe, Int.reduceBEq, tyR]; with_reducible rfl) (fun h => ?_) (fun h => ?_))
    · simp only [decide_eq_true_eq, Int.ofNat_lt] at h
      have hjl := h
      clear h
      refine D.skip ?_
      simp only [rulesK, Nat.reduceEqDiff]
      refine D.sq (D.cut (fun env' H'' => Mid H2 Hc.length (Hc.length + 1) n H'' (stO (olq f g q) ((so.take j).foldl (stO (olq f g q)) (stq n f g so q)) so[j]) ∧ ELe (E 148 [(63, .int .i64 j), (62, .int .i64 so.length), (61, vo), (10, .map (.own (mmq m1 m2 q))), (57, .int .i64 q), (56, .int .i64 2), (55, .slice (.own (Hc.length + 2)) 1 0 2), (7, .slice (.own Hc.length) 1 0 n), (8, .map (.own (Hc.length + 1))), (6, vo), (1, v), (0, .ptr (.own p) 0)]) env') ?_ ?_)
      rotate_left
      · rintro env' H'' ⟨hM', he⟩
        refine D.forget he ?_
        refine D.region (T := none_) (by simp only [rulesA, rulesB, numbered, ayield, mapO, constAV, scAV, optval, abin, aint, acmp, aconv, aun, aeq, aminmax, afieldAddr, abuild, anew, fieldPlaces, afill, setSeg, kn_P, Nat.reduceAdd, Nat.reduceMul, Nat.reducePow, Nat.reduceSub, Nat.reduceEqDiff, Nat.reduceLT, Nat.reduceLeDiff, Int.reduceEq, Int.reduceNe, Int.reduceLT, Int.reduceLE, Int.reduceAdd, Int.reduceSub, Int.reduceToNat, Int.reduceBNe, Int.reduceBEq, tyR, wrapN (j + 1) (show (j : Int) + 1 = ((j + 1 : Nat) : Int) by omega) (by omega)]; with_reducible rfl) ?_
        simp only [rulesK, Nat.reduceEqDiff]
        exact ⟨so.length - (j + 1), by omega, j + 1, (by first | exact rfl | exact True.intro), by omega, by rw [fold_take _ _ _ _ hjl]; exact hM', by exact E_le (by decide) (E_size _ _) (by simp only [List.forall_mem_cons, List.not_mem_nil, false_implies, implies_true, and_true, E_get, Nat.reduceEqDiff, Nat.reduceLT, Nat.reduceLeDiff, if_true, if_false, and_self, true_and] <;> first | rfl | exact ⟨rfl, rfl⟩)⟩
      refine D.bl (D.sq (D.region (T := none_) (by simp only [rulesA, rulesB, numbered, ayield, mapO, constAV, scAV, optval, abin, aint, acmp, aconv, aun, aeq, aminmax, afieldAddr, abuild, anew, fieldPlaces, afill, setSeg, kn_P, Nat.reduceAdd, Nat.reduceMul, Nat.reducePow, Nat.reduceSub, Nat.reduceEqDiff, Nat.reduceLT, Nat.reduceLeDiff, Int.reduceEq, Int.reduceNe, Int.reduceLT, Int.reduceLE, Int.reduceAdd, Int.reduceSub, Int.reduceToNat, Int.reduceBNe, Int.reduceBEq, tyR, (mVo hM).ia Try.underlying26 sz3 (i := j) (by simpa using hjl), (mVo hM).ld ag3 (i := j) (by simpa using hjl), List.getElem_map]; with_reducible rfl) ?_))
      simp only [rulesK, Nat.reduceEqDiff]
      refine D.sq (D.region (T := none_) (by simp only [rulesA, rulesB, numbered, ayield, mapO, constAV, scAV, optval, abin, aint, acmp, aconv, aun, aeq, aminmax, afieldAddr, abuild, anew, fieldPlaces, afill, setSeg, kn_P, Nat.reduceAdd, Nat.reduceMul, Nat.reducePow, Nat.reduceSub, Nat.reduceEqDiff, Nat.reduceLT, Nat.reduceLeDiff, Int.reduceEq, Int.reduceNe, Int.reduceLT, Int.reduceLE, Int.reduceAdd, Int.reduceSub, Int.reduceToNat, Int.reduceBNe, Int.reduceBEq, tyR, lookK (mOld (q := q) hM)]; with_reducible rfl) ?_)
      simp only [rulesK, Nat.reduceEqDiff]
      refine D.sq (D.region (T := none_) (by simp only [rulesA, rulesB, numbered, ayield, mapO, constAV, scAV, optval, abin, aint, acmp, aconv, aun, aeq, aminmax, afieldAddr, abuild, anew, fieldPlaces, afill, setSeg, kn_P, Nat.reduceAdd, Nat.reduceMul, Nat.reducePow, Nat.reduceSub, Nat.reduceEqDiff, Nat.reduceLT, Nat.reduceLeDiff, Int.reduceEq, Int.reduceNe, Int.reduceLT, Int.reduceLE, Int.reduceAdd, Int.reduceSub, Int.reduceToNat, Int.reduceBNe, Int.reduceBEq, tyR, lookK hM.now]; with_reducible rfl) ?_)
      simp only [rulesK, Nat.reduceEqDiff]
      have hI' := hI
      generalize (so.take j).foldl (stO (olq f g q)) (stq n f g so q) = s at hM hI' ⊢
      generalize so[j] = id
      cases ho : olq f g q id with
      | none =>
        refine D.sq (D.region (T := none_) (by simp only [rulesA, rulesB, numbered, ayield, mapO, constAV, scAV, optval, abin, aint, acmp, aconv, aun, aeq, aminmax, afieldAddr, abuild, anew, fieldPlaces, afill, setSeg, kn_P, Nat.reduceAdd, Nat.reduceMul, Nat.reducePow, Nat.reduceSub, Nat.reduceEqDiff, Nat.reduceLT, Nat.reduceLeDiff, Int.reduceEq, Int.reduceNe, Int.reduceLT, Int.reduceLE, Int.reduceAdd, Int.reduceSub, Int.reduceToNat, Int.reduceBNe, Int.reduceBEq, tyR, ho, Option.isSome_none, Option.getD_none, hso]; with_reducible rfl) ?_)
        simp only [rulesK, Nat.reduceEqDiff]
        refine D.cond (by simp only [rulesA, rulesB, numbered, ayield, mapO, constAV, scAV, optval, abin, aint, acmp, aconv, aun, aeq, aminmax, afieldAddr, abuild, anew, fieldPlaces, afill, setSeg, kn_P, Nat.reduceAdd, Nat.reduceMul, Nat.reducePow, Nat.reduceSub, Nat.reduceEqDiff, Nat.reduceLT, Nat.reduceLeDiff, Int.reduceEq, Int.reduceNe, Int.reduceLT, Int.reduceLE, Int.reduceAdd, Int.reduceSub, Int.reduceToNat, Int.reduceBNe, Int.reduceBEq, tyR]; with_reducible rfl) (fun h => ?_) (fun h => ?_)
        · cases h
        refine D.skip ?_
        simp only [rulesK, Nat.reduceEqDiff]
        rw [stO_no ho]
        exact ⟨hM, by exact E_le (by decide) (E_size _ _) (by simp only [List.forall_mem_cons, List.not_mem_nil, false_implies, implies_true, and_true, E_get, Nat.reduceEqDiff, Nat.reduceLT, Nat.reduceLeDiff, if_true, if_false, and_self, true_and] <;> first | rfl | exact ⟨rfl, rfl⟩)⟩
      | some c0 =>
        obtain ⟨hc0, hcn⟩ : 0 ≤ c0 ∧ c0 < n := by
          match q, hql with
          | 0, _ => exact hf id c0 ho
          | 1, _ => exact hg id c0 ho
        obtain ⟨k, rfl⟩ : ∃ k : Nat, c0 = k := ⟨c0.toNat, by omega⟩
        have hkn : k < s.2.length := by have := hI'.len; omega
        cases hh : (s.1 id).isSome with
        | true =>
          refine D.sq (D.region (T := none_) (by simp only [rulesA, rulesB, numbered, ayield, mapO, constAV, scAV, optval, abin, aint, acmp, aconv, aun, aeq, aminmax, afieldAddr, abuild, anew, fieldPlaces, afill, setSeg, kn_P, Nat.reduceAdd, Nat.reduceMul, Nat.reducePow, Nat.reduceSub, Nat.reduceEqDiff, Nat.reduceLT, Nat.reduceLeDiff, Int.reduceEq, Int.reduceNe, Int.reduceLT, Int.reduceLE, Int.reduceAdd, Int.reduceSub, Int.reduceToNat, Int.reduceBNe, Int.reduceBEq, tyR, ho, hh, Option.getD_some]; with_reducible rfl) ?_)
          simp only [rulesK, Nat.reduceEqDiff]
          refine D.cond (by simp only [rulesA, rulesB, numbered, ayield, mapO, constAV, scAV, optval, abin, aint, acmp, aconv, aun, aeq, aminmax, afieldAddr, abuild, anew, fieldPlaces, afill, setSeg, kn_P, Nat.reduceAdd, Nat.reduceMul, Nat.reducePow, Nat.reduceSub, Nat.reduceEqDiff, Nat.reduceLT, Nat.reduceLeDiff, Int.reduceEq, Int.reduceNe, Int.reduceLT, Int.reduceLE, Int.reduceAdd, Int.reduceSub, Int.reduceToNat, Int.reduceBNe, Int.reduceBEq, tyR]; with_reducible rfl) (fun h => ?_) (fun h => ?_)
          · cases h
          refine D.skip ?_
          simp only [rulesK, Nat.reduceEqDiff]
          rw [stO_has ho hh]
          exact ⟨hM, by exact E_le (by decide) (E_size _ _) (by simp only [List.forall_mem_cons, List.not_mem_nil, false_implies, implies_true, and_true, E_get, Nat.reduceEqDiff, Nat.reduceLT, Nat.reduceLeDiff, if_true, if_false, and_self, true_and] <;> first | rfl | exact ⟨rfl, rfl⟩)⟩
        | false =>
          have hsl := hI'.len ▸ (hM.sl (G := G) (base := base) (w0 := w0))
          have hgd : s.2[k] = s.2.getD k false := by rw [List.getD_eq_getElem?_getD, List.getElem?_eq_getElem hkn]; rfl
          refine D.sq (D.region (T := none_) (by simp only [rulesA, rulesB, numbered, ayield, mapO, constAV, scAV, optval, abin, aint, acmp, aconv, aun, aeq, aminmax, afieldAddr, abuild, anew, fieldPlaces, afill, setSeg, kn_P, Nat.reduceAdd, Nat.reduceMul, Nat.reducePow, Nat.reduceSub, Nat.reduceEqDiff, Nat.reduceLT, Nat.reduceLeDiff, Int.reduceEq, Int.reduceNe, Int.reduceLT, Int.reduceLE, Int.reduceAdd, Int.reduceSub, Int.reduceToNat, Int.reduceBNe, Int.reduceBEq, tyR, ho, hh, Option.getD_some, hsl.ia Try.underlying55 sz4 (i := k) (by simpa using hkn), hsl.ld ag4 (i := k) (by simpa using hkn), List.getElem_map, hgd]; with_reducible rfl) ?_)
          simp only [rulesK, Nat.reduceEqDiff]
          refine D.cond (by simp only [rulesA, rulesB, numbered, ayield, mapO, constAV, scAV, optval, abin, aint, acmp, aconv, aun, aeq, aminmax, afieldAddr, abuild, anew, fieldPlaces, afill, setSeg, kn_P, Nat.reduceAdd, Nat.reduceMul, Nat.reducePow, Nat.reduceSub, Nat.reduceEqDiff, Nat.reduceLT, Nat.reduceLeDiff, Int.reduceEq, Int.reduceNe, Int.reduceLT, Int.reduceLE, Int.reduceAdd, Int.reduceSub, Int.reduceToNat, Int.reduceBNe, Int.reduceBEq, tyR]; with_reducible rfl) (fun h => ?_) (fun h => ?_)
          · simp only [Bool.not_eq_true'] at h
            have h0 : s.1 id = none := by simpa using hh
            obtain ⟨o, ho1, ho2, ho3⟩ := hM.put (G := G) (base := base) (w0 := w0) (by omega) id k hkn
            refine D.region (T := none_) (by simp only [rulesA, rulesB, numbered, ayield, mapO, constAV, scAV, optval, abin, aint, acmp, aconv, aun, aeq, aminmax, afieldAddr, abuild, anew, fieldPlaces, afill, setSeg, kn_P, Nat.reduceAdd, Nat.reduceMul, Nat.reducePow, Nat.reduceSub, Nat.reduceEqDiff, Nat.reduceLT, Nat.reduceLeDiff, Int.reduceEq, Int.reduceNe, Int.reduceLT, Int.reduceLE, Int.reduceAdd, Int.reduceSub, Int.reduceToNat, Int.reduceBNe, Int.reduceBEq, tyR, ho1, Option.getD_some, hsl.ia Try.underlying55 sz4 (i := k) (by simpa using hkn), astore, ptrAt, Nat.mul_one, ho2]; with_reducible rfl) ?_
            simp only [rulesK, Nat.reduceEqDiff]
            rw [stO_put ho h0 h]
            exact ⟨ho3, by exact E_le (by decide) (E_size _ _) (by simp only [List.forall_mem_cons, List.not_mem_nil, false_implies, implies_true, and_true, E_get, Nat.reduceEqDiff, Nat.reduceLT, Nat.reduceLeDiff, if_true, if_false, and_self, true_and] <;> first | rfl | exact ⟨rfl, rfl⟩)⟩
          · simp only [Bool.not_eq_false'] at h
            refine D.skip ?_
            simp only [rulesK, Nat.reduceEqDiff]
            rw [stO_tk ho h]
            exact ⟨hM, by exact E_le (by decide) (E_size _ _) (by simp only [List.forall_mem_cons, List.not_mem_nil, false_implies, implies_true, and_true, E_get, Nat.reduceEqDiff, Nat.reduceLT, Nat.reduceLeDiff, if_true, if_false, and_self, true_and] <;> first | rfl | exact ⟨rfl, rfl⟩)⟩
    · simp only [decide_eq_false_iff_not, Int.ofNat_lt] at h
      refine D.exit ?_
      simp only [rulesK, Nat.reduceEqDiff]
      have hM' := stq_succ n f g so q hql ▸ (show Mid H2 Hc.length (Hc.length + 1) n H' (so.foldl (stO (olq f g q)) (stq n f g so q)) by
        have : j = so.length := by omega
        subst this
        rwa [List.take_length] at hM)
      refine D.region (T := none_) (by simp only [rulesA, rulesB, numbered, ayield, mapO, constAV, scAV, optval, abin, aint, acmp, aconv, aun, aeq, aminmax, afieldAddr, abuild, anew, fieldPlaces, afill, setSeg, kn_P, Nat.reduceAdd, Nat.reduceMul, Nat.reducePow, Nat.reduceSub, Nat.reduceEqDiff, Nat.reduceLT, Nat.reduceLeDiff, Int.reduceEq, Int.reduceNe, Int.reduceLT, Int.reduceLE, Int.reduceAdd, Int.reduceSub, Int.reduceToNat, Int.reduceBNe, Int.reduceBEq, tyR, wrapN (q + 1) (show (q : Int) + 1 = ((q + 1 : Nat) : Int) by omega) (by omega)]; with_reducible rfl) ?_
      simp only [rulesK, Nat.reduceEqDiff]
      exact ⟨2 - (q + 1), by omega, q + 1, (by first | exact rfl | exact True.intro), by omega, hM', by exact E_le (by decide) (E_size _ _) (by simp only [List.forall_mem_cons, List.not_mem_nil, false_implies, implies_true, and_true, E_get, Nat.reduceEqDiff, Nat.reduceLT, Nat.reduceLeDiff, if_true, if_false, and_self, true_and] <;> first | rfl | exact ⟨rfl, rfl⟩)⟩
  · simp only [decide_eq_false_iff_not] at h
    refine D.exit ?_
    simp only [rulesK, Nat.reduceEqDiff]
    obtain rfl : q = 2 := by omega
    have hI := sI 2 (by omega)
    change Mid H2 Hc.length (Hc.length + 1) n H' (so.foldl (stO g) (so.foldl (stO f) (st0 n))) at hM
    change Inv n so (so.foldl (stO g) (so.foldl (stO f) (st0 n))) at hI
    generalize hs0 : so.foldl (stO g) (so.foldl (stO f) (st0 n)) = s0 at hM hI
    refine D.forget (env0 := E 148 [(7, .slice (.own Hc.length) 1 0 n), (8, .map (.own (Hc.length + 1))), (6, vo), (1, v), (0, .ptr (.own p) 0)]) (by exact E_le (by decide) (E_size _ _) (by simp only [List.forall_mem_cons, List.not_mem_nil, false_implies, implies_true, and_true, E_get, Nat.reduceEqDiff, Nat.reduceLT, Nat.reduceLeDiff, if_true, if_false, and_self, true_and] <;> first | rfl | exact ⟨rfl, rfl⟩)) ?_
    -- those without a core
    refine D.sq (D.sq (D.region (T := none_) (by simp only [rulesA, rulesB, numbered, ayield, mapO, constAV, scAV, optval, abin, aint, acmp, aconv, aun, aeq, aminmax, afieldAddr, abuild, anew, fieldPlaces, afill, setSeg, kn_P, Nat.reduceAdd, Nat.reduceMul, Nat.reducePow, Nat.reduceSub, Nat.reduceEqDiff, Nat.reduceLT, Nat.reduceLeDiff, Int.reduceEq, Int.reduceNe, Int.reduceLT, Int.reduceLE, Int.reduceAdd, Int.reduceSub, Int.reduceToNat, Int.reduceBNe, Int.reduceBEq, tyR, (mVo hM).len Try.underlying26, ints_len]; with_reducible rfl) ?_))
    simp only [rulesK, Nat.reduceEqDiff]
    refine D.bl ?_
    refine D.lp (fun m env H' => ∃ j : Nat, m = so.length - j ∧ j ≤ so.length ∧ Mid H2 Hc.length (Hc.length + 1) n H' ((so.take j).foldl stN s0) ∧ ELe (E 148 [(101, .int .i64 j), (100, .int .i64 so.length), (99, vo), (7, .slice (.own Hc.length) 1 0 n), (8, .map (.own (Hc.length + 1))), (6, vo), (1, v), (0, .ptr (.own p) 0)]) env) so.length ⟨0, by omega, by omega, hM, by exact E_le (by decide) (E_size _ _) (by simp only [List.forall_mem_cons, List.not_mem_nil, false_implies, implies_true, and_true, E_get, Nat.reduceEqDiff, Nat.reduceLT, Nat.reduceLeDiff, if_true, if_false, and_self, true_and] <;> first | rfl | exact ⟨rfl, rfl⟩)⟩ ?_
    clear hM H'
    rintro m env H' ⟨j, rfl, hj, hM, he⟩
    refine D.forget he ?_
    clear he h
    have hIj := (foldN_inv hnds (by omega) (so.take j) (fun a ha => List.mem_of_mem_take ha) hI).1
    refine D.sq (D.region (T := none_) (by simp only [rulesA, rulesB, numbered, ayield, mapO, constAV, scAV, optval, abin, aint, acmp, aconv, aun, aeq, aminmax, afieldAddr, abuild, anew, fieldPlaces, afill, setSeg, kn_P, Nat.reduceAdd, Nat.reduceMul, Nat.reducePow, Nat.reduceSub, Nat.reduceEqDiff, Nat.reduceLT, Nat.reduceLeDiff, Int.reduceEq, Int.reduceNe, Int.reduceLT, Int.reduceLE, Int.reduceAdd, Int.reduceSub, Int.reduceToNat, Int.reduceBNe, Int.reduceBEq, tyR]; with_reducible rfl) ?_)
    simp only [rulesK, Nat.reduceEqDiff]
    refine D.sq (D.cond (by simp only [rulesA, rulesB, numbered, ayield, mapO, constAV, scAV, optval, abin, aint, acmp, aconv, aun, aeq, aminmax, afieldAddr, abuild, anew, fieldPlaces, afill, setSeg, kn_P, Nat.reduceAdd, Nat.reduceMul, Nat.reducePow, Nat.reduceSub, Nat.reduceEqDiff, Nat.reduceLT, Nat.reduceLeDiff, Int.reduceEq, Int.reduceNe, Int.reduceLT, Int.reduceLE, Int.reduceAdd, Int.reduceSub, Int.reduceToNat, Int.reduceBNe, Int.reduceBEq, tyR]; with_reducible rfl) (fun h => ?_) (fun h => ?_))
    · simp only [decide_eq_true_eq, Int.ofNat_lt] at h
      have hjl := h
      clear h
      refine D.skip ?_
      simp only [rulesK, Nat.reduceEqDiff]
      refine D.sq (D.cut (fun env' H'' => Mid H2 Hc.length (Hc.length + 1) n H'' (stN ((so.take j).foldl stN s0) so[j]) ∧ ELe (E 148 [(101, .int .i64 j), (100, .int .i64 so.length), (99, vo), (7, .slice (.own Hc.length) 1 0 n), (8, .map (.own (Hc.length + 1))), (6, vo), (1, v), (0, .ptr (.own p) 0)]) env') ?_ ?_)
      rotate_left
      · rintro env' H'' ⟨hM', he⟩
        refine D.forget he ?_
        refine D.region (T := none_) (by simp only [rulesA, rulesB, numbered, ayield, mapO, constAV, scAV, optval, abin, aint, acmp, aconv, aun, aeq, aminmax, afieldAddr, abuild, anew, fieldPlaces, afill, setSeg, kn_P, Nat.reduceAdd, Nat.reduceMul, Nat.reducePow, Nat.reduceSub, Nat.reduceEqDiff, Nat.reduceLT, Nat.reduceLeDiff, Int.reduceEq, Int.reduceNe, Int.reduceLT, Int.reduceLE, Int.reduceAdd, Int.reduceSub, Int.reduceToNat, Int.reduceBNe, Int.reduceBEq, tyR, wrapN (j + 1) (show (j : Int) + 1 = ((j + 1 : Nat) : Int) by omega) (by omega)]; with_reducible rfl) ?_
        simp only [rulesK, Nat.reduceEqDiff]
        exact ⟨so.length - (j + 1), by omega, j + 1, (by first | exact rfl | exact True.intro), by omega, by rw [fold_take _ _ _ _ hjl]; exact hM', by exact E_le (by decide) (E_size _ _) (by simp only [List.forall_mem_cons, List.not_mem_nil, false_implies, implies_true, and_true, E_get, Nat.reduceEqDiff, Nat.reduceLT, Nat.reduceLeDiff, if_true, if_false, and_self, true_and] <;> first | rfl | exact ⟨rfl, rfl⟩)⟩
      refine D.bl (D.sq (D.region (T := none_) (by simp only [rulesA, rulesB, numbered, ayield, mapO, constAV, scAV, optval, abin, aint, acmp, aconv, aun, aeq, aminmax, afieldAddr, abuild, anew, fieldPlaces, afill, setSeg, kn_P, Nat.reduceAdd, Nat.reduceMul, Nat.reducePow, Nat.reduceSub, Nat.reduceEqDiff, Nat.reduceLT, Nat.reduceLeDiff, Int.reduceEq, Int.reduceNe, Int.reduceLT, Int.reduceLE, Int.reduceAdd, Int.reduceSub, Int.reduceToNat, Int.reduceBNe, Int.reduceBEq, tyR, (mVo hM).ia Try.underlying26 sz3 (i := j) (by simpa using hjl), (mVo hM).ld ag3 (i := j) (by simpa using hjl), List.getElem_map]; with_reducible rfl) ?_))
      simp only [rulesK, Nat.reduceEqDiff]
      refine D.sq (D.region (T := none_) (by simp only [rulesA, rulesB, numbered, ayield, mapO, constAV, scAV, optval, abin, aint, acmp, aconv, aun, aeq, aminmax, afieldAddr, abuild, anew, fieldPlaces, afill, setSeg, kn_P, Nat.reduceAdd, Nat.reduceMul, Nat.reducePow, Nat.reduceSub, Nat.reduceEqDiff, Nat.reduceLT, Nat.reduceLeDiff, Int.reduceEq, Int.reduceNe, Int.reduceLT, Int.reduceLE, Int.reduceAdd, Int.reduceSub, Int.reduceToNat, Int.reduceBNe, Int.reduceBEq, tyR, lookK hM.now]; with_reducible rfl) ?_)
      simp only [rulesK, Nat.reduceEqDiff]
      have hmem : so[j] ∈ so := List.getElem_mem hjl
      generalize (so.take j).foldl stN s0 = s at hM hIj ⊢
      generalize so[j] = id at hmem ⊢
      refine D.sq (D.region (T := none_) (by simp only [rulesA, rulesB, numbered, ayield, mapO, constAV, scAV, optval, abin, aint, acmp, aconv, aun, aeq, aminmax, afieldAddr, abuild, anew, fieldPlaces, afill, setSeg, kn_P, Nat.reduceAdd, Nat.reduceMul, Nat.reducePow, Nat.reduceSub, Nat.reduceEqDiff, Nat.reduceLT, Nat.reduceLeDiff, Int.reduceEq, Int.reduceNe, Int.reduceLT, Int.reduceLE, Int.reduceAdd, Int.reduceSub, Int.reduceToNat, Int.reduceBNe, Int.reduceBEq, tyR]; with_reducible rfl) ?_)
      simp only [rulesK, Nat.reduceEqDiff]
      cases hh : s.1 id with
      | some c0 =>
        refine D.cond (by simp only [rulesA, rulesB, numbered, ayield, mapO, constAV, scAV, optval, abin, aint, acmp, aconv, aun, aeq, aminmax, afieldAddr, abuild, anew, fieldPlaces, afill, setSeg, kn_P, Nat.reduceAdd, Nat.reduceMul, Nat.reducePow, Nat.reduceSub, Nat.reduceEqDiff, Nat.reduceLT, Nat.reduceLeDiff, Int.reduceEq, Int.reduceNe, Int.reduceLT, Int.reduceLE, Int.reduceAdd, Int.reduceSub, Int.reduceToNat, Int.reduceBNe, Int.reduceBEq, tyR, hh, Option.isSome_some]; with_reducible rfl) (fun h => ?_) (fun h => ?_)
        · cases h
        refine D.skip ?_
        simp only [rulesK, Nat.reduceEqDiff]
        have : stN s id = s := by unfold stN; rw [hh]; rfl
        rw [this]
        exact ⟨hM, by exact E_le (by decide) (E_size _ _) (by simp only [List.forall_mem_cons, List.not_mem_nil, false_implies, implies_true, and_true, E_get, Nat.reduceEqDiff, Nat.reduceLT, Nat.reduceLeDiff, if_true, if_false, and_self, true_and] <;> first | rfl | exact ⟨rfl, rfl⟩)⟩
      | none =>
        refine D.cond (by simp only [rulesA, rulesB, numbered, ayield, mapO, constAV, scAV, optval, abin, aint, acmp, aconv, aun, aeq, aminmax, afieldAddr, abuild, anew, fieldPlaces, afill, setSeg, kn_P, Nat.reduceAdd, Nat.reduceMul, Nat.reducePow, Nat.reduceSub, Nat.reduceEqDiff, Nat.reduceLT, Nat.reduceLeDiff, Int.reduceEq, Int.reduceNe, Int.reduceLT, Int.reduceLE, Int.reduceAdd, Int.reduceSub, Int.reduceToNat, Int.reduceBNe, Int.reduceBEq, tyR, hh, Option.isSome_none]; with_reducible rfl) (fun h => ?_) (fun h => ?_)
        rotate_left
        · cases h
        obtain ⟨k, hk1, hk2⟩ := hIj.free (by omega) hh hmem
        have hkn : k < s.2.length := (List.getElem?_eq_some_iff.1 hk2).1
        have hsl := hIj.len ▸ (hM.sl (G := G) (base := base) (w0 := w0))
        have hb20 : hasBody Try.prog 20 = true := by kernel_rfl
        obtain ⟨ri, Hi, hc20, rfl, hri⟩ := call_only (κ := kn G base w0) (f := 20) (args := [.slice (.own Hc.length) 1 0 n, .bool false]) (H := H') (fun _ H r H' => IdxS s.2 H r H') (index_ok hsl (by have := hIj.len; omega))
        obtain rfl := hri k hk1
        refine D.sq (D.regC hc20 (by simp only [rulesA, rulesB, numbered, ayield, mapO, constAV, scAV, optval, abin, aint, acmp, aconv, aun, aeq, aminmax, afieldAddr, abuild, anew, fieldPlaces, afill, setSeg, kn_P, Nat.reduceAdd, Nat.reduceMul, Nat.reducePow, Nat.reduceSub, Nat.reduceEqDiff, Nat.reduceLT, Nat.reduceLeDiff, Int.reduceEq, Int.reduceNe, Int.reduceLT, Int.reduceLE, Int.reduceAdd, Int.reduceSub, Int.reduceToNat, Int.reduceBNe, Int.reduceBEq, tyR, hc20, hb20, List.append_nil]; with_reducible rfl) ?_)
        simp only [rulesK, Nat.reduceEqDiff]
        obtain ⟨o, ho1, ho2, ho3⟩ := hM.put (G := G) (base := base) (w0 := w0) (by omega) id k hkn
        refine D.region (T := none_) (by simp only [rulesA, rulesB, numbered, ayield, mapO, constAV, scAV, optval, abin, aint, acmp, aconv, aun, aeq, aminmax, afieldAddr, abuild, anew, fieldPlaces, afill, setSeg, kn_P, Nat.reduceAdd, Nat.reduceMul, Nat.reducePow, Nat.reduceSub, Nat.reduceEqDiff, Nat.reduceLT, Nat.reduceLeDiff, Int.reduceEq, Int.reduceNe, Int.reduceLT, Int.reduceLE, Int.reduceAdd, Int.reduceSub, Int.reduceToNat, Int.reduceBNe, Int.reduceBEq, tyR, ho1, hsl.ia Try.underlying55 sz4 (i := k) (by simpa using hkn), astore, ptrAt, Nat.mul_one, ho2]; with_reducible rfl) ?_
        simp only [rulesK, Nat.reduceEqDiff]
        have : stN s id = (upd1 s.1 id (some (k : Int)), s.2.set k true) := by unfold stN; rw [hh, hk1]; rfl
        rw [this]
        exact ⟨ho3, by exact E_le (by decide) (E_size _ _) (by simp only [List.forall_mem_cons, List.not_mem_nil, false_implies, implies_true, and_true, E_get, Nat.reduceEqDiff, Nat.reduceLT, Nat.reduceLeDiff, if_true, if_false, and_self, true_and] <;> first | rfl | exact ⟨rfl, rfl⟩)⟩
    · simp only [decide_eq_false_iff_not, Int.ofNat_lt] at h
      refine D.exit ?_
      simp only [rulesK, Nat.reduceEqDiff]
      have hM' : Mid H2 Hc.length (Hc.length + 1) n H' (sitSt n f g so) := by
        have hjs : j = so.length := by omega
        subst hjs
        rw [List.take_length] at hM
        unfold sitSt
        rw [hs0]
        exact hM
      obtain ⟨hall, hIn, _⟩ := sit_facts hnds (by omega) hf hg
      clear hM hIj hI hs0 s0
      generalize hsN : (sitSt n f g so) = s at hM' hall hIn
      refine D.forget (env0 := E 148 [(8, .map (.own (Hc.length + 1))), (1, v), (0, .ptr (.own p) 0)]) (by exact E_le (by decide) (E_size _ _) (by simp only [List.forall_mem_cons, List.not_mem_nil, false_implies, implies_true, and_true, E_get, Nat.reduceEqDiff, Nat.reduceLT, Nat.reduceLeDiff, if_true, if_false, and_self, true_and] <;> first | rfl | exact ⟨rfl, rfl⟩)) ?_
      -- who sits now
      have hrow : hat H' p = some (.row 49 3 [.int .i64 n, .map (.own m1), .map (.own m2)]) := by rw [hM'.at (by omega) (by omega) (by omega)]; exact hs2.row
      have hpl := hat_lt hrow
      refine D.sq (D.region (T := none_) (by simp only [rulesA, rulesB, numbered, ayield, mapO, constAV, scAV, optval, abin, aint, acmp, aconv, aun, aeq, aminmax, afieldAddr, abuild, anew, fieldPlaces, afill, setSeg, kn_P, Nat.reduceAdd, Nat.reduceMul, Nat.reducePow, Nat.reduceSub, Nat.reduceEqDiff, Nat.reduceLT, Nat.reduceLeDiff, Int.reduceEq, Int.reduceNe, Int.reduceLT, Int.reduceLE, Int.reduceAdd, Int.reduceSub, Int.reduceToNat, Int.reduceBNe, Int.reduceBEq, tyR, astore, wr_own hrow (show 1 < 3 by omega) (show (AV.map (.own (Hc.length + 1))).one = true from rfl), List.set_cons_succ, List.set_cons_zero]; with_reducible rfl) ?_)
      simp only [rulesK, Nat.reduceEqDiff]
      have hkH : Keep Hc (H'.set p (some (.row 49 3 [.int .i64 n, .map (.own (Hc.length + 1)), .map (.own m2)]))) (fun j => j = p) := by
        refine ⟨by have := hM'.keep.1; rw [List.length_set]; omega, fun j hj hne => ?_⟩
        rw [hat_ne _ hne, hM'.at (by omega) (by omega) (by omega)]
        exact hk2.2 _ hj id
      have h3row : hat (H'.set p (some (.row 49 3 [.int .i64 n, .map (.own (Hc.length + 1)), .map (.own m2)]))) p = some (.row 49 3 [.int .i64 n, .map (.own (Hc.length + 1)), .map (.own m2)]) := hat_eq _ hpl
      have h3now : IM (H'.set p (some (.row 49 3 [.int .i64 n, .map (.own (Hc.length + 1)), .map (.own m2)]))) (Hc.length + 1) s.1 := hM'.now.keep (hat_ne _ (by omega))
      have hmp2 : m2 ≠ p := fun e => hsb.ne2 e.symm
      have h3last : IM (H'.set p (some (.row 49 3 [.int .i64 n, .map (.own (Hc.length + 1)), .map (.own m2)]))) m2 g := hs2.last.keep (by rw [hat_ne _ hmp2, hM'.at (by omega) (by omega) (by omega)])
      generalize (H'.set p (some (.row 49 3 [.int .i64 n, .map (.own (Hc.length + 1)), .map (.own m2)]))) = H3 at hkH h3row h3now h3last ⊢
      have h3v : Sl (kn G base w0).c H3 v (ints ids) := hvb.keep hkH (fun b hb => ⟨hvc b hb, (hva b hb).2.1⟩)
      refine D.sq (D.region (T := none_) (by simp only [rulesA, rulesB, numbered, ayield, mapO, constAV, scAV, optval, abin, aint, acmp, aconv, aun, aeq, aminmax, afieldAddr, abuild, anew, fieldPlaces, afill, setSeg, kn_P, Nat.reduceAdd, Nat.reduceMul, Nat.reducePow, Nat.reduceSub, Nat.reduceEqDiff, Nat.reduceLT, Nat.reduceLeDiff, Int.reduceEq, Int.reduceNe, Int.reduceLT, Int.reduceLE, Int.reduceAdd, Int.reduceSub, Int.reduceToNat, Int.reduceBNe, Int.reduceBEq, tyR]; with_reducible rfl) ?_)
      simp only [rulesK, Nat.reduceEqDiff]
      refine D.sq (D.sq (D.region (T := none_) (by simp only [rulesA, rulesB, numbered, ayield, mapO, constAV, scAV, optval, abin, aint, acmp, aconv, aun, aeq, aminmax, afieldAddr, abuild, anew, fieldPlaces, afill, setSeg, kn_P, Nat.reduceAdd, Nat.reduceMul, Nat.reducePow, Nat.reduceSub, Nat.reduceEqDiff, Nat.reduceLT, Nat.reduceLeDiff, Int.reduceEq, Int.reduceNe, Int.reduceLT, Int.reduceLE, Int.reduceAdd, Int.reduceSub, Int.reduceToNat, Int.reduceBNe, Int.reduceBEq, tyR, h3v.len Try.underlying26, ints_len]; with_reducible rfl) ?_))
      simp only [rulesK, Nat.reduceEqDiff]
      have h3l := h3now.lt
      have h3p := hat_lt h3row
      refine D.bl ?_
      refine D.lp (fun m env H' => ∃ (j : Nat) (o : AV), m = ids.length - j ∧ j ≤ ids.length ∧ Keep H3 H' (fun j => j = m2) ∧ IM H' m2 ((ids.take j).foldl (fun g id => upd1 g id (some ((s.1 id).getD 0))) g) ∧
        Own H' o 3 (ints ((ids.take j).map fun id => (s.1 id).getD 0)) ∧ (∀ b, o.at? = some b → H3.length ≤ b) ∧
        ELe (E 148 [(128, .int .i64 j), (127, .int .i64 ids.length), (126, v), (22, o), (8, .map (.own (Hc.length + 1))), (1, v), (0, .ptr (.own p) 0)]) env) ids.length
        ⟨0, .nilslice, by omega, by omega, Keep.refl _, h3last, Own.nil, (by intro b hb; cases hb), by exact E_le (by decide) (E_size _ _) (by simp only [List.forall_mem_cons, List.not_mem_nil, false_implies, implies_true, and_true, E_get, Nat.reduceEqDiff, Nat.reduceLT, Nat.reduceLeDiff, if_true, if_false, and_self, true_and] <;> first | rfl | exact ⟨rfl, rfl⟩)⟩ ?_
      clear h hM' hrow hpl H'
      rintro m env H' ⟨j, o, rfl, hj, hk3, hIl, hO3, ho3, he⟩
      refine D.forget he ?_
      clear he
      have h4v : Sl (kn G base w0).c H' v (ints ids) := h3v.keep hk3 (fun b hb => ⟨by have := hvc b hb; have := hkH.1; omega, (hva b hb).2.2.2⟩)
      have h4row : hat H' p = some (.row 49 3 [.int .i64 n, .map (.own (Hc.length + 1)), .map (.own m2)]) := by rw [hk3.2 p h3p (fun e => hmp2 e.symm)]; exact h3row
      have h4now : IM H' (Hc.length + 1) s.1 := h3now.keep (hk3.2 _ h3l (by omega))
      refine D.sq (D.region (T := none_) (by simp only [rulesA, rulesB, numbered, ayield, mapO, constAV, scAV, optval, abin, aint, acmp, aconv, aun, aeq, aminmax, afieldAddr, abuild, anew, fieldPlaces, afill, setSeg, kn_P, Nat.reduceAdd, Nat.reduceMul, Nat.reducePow, Nat.reduceSub, Nat.reduceEqDiff, Nat.reduceLT, Nat.reduceLeDiff, Int.reduceEq, Int.reduceNe, Int.reduceLT, Int.reduceLE, Int.reduceAdd, Int.reduceSub, Int.reduceToNat, Int.reduceBNe, Int.reduceBEq, tyR]; with_reducible rfl) ?_)
      simp only [rulesK, Nat.reduceEqDiff]
      refine D.sq (D.cond (by simp only [rulesA, rulesB, numbered, ayield, mapO, constAV, scAV, optval, abin, aint, acmp, aconv, aun, aeq, aminmax, afieldAddr, abuild, anew, fieldPlaces, afill, setSeg, kn_P, Nat.reduceAdd, Nat.reduceMul, Nat.reducePow, Nat.reduceSub, Nat.reduceEqDiff, Nat.reduceLT, Nat.reduceLeDiff, Int.reduceEq, Int.reduceNe, Int.reduceLT, Int.reduceLE, Int.reduceAdd, Int.reduceSub, Int.reduceToNat, Int.reduceBNe, Int.reduceBEq, tyR]; with_reducible rfl) (fun h => ?_) (fun h => ?_))
      · simp only [decide_eq_true_eq, Int.ofNat_lt] at h
        have hjl := h
        clear h
        refine D.skip ?_
        simp only [rulesK, Nat.reduceEqDiff]
        refine D.sq (D.bl (D.sq (D.region (T := none_) (by simp only [rulesA, rulesB, numbered, ayield, mapO, constAV, scAV, optval, abin, aint, acmp, aconv, aun, aeq, aminmax, afieldAddr, abuild, anew, fieldPlaces, afill, setSeg, kn_P, Nat.reduceAdd, Nat.reduceMul, Nat.reducePow, Nat.reduceSub, Nat.reduceEqDiff, Nat.reduceLT, Nat.reduceLeDiff, Int.reduceEq, Int.reduceNe, Int.reduceLT, Int.reduceLE, Int.reduceAdd, Int.reduceSub, Int.reduceToNat, Int.reduceBNe, Int.reduceBEq, tyR, h4v.ia Try.underlying26 sz3 (i := j) (by simpa using hjl), h4v.ld ag3 (i := j) (by simpa using hjl), List.getElem_map]; with_reducible rfl) ?_)))
        simp only [rulesK, Nat.reduceEqDiff]
        obtain ⟨ob, hob1, hob2⟩ := hIl.put (c := (kn G base w0).c) Try.underlying47 Try.underlying3 ids[j] ((s.1 ids[j]).getD 0)
        refine D.sq (D.draw (T := none_) (by kernel_rfl) (by simp only [rulesA, rulesB, numbered, ayield, mapO, constAV, scAV, optval, abin, aint, acmp, aconv, aun, aeq, aminmax, afieldAddr, abuild, anew, fieldPlaces, afill, setSeg, kn_P, Nat.reduceAdd, Nat.reduceMul, Nat.reducePow, Nat.reduceSub, Nat.reduceEqDiff, Nat.reduceLT, Nat.reduceLeDiff, Int.reduceEq, Int.reduceNe, Int.reduceLT, Int.reduceLE, Int.reduceAdd, Int.reduceSub, Int.reduceToNat, Int.reduceBNe, Int.reduceBEq, tyR, aload, rd_own h4row, lookK h4now, hob1]; with_reducible rfl) ?_)
        simp only [rulesK, Nat.reduceEqDiff]
        have h5row : hat (H'.set m2 (some ob)) p = some (.row 49 3 [.int .i64 n, .map (.own (Hc.length + 1)), .map (.own m2)]) := by rw [hat_ne _ (fun e => hmp2 e.symm)]; exact h4row
        have h5now : IM (H'.set m2 (some ob)) (Hc.length + 1) s.1 := h4now.keep (hat_ne _ (by omega))
        have h5last := hob2 (H'.set m2 (some ob)) (hat_eq _ hIl.lt)
        have h5O : Own (H'.set m2 (some ob)) o 3 (ints ((ids.take j).map fun id => (s.1 id).getD 0)) := hO3.keep (fun b hb => hat_ne _ (by have := ho3 b hb; have := hkH.1; omega))
        have h5k : Keep H3 (H'.set m2 (some ob)) (fun j => j = m2) := hk3.trans ((Keep.set m2 _))
        generalize H'.set m2 (some ob) = H5 at h5row h5now h5last h5O h5k ⊢
        obtain ⟨o', H6, ha1, ha2, ha3, a, ha4, ha5⟩ := h5O.app (c := (kn G base w0).c) Try.underlying26 in3 zc3 (x := .int .i64 ((s.1 ids[j]).getD 0)) (by omega) rfl (by simp; omega)
        refine D.region (T := none_) (by simp only [rulesA, rulesB, numbered, ayield, mapO, constAV, scAV, optval, abin, aint, acmp, aconv, aun, aeq, aminmax, afieldAddr, abuild, anew, fieldPlaces, afill, setSeg, kn_P, Nat.reduceAdd, Nat.reduceMul, Nat.reducePow, Nat.reduceSub, Nat.reduceEqDiff, Nat.reduceLT, Nat.reduceLeDiff, Int.reduceEq, Int.reduceNe, Int.reduceLT, Int.reduceLE, Int.reduceAdd, Int.reduceSub, Int.reduceToNat, Int.reduceBNe, Int.reduceBEq, tyR, lookK h5now, abuildSlice, reps, fresh, ha1]; with_reducible rfl) ?_
        simp only [rulesK, Nat.reduceEqDiff]
        have hk6 : Keep H3 H6 (fun j => j = m2) := h5k.trans' ha3 (fun i hi hio => absurd (ho3 i hio) (by omega))
        refine D.region (T := none_) (by simp only [rulesA, rulesB, numbered, ayield, mapO, constAV, scAV, optval, abin, aint, acmp, aconv, aun, aeq, aminmax, afieldAddr, abuild, anew, fieldPlaces, afill, setSeg, kn_P, Nat.reduceAdd, Nat.reduceMul, Nat.reducePow, Nat.reduceSub, Nat.reduceEqDiff, Nat.reduceLT, Nat.reduceLeDiff, Int.reduceEq, Int.reduceNe, Int.reduceLT, Int.reduceLE, Int.reduceAdd, Int.reduceSub, Int.reduceToNat, Int.reduceBNe, Int.reduceBEq, tyR, wrapN (j + 1) (show (j : Int) + 1 = ((j + 1 : Nat) : Int) by omega) (by omega)]; with_reducible rfl) ?_
        simp only [rulesK, Nat.reduceEqDiff]
        refine ⟨ids.length - (j + 1), by omega, j + 1, o', (by first | exact rfl | exact True.intro), by omega, hk6, ?_, ?_, ?_, by exact E_le (by decide) (E_size _ _) (by simp only [List.forall_mem_cons, List.not_mem_nil, false_implies, implies_true, and_true, E_get, Nat.reduceEqDiff, Nat.reduceLT, Nat.reduceLeDiff, if_true, if_false, and_self, true_and] <;> first | rfl | exact ⟨rfl, rfl⟩)⟩
        · rw [fold_take _ _ _ _ hjl]
          refine h5last.keep (ha3.2 _ ?_ ?_)
          · have := h5k.1; omega
          · intro e; have := ho3 _ e; have := hkH.1; omega
        · have e : ints ((ids.take (j + 1)).map fun id => (s.1 id).getD 0) = ints ((ids.take j).map fun id => (s.1 id).getD 0) ++ [.int .i64 ((s.1 ids[j]).getD 0)] := by
            rw [List.take_succ_eq_append_getElem hjl]; simp only [ints, List.map_append, List.map_cons, List.map_nil]
          rw [e]; exact ha2
        · intro b hb
          rw [ha4] at hb; cases hb
          have := h5k.1; omega
      · simp only [decide_eq_false_iff_not, Int.ofNat_lt] at h
        refine D.exit ?_
        simp only [rulesK, Nat.reduceEqDiff]
        have hjs : j = ids.length := by omega
        subst hjs
        rw [List.take_length] at hIl hO3
        refine D.sq (D.region (T := none_) (by simp only [rulesA, rulesB, numbered, ayield, mapO, constAV, scAV, optval, abin, aint, acmp, aconv, aun, aeq, aminmax, afieldAddr, abuild, anew, fieldPlaces, afill, setSeg, kn_P, Nat.reduceAdd, Nat.reduceMul, Nat.reducePow, Nat.reduceSub, Nat.reduceEqDiff, Nat.reduceLT, Nat.reduceLeDiff, Int.reduceEq, Int.reduceNe, Int.reduceLT, Int.reduceLE, Int.reduceAdd, Int.reduceSub, Int.reduceToNat, Int.reduceBNe, Int.reduceBEq, tyR]; with_reducible rfl) ?_)
        simp only [rulesK, Nat.reduceEqDiff]
        refine D.ret ?_
        simp only [rulesK, Nat.reduceEqDiff]
        refine ⟨_, by simp only [resOf, aresult, rulesA, rulesB, numbered, ayield, mapO, constAV, scAV, optval, abin, aint, acmp, aconv, aun, aeq, aminmax, afieldAddr, abuild, anew, fieldPlaces, afill, setSeg, kn_P, Nat.reduceAdd, Nat.reduceMul, Nat.reducePow, Nat.reduceSub, Nat.reduceEqDiff, Nat.reduceLT, Nat.reduceLeDiff, Int.reduceEq, Int.reduceNe, Int.reduceLT, Int.reduceLE, Int.reduceAdd, Int.reduceSub, Int.reduceToNat, Int.reduceBNe, Int.reduceBEq, tyR]; with_reducible rfl, ?_⟩
        have hsn : sitN n f g ids = s.1 := by unfold sitN; rw [hso, hsN]
        refine ⟨?_, .inr (.inr ⟨hmany, hnd, o, Hc.length + 1, rfl, ⟨h4row, by rw [hsn]; exact h4now, ?_, by omega⟩, by rw [hsn]; exact hO3, ?_, ?_⟩)⟩
        · have k1 : Keep H Hc (fun j => j = p ∨ j = m1 ∨ j = m2) := hk0.mono (fun _ _ h => h.elim)
          exact (k1.trans' hkH (fun _ _ e => .inl e)).trans' hk3 (fun _ _ e => .inr (.inr e))
        · unfold after; rw [hsn]; exact hIl
        · have := hk0.1; omega
        · intro b hb
          have := ho3 b hb; have := hkH.1; have := hk0.1; omega
end Go.Proofs.Ytffpahpbgeillaa.sy

/- Before the laws (own work): the document's example, run by the machine; what Sit comes to. -/
namespace Go.Proofs.Ytffpahpbgeillaa.sy
open Go.AM Go.AM.Seat
set_option linter.unusedSimpArgs false
set_option linter.unusedVariables false
variable {G : List Nat → Option (List AV)} {base : Nat} {w0 : World}
set_option maxRecDepth 100000
theorem awake_run : isTrue (acall (kn G base w0).c drawRunB gcCall (vals.prims (kn G base w0).c) 60 8 [] []) = true := by kernel_rfl
theorem awake_ok : ∃ r H', Pt (kn G base w0) 8 [] [] r H' ∧ r = .bool true := by
  obtain ⟨H', h⟩ := isTrue_some awake_run
  exact ⟨_, H', Pt.run (κ := kn G base w0) (vals.prims_ok (c := (kn G base w0).c) rfl base w0) h, rfl⟩
theorem tmodN (a b : Nat) : (a : Int).tmod (b : Int) = ((a % b : Nat) : Int) := rfl
theorem ofN (n : Nat) : (OfNat.ofNat n : Int) = ((OfNat.ofNat n : Nat) : Int) := rfl
/-- all that is kept of seats -/
structure Good (n : Nat) (f g : Int → Option Int) : Prop where
  fr : ∀ a c, f a = some c → 0 ≤ c ∧ c < n
  gr : ∀ a c, g a = some c → 0 ≤ c ∧ c < n
  inj : ∀ a b c, f a = some c → f b = some c → a = b
theorem Good.none (n : Nat) : Good n (fun _ => none) (fun _ => none) := ⟨by simp, by simp, by simp⟩
theorem after_eq (g now : Int → Option Int) (ids : List Int) (q : Int) : after g now ids q = if q ∈ ids then some ((now q).getD 0) else g q := fold_upd ids g q
theorem Good.sit {n : Nat} {f g : Int → Option Int} (h : Good n f g) {ids : List Int} (hn : ids.Nodup) (hl : ids.length ≤ n) :
    Good n (sitN n f g ids) (after g (sitN n f g ids) ids) ∧ (∀ a ∈ ids, ∃ c, sitN n f g ids a = some c) ∧ (∀ a, a ∉ ids → sitN n f g ids a = Option.none) ∧ (∀ a ∈ ids, ∀ c, f a = some c → sitN n f g ids a = some c) := by
  have hp := isortI_perm ids
  obtain ⟨h1, h2, h3⟩ := sit_facts (n := n) (f := f) (g := g) (l := isortI ids) (hp.nodup_iff.2 hn) (by rw [hp.length_eq]; exact hl) h.fr h.gr
  have a1 : ∀ a ∈ ids, ∃ c, sitN n f g ids a = some c := fun a ha => h1 a (hp.mem_iff.2 ha)
  refine ⟨⟨fun a c hc => ⟨(h2.rng a c hc).1, (h2.rng a c hc).2.1⟩, fun a c hc => ?_, h2.inj⟩, a1, fun a ha => ?_, fun a ha c hc => h3 h.inj a (hp.mem_iff.2 ha) c hc⟩
  · rw [after_eq] at hc
    split at hc
    · rename_i hm
      obtain ⟨c', hc'⟩ := a1 a hm
      rw [hc'] at hc
      cases hc
      exact ⟨(h2.rng a c' hc').1, (h2.rng a c' hc').2.1⟩
    · exact h.gr a c hc
  · cases hq : sitN n f g ids a with
    | none => rfl
    | some c => exact absurd (hp.mem_iff.1 (h2.rng a c hq).2.2.2) ha
end Go.Proofs.Ytffpahpbgeillaa.sy

/- Seats as the document has them, in plain Lean (own work): picking one at a time ends as going through in order; the table of those that sat. -/
namespace Go.AM.Seat
open Go.AM
set_option linter.unusedVariables false
set_option linter.unusedSimpArgs false
section
variable {step : St → Int → St} {el : St → Int → Prop} {s0 s : St} {order : List Int}
/-- the first ones in the order have been gone through, and none of them may be picked any more -/
def Rch (step : St → Int → St) (el : St → Int → Prop) (s0 : St) (order : List Int) (s : St) : Prop :=
  ∃ a b, order = a ++ b ∧ s = a.foldl step s0 ∧ ∀ x ∈ a, ¬ el s x
theorem Rch.init : Rch step el s0 order s0 := ⟨[], order, rfl, rfl, by simp⟩
theorem fold_no (h0 : ∀ s x, ¬ el s x → step s x = s) : ∀ (l : List Int), (∀ x ∈ l, ¬ el s x) → l.foldl step s = s
  | [], _ => rfl
  | x :: r, h => by
    rw [List.foldl_cons, h0 s x (h x (by simp))]
    exact fold_no h0 r fun y hy => h y (by simp [hy])
theorem Rch.pick (h0 : ∀ s x, ¬ el s x → step s x = s) (h1 : ∀ s x, el s x → ¬ el (step s x) x) (h2 : ∀ s x y, el (step s x) y → el s y) (hs : order.Pairwise (· ≤ ·))
    (h : Rch step el s0 order s) {x : Int} (hx : x ∈ order) (he : el s x) (hl : ∀ y ∈ order, el s y → x ≤ y) : Rch step el s0 order (step s x) := by
  obtain ⟨a, b, rfl, rfl, hn⟩ := h
  have hxa : x ∉ a := fun h => hn x h he
  have hxb : x ∈ b := by rcases List.mem_append.1 hx with h | h; exact absurd h hxa; exact h
  obtain ⟨c, d, rfl, hxc⟩ := List.eq_append_cons_of_mem hxb
  have hc : ∀ y ∈ c, ¬ el (a.foldl step s0) y := by
    intro y hy hey
    have h3 := hl y (by simp [hy]) hey
    have h4 := (List.pairwise_append.1 ((List.pairwise_append.1 hs).2.1)).2.2 y hy x (by simp)
    have : y = x := by omega
    exact hxc (this ▸ hy)
  refine ⟨a ++ (c ++ [x]), d, by simp, ?_, ?_⟩
  · rw [List.foldl_append, List.foldl_append, fold_no h0 c hc]; rfl
  · intro z hz hez
    rcases List.mem_append.1 hz with h | h
    · exact hn z h (h2 _ _ _ hez)
    · rcases List.mem_append.1 h with h | h
      · exact hc z h (h2 _ _ _ hez)
      · rw [List.mem_singleton] at h
        subst h
        exact h1 _ _ he hez
theorem Rch.done (h0 : ∀ s x, ¬ el s x → step s x = s) (h : Rch step el s0 order s) (hn : ∀ x ∈ order, ¬ el s x) : s = order.foldl step s0 := by
  obtain ⟨a, b, rfl, rfl, _⟩ := h
  rw [List.foldl_append, fold_no h0 b fun x hx => hn x (by simp [hx])]
end
/-- may one be picked in the first turn: it has no core, and its last one is free -/
def el0 (g : Int → Option Int) (s : St) (x : Int) : Prop := s.1 x = none ∧ ∃ c, g x = some c ∧ s.2.getD c.toNat false = false
/-- in the second: it has no core -/
def el1 (s : St) (x : Int) : Prop := s.1 x = none ∧ ∃ i, s.2.findIdx? (fun b => b == false) = some i
theorem el0_no (g : Int → Option Int) : ∀ s x, ¬ el0 g s x → stO g s x = s := by
  intro s x h
  unfold stO
  split
  · rename_i c hc
    rw [if_neg]
    intro hh
    simp only [Bool.and_eq_true, Bool.not_eq_true', Option.isNone_iff_eq_none] at hh
    exact h ⟨hh.1, c, hc, hh.2⟩
  · rfl
theorem el0_yes {g : Int → Option Int} {s : St} {x c : Int} (h0 : s.1 x = none) (hc : g x = some c) (h2 : s.2.getD c.toNat false = false) : stO g s x = (upd1 s.1 x (some c), s.2.set c.toNat true) := by
  unfold stO; rw [hc]; simp only [h0, h2, Option.isNone_none, Bool.not_false, Bool.and_self, if_true]
theorem el0_self (g : Int → Option Int) : ∀ s x, el0 g s x → ¬ el0 g (stO g s x) x := by
  rintro s x ⟨h0, c, hc, h2⟩ ⟨h3, _⟩
  rw [el0_yes h0 hc h2] at h3
  simp [upd1] at h3
theorem getD_set {l : List Bool} {i j : Nat} (h : (l.set i true).getD j false = false) : l.getD j false = false := by
  rw [List.getD_eq_getElem?_getD, List.getElem?_set] at h
  rw [List.getD_eq_getElem?_getD]
  split at h
  · split at h
    · cases h
    · rename_i e hh; subst e; rw [List.getElem?_eq_none (by omega)]; rfl
  · exact h
theorem el0_anti (g : Int → Option Int) : ∀ s x y, el0 g (stO g s x) y → el0 g s y := by
  intro s x y h
  by_cases he : el0 g s x
  · obtain ⟨h0, c, hc, h2⟩ := he
    rw [el0_yes h0 hc h2] at h
    obtain ⟨h3, d, hd, h4⟩ := h
    refine ⟨?_, d, hd, getD_set h4⟩
    simp only [upd1] at h3
    split at h3
    · cases h3
    · exact h3
  · rw [el0_no g s x he] at h; exact h
theorem el1_no : ∀ s x, ¬ el1 s x → stN s x = s := by
  intro s x h
  unfold stN
  split
  · rfl
  · rename_i h1
    split
    · rename_i i hi
      exact absurd ⟨by simpa using h1, i, hi⟩ h
    · rfl
theorem el1_yes {s : St} {x : Int} {i : Nat} (h0 : s.1 x = none) (hi : s.2.findIdx? (fun b => b == false) = some i) : stN s x = (upd1 s.1 x (some (i : Int)), s.2.set i true) := by
  unfold stN; rw [h0, hi]; rfl
theorem el1_self : ∀ s x, el1 s x → ¬ el1 (stN s x) x := by
  rintro s x ⟨h0, i, hi⟩ ⟨h3, _⟩
  rw [el1_yes h0 hi] at h3
  simp [upd1] at h3
theorem free_set {l : List Bool} {i j : Nat} (h : (l.set i true).findIdx? (fun b => b == false) = some j) : ∃ k, l.findIdx? (fun b => b == false) = some k := by
  have : false ∈ l := by
    obtain ⟨hj, hb, _⟩ := List.findIdx?_eq_some_iff_getElem.1 h
    have hb' : (l.set i true)[j] = false := by simpa using hb
    have hm : false ∈ l.set i true := hb' ▸ List.getElem_mem hj
    rcases List.mem_or_eq_of_mem_set hm with h | h
    · exact h
    · cases h
  cases hq : l.findIdx? (fun b => b == false) with
  | some k => exact ⟨k, rfl⟩
  | none =>
    rw [List.findIdx?_eq_none_iff] at hq
    have := hq false this
    simp at this
theorem el1_anti : ∀ s x y, el1 (stN s x) y → el1 s y := by
  intro s x y h
  by_cases he : el1 s x
  · obtain ⟨h0, i, hi⟩ := he
    rw [el1_yes h0 hi] at h
    obtain ⟨h3, j, hj⟩ := h
    refine ⟨?_, free_set hj⟩
    simp only [upd1] at h3
    split at h3
    · cases h3
    · exact h3
  · rw [el1_no s x he] at h; exact h
/-! ### those who stay -/
def stay (f : Int → Option Int) (n : Nat) (l : List Int) : St := (fun a => if a ∈ l then f a else none, (List.range n).map fun (c : Nat) => l.any fun a => f a == some (c : Int))
theorem stay_nil (f : Int → Option Int) (n : Nat) : stay f n [] = st0 n := by
  simp only [stay, st0, List.not_mem_nil, if_false, List.any_nil]
  congr 1
  rw [List.map_const', List.length_range]
theorem stay_perm {f : Int → Option Int} {n : Nat} {l m : List Int} (h : l.Perm m) : stay f n l = stay f n m := by
  simp only [stay]
  congr 1
  · funext a; simp only [h.mem_iff]
  · apply List.map_congr_left
    intro c _
    rw [Bool.eq_iff_iff]
    simp only [List.any_eq_true]
    exact ⟨fun ⟨a, ha, e⟩ => ⟨a, h.mem_iff.1 ha, e⟩, fun ⟨a, ha, e⟩ => ⟨a, h.mem_iff.2 ha, e⟩⟩
theorem stay_add_none {f : Int → Option Int} {n : Nat} {l : List Int} {x : Int} (h : f x = none) : stay f n (l ++ [x]) = stay f n l := by
  simp only [stay]
  congr 1
  · funext a
    by_cases ha : a ∈ l
    · simp [ha]
    · by_cases e : a = x
      · subst e; simp [h]
      · simp [ha, e]
  · apply List.map_congr_left
    intro c _
    simp [h]
theorem stay_add {f : Int → Option Int} {n : Nat} {l : List Int} {x c : Int} (h : f x = some c) (hc : 0 ≤ c) (hn : c < n) : stay f n (l ++ [x]) = (upd1 (stay f n l).1 x (some c), (stay f n l).2.set c.toNat true) := by
  simp only [stay]
  congr 1
  · funext a
    simp only [upd1]
    by_cases e : a = x
    · subst e; simp [h]
    · simp [e]
  · apply List.ext_getElem?
    intro i
    simp only [List.getElem?_map, List.getElem?_set, List.length_map, List.length_range, List.any_append, List.any_cons, List.any_nil, Bool.or_false]
    by_cases hi : c.toNat = i
    · subst hi
      rw [if_pos rfl, if_pos (by omega), List.getElem?_range (by omega)]
      simp [h, Int.toNat_of_nonneg hc]
    · rw [if_neg hi]
      rcases Nat.lt_or_ge i n with h1 | h1
      · rw [List.getElem?_range h1]
        have : (f x == some (i : Int)) = false := by rw [h]; simp; omega
        simp [this]
      · rw [List.getElem?_eq_none (by simpa using h1)]; rfl
theorem stay_get {f : Int → Option Int} {n : Nat} {l : List Int} {c : Int} (hc : 0 ≤ c) (hn : c < n) : (stay f n l).2.getD c.toNat false = l.any fun a => f a == some c := by
  simp only [stay, List.getD_eq_getElem?_getD, List.getElem?_map]
  rw [List.getElem?_range (by omega)]
  simp [Int.toNat_of_nonneg hc]
theorem stay_len {f : Int → Option Int} {n : Nat} {l : List Int} : (stay f n l).2.length = n := by simp [stay]
theorem stay_fold {f : Int → Option Int} {n : Nat} (hinj : ∀ a b c, f a = some c → f b = some c → a = b) (hf : ∀ a c, f a = some c → 0 ≤ c ∧ c < n) : ∀ (r done : List Int), (done ++ r).Nodup → r.foldl (stO f) (stay f n done) = stay f n (done ++ r)
  | [], done, _ => by simp
  | x :: r, done, hn => by
    have e : done ++ x :: r = (done ++ [x]) ++ r := by simp
    rw [e] at hn ⊢
    rw [← stay_fold hinj hf r (done ++ [x]) hn, List.foldl_cons]
    congr 1
    have hx : x ∉ done := by
      intro hx
      have := (List.nodup_append.1 ((List.nodup_append.1 hn).1)).2.2 x hx x (by simp)
      exact this rfl
    cases hfx : f x with
    | none => rw [stay_add_none hfx]; simp [stO, hfx]
    | some c =>
      obtain ⟨h0, h1⟩ := hf x c hfx
      rw [stay_add hfx h0 h1]
      refine el0_yes (by simp [stay, hx]) hfx ?_
      rw [stay_get h0 h1, List.any_eq_false]
      intro a ha hh
      have := hinj a x c (by simpa using hh) hfx
      exact hx (this ▸ ha)
theorem stay_all {f : Int → Option Int} {n : Nat} (hinj : ∀ a b c, f a = some c → f b = some c → a = b) (hf : ∀ a c, f a = some c → 0 ≤ c ∧ c < n) {l m : List Int} (hn : l.Nodup) (hp : l.Perm m) : l.foldl (stO f) (st0 n) = stay f n m := by
  rw [← stay_nil f n, stay_fold hinj hf l [] (by simpa using hn), List.nil_append, stay_perm hp]
/-! ### both turns in one -/
def stp (g : Int → Option Int) : Nat → St → Int → St | 0 => stO g | _ => stN
def elq (g : Int → Option Int) : Nat → St → Int → Prop | 0 => el0 g | _ => el1
def rq (n : Nat) (f g : Int → Option Int) (l : List Int) : Nat → St
  | 0 => l.foldl (stO f) (st0 n)
  | 1 => l.foldl (stO g) (l.foldl (stO f) (st0 n))
  | _ => sitSt n f g l
theorem rq_succ (n : Nat) (f g : Int → Option Int) (l : List Int) : ∀ q, q < 2 → rq n f g l (q + 1) = l.foldl (stp g q) (rq n f g l q)
  | 0, _ => rfl
  | 1, _ => rfl
theorem stp_no (g : Int → Option Int) : ∀ q s x, ¬ elq g q s x → stp g q s x = s
  | 0 => el0_no g
  | _ + 1 => el1_no
theorem stp_self (g : Int → Option Int) : ∀ q s x, elq g q s x → ¬ elq g q (stp g q s x) x
  | 0 => el0_self g
  | _ + 1 => el1_self
theorem stp_anti (g : Int → Option Int) : ∀ q s x y, elq g q (stp g q s x) y → elq g q s y
  | 0 => el0_anti g
  | _ + 1 => el1_anti
theorem stp_inv {g : Int → Option Int} {n : Nat} {l : List Int} (hn : l.Nodup) (hl : l.length ≤ n) (hg : ∀ a c, g a = some c → 0 ≤ c ∧ c < n) : ∀ q {s : St}, Inv n l s → ∀ {x}, x ∈ l → Inv n l (stp g q s x)
  | 0, _, h, _, hx => h.old hn hg hx
  | _ + 1, _, h, _, hx => (h.new hn hl hx).1
/-- the least one that may be picked among the first i -/
def Srch (el : Int → Prop) (ids : List Int) (i : Nat) (x : Int) : Prop :=
  (x = -1 ∧ ∀ j (hj : j < ids.length), j < i → ¬ el ids[j]) ∨ ∃ (a : Nat) (ha : a < ids.length), a < i ∧ x = a ∧ el ids[a] ∧ ∀ j (hj : j < ids.length), j < i → el ids[j] → ids[a] ≤ ids[j]
theorem Srch.init (el : Int → Prop) (ids : List Int) : Srch el ids 0 (-1) := .inl ⟨rfl, fun j hj h => by omega⟩
theorem Srch.no {el : Int → Prop} {ids : List Int} {i : Nat} {x : Int} (h : Srch el ids i x) (hi : i < ids.length) (hn : ¬ el ids[i]) : Srch el ids (i + 1) x := by
  have key : ∀ j, j < i + 1 → j ≠ i → j < i := fun j h1 h2 => by omega
  rcases h with ⟨rfl, h⟩ | ⟨a, ha, hai, rfl, he, hl⟩
  · refine .inl ⟨rfl, fun j hj hji => ?_⟩
    by_cases e : j = i
    · subst e; exact hn
    · exact h j hj (key j hji e)
  · refine .inr ⟨a, ha, by omega, rfl, he, fun j hj hji hej => ?_⟩
    by_cases e : j = i
    · subst e; exact absurd hej hn
    · exact hl j hj (key j hji e) hej
theorem Srch.first {el : Int → Prop} {ids : List Int} {i : Nat} (h : ∀ j (hj : j < ids.length), j < i → ¬ el ids[j]) (hi : i < ids.length) (hn : el ids[i]) : Srch el ids (i + 1) i := by
  refine .inr ⟨i, hi, by omega, rfl, hn, fun j hj hji hej => ?_⟩
  by_cases e : j = i
  · subst e; exact Int.le_refl _
  · exact absurd hej (h j hj (by omega))
theorem Srch.less {el : Int → Prop} {ids : List Int} {i a : Nat} (ha : a < ids.length) (hl : ∀ j (hj : j < ids.length), j < i → el ids[j] → ids[a] ≤ ids[j]) (hi : i < ids.length) (hn : el ids[i]) (hlt : ids[i] < ids[a]) : Srch el ids (i + 1) i := by
  refine .inr ⟨i, hi, by omega, rfl, hn, fun j hj hji hej => ?_⟩
  by_cases e : j = i
  · subst e; exact Int.le_refl _
  · have := hl j hj (by omega) hej; omega
theorem Srch.keep {el : Int → Prop} {ids : List Int} {i a : Nat} (ha : a < ids.length) (hai : a < i) (he : el ids[a]) (hl : ∀ j (hj : j < ids.length), j < i → el ids[j] → ids[a] ≤ ids[j]) (hi : i < ids.length) (hlt : ¬ ids[i] < ids[a]) : Srch el ids (i + 1) a := by
  refine .inr ⟨a, ha, by omega, rfl, he, fun j hj hji hej => ?_⟩
  by_cases e : j = i
  · subst e; omega
  · exact hl j hj (by omega) hej
/-- the cores told, one for each that sits; -1: none as yet -/
def cr (s : St) (ids : List Int) : List Int := ids.map fun a => (s.1 a).getD (-1)
theorem cr_len (s : St) (ids : List Int) : (cr s ids).length = ids.length := by simp [cr]
theorem cr_get {s : St} {ids : List Int} {i : Nat} (hi : i < ids.length) : (cr s ids)[i]'(by rw [cr_len]; exact hi) = (s.1 ids[i]).getD (-1) := by simp [cr]
theorem cr_put {s : St} {ids : List Int} (hn : ids.Nodup) {a : Nat} (ha : a < ids.length) (c : Int) (tk : List Bool) : (cr s ids).set a c = cr (upd1 s.1 ids[a] (some c), tk) ids := by
  apply List.ext_getElem
  · simp [cr]
  · intro i h1 h2
    have hi : i < ids.length := by simpa [cr] using h2
    rw [List.getElem_set, cr_get (s := s) hi, cr_get (s := (upd1 s.1 ids[a] (some c), tk)) hi]
    simp only [upd1]
    by_cases e : a = i
    · subst e; simp
    · rw [if_neg e, if_neg (fun h => e (nodup_inj hn h).symm)]
theorem cr_stay {f : Int → Option Int} {n : Nat} {ids : List Int} : cr (stay f n ids) ids = ids.map fun a => (f a).getD (-1) := by
  apply List.map_congr_left
  intro a ha
  simp [stay, ha]
/-! ### the table of those that sat -/
structure Sa where
  id : Int
  co : Int
  nw : Bool
structure TR (L : List Sa) (f g : Int → Option Int) : Prop where
  nd : (L.map (·.id)).Nodup
  at_ : ∀ e ∈ L, g e.id = some e.co ∧ f e.id = if e.nw then some e.co else none
  no : ∀ a, (∀ e ∈ L, e.id ≠ a) → f a = none ∧ g a = none
theorem TR.nil : TR [] (fun _ => none) (fun _ => none) := ⟨by simp, by simp, fun a _ => ⟨rfl, rfl⟩⟩
theorem TR.out {L : List Sa} {f g : Int → Option Int} (h : TR L f g) {i : Nat} (hi : i < L.length) : TR (L.take i ++ L.drop (i + 1)) (upd1 f L[i].id none) (upd1 g L[i].id none) := by
  have hsub : (L.take i ++ L.drop (i + 1)).Sublist L := by
    rw [← List.eraseIdx_eq_take_drop_succ]; exact List.eraseIdx_sublist _ _
  have hne : ∀ e ∈ L.take i ++ L.drop (i + 1), e ∈ L ∧ e.id ≠ L[i].id := by
    intro e he
    rw [← List.eraseIdx_eq_take_drop_succ] at he
    obtain ⟨j, hj, hji, rfl⟩ := List.mem_eraseIdx_iff_getElem.1 he
    refine ⟨List.getElem_mem hj, fun e => hji ?_⟩
    have : (L.map (·.id))[j]'(by simpa using hj) = (L.map (·.id))[i]'(by simpa using hi) := by simp [e]
    exact nodup_inj h.nd this
  refine ⟨h.nd.sublist (hsub.map _), fun e he => ?_, fun a ha => ?_⟩
  · obtain ⟨h1, h2⟩ := hne e he
    simp only [upd1, h2, if_false]
    exact h.at_ e h1
  · simp only [upd1]
    split
    · exact ⟨rfl, rfl⟩
    · rename_i hai
      refine h.no a fun e he hea => ?_
      obtain ⟨j, hj, rfl⟩ := List.getElem_of_mem he
      by_cases hji : j = i
      · subst hji; exact hai hea.symm
      · refine ha L[j] ?_ hea
        rw [← List.eraseIdx_eq_take_drop_succ]
        exact List.mem_eraseIdx_iff_getElem.2 ⟨j, hj, hji, rfl⟩
theorem TR.skip {L : List Sa} {f g : Int → Option Int} (h : TR L f g) {a : Int} (ha : ∀ e ∈ L, e.id ≠ a) : TR L (upd1 f a none) (upd1 g a none) := by
  have e1 : upd1 f a none = f := by funext q; simp only [upd1]; split; rename_i e; rw [e, (h.no a ha).1]; rfl
  have e2 : upd1 g a none = g := by funext q; simp only [upd1]; split; rename_i e; rw [e, (h.no a ha).2]; rfl
  rw [e1, e2]; exact h
theorem TR.add {L : List Sa} {f g : Int → Option Int} (h : TR L f g) {a c : Int} (ha : ∀ e ∈ L, e.id ≠ a) : TR (L ++ [⟨a, c, true⟩]) (upd1 f a (some c)) (upd1 g a (some c)) := by
  refine ⟨?_, fun e he => ?_, fun b hb => ?_⟩
  · rw [List.map_append, List.nodup_append]
    refine ⟨h.nd, by simp, fun x hx y hy e => ?_⟩
    obtain ⟨z, hz, rfl⟩ := List.mem_map.1 hx
    simp at hy
    exact ha z hz (e.trans hy)
  · rcases List.mem_append.1 he with h1 | h1
    · simp only [upd1, ha e h1, if_false]; exact h.at_ e h1
    · simp at h1; subst h1; simp [upd1]
  · have h1 : b ≠ a := fun e => hb ⟨a, c, true⟩ (by simp) e.symm
    simp only [upd1, h1, if_false]
    exact h.no b fun e he => hb e (by simp [he])
/-- nobody sits now -/
theorem TR.clear {L : List Sa} {f g : Int → Option Int} (h : TR L f g) : TR (L.map fun e => { e with nw := false }) (fun _ => none) g := by
  refine ⟨?_, fun e he => ?_, fun a ha => ⟨rfl, (h.no a fun e he => ha { e with nw := false } (List.mem_map.2 ⟨e, he, rfl⟩)).2⟩⟩
  · rw [List.map_map]; exact h.nd
  · obtain ⟨x, hx, rfl⟩ := List.mem_map.1 he
    exact ⟨(h.at_ x hx).1, by simp⟩
theorem TR.find {L : List Sa} {f g : Int → Option Int} (h : TR L f g) (a : Int) : (g a = none ∧ f a = none ∧ ∀ e ∈ L, e.id ≠ a) ∨ ∃ i, ∃ hi : i < L.length, L[i].id = a ∧ g a = some L[i].co ∧ f a = if L[i].nw then some L[i].co else none := by
  by_cases hx : ∃ e ∈ L, e.id = a
  · obtain ⟨e, he, rfl⟩ := hx
    obtain ⟨i, hi, rfl⟩ := List.getElem_of_mem he
    exact .inr ⟨i, hi, rfl, h.at_ _ he⟩
  · have hn : ∀ e ∈ L, e.id ≠ a := fun e he h' => hx ⟨e, he, h'⟩
    exact .inl ⟨(h.no a hn).2, (h.no a hn).1, hn⟩
end Go.AM.Seat

/-
  REGIONS THAT DRAW THEIR ORDER, OVER ANY HEAP, the general law (own work): the heap is told for each set of those operations that may have been run.
-/
namespace Go.AM
open Go.RowKit
set_option linter.unusedSimpArgs false
set_option linter.unusedVariables false

variable {c : Ctx} {base : Nat} {w0 w : World} {ρ : Pl} {H : AHeap}

theorem stepV_rel {call : Callee} (hc : CallOK c base w0 call) (h : Rel c base w0 ρ H w) (hf : Fresh ρ H) {env : AEnv} {a : Act} (he : EnvR ρ env a.tmps) {ops : List Oper} {o : Oper} {u : Option AV} {H' : AHeap}
    (e : stepV c call ops o env H = some (u, H')) : ∃ x w' ρ', (∀ v, u = some v → VR ρ' v x) ∧ Post c base w0 ρ H w ρ' H' w' := by
  simp only [stepV, Option.bind_eq_some_iff] at e
  obtain ⟨b, hb, e⟩ := e
  cases b with
  | false =>
    simp only [Bool.false_eq_true, if_false, Option.some.injEq, Prod.mk.injEq] at e
    obtain ⟨rfl, rfl⟩ := e
    exact ⟨_, w, ρ, fun v hv => by cases hv; exact undef_r ρ, Post.refl h⟩
  | true =>
    simp only [if_true, Option.bind_eq_some_iff] at e
    obtain ⟨⟨r, H1⟩, hr, e⟩ := e
    obtain ⟨ρ1, n, w1, hrun, hres, hpost⟩ := op_sound h he hr (fun _ => hf _ (Nat.le_refl _))
    cases r with
    | val v =>
      cases e
      cases n <;> simp only [PRes] at hres
      rename_i x
      exact ⟨x, w1, ρ1, fun u hu => by cases hu; exact hres, hpost⟩
    | skip =>
      cases e
      cases n <;> simp only [PRes] at hres
      exact ⟨_, w1, ρ1, fun v hv => by cases hv; exact undef_r ρ1, hpost⟩
    | call f args =>
      cases n <;> simp only [PRes] at hres
      rename_i g xs
      obtain ⟨rfl, l, hl, rfl⟩ := hres
      simp only [Option.bind_eq_some_iff] at e
      obtain ⟨⟨v, H2⟩, hv, e⟩ := e
      cases e
      obtain ⟨e', w', fr, ⟨ρ', x, rfl, hvr, hp2⟩, _⟩ := hc f args H1 v H2 hv ρ1 w1 l hpost.rel (hpost.fresh hf) hl []
      exact ⟨x, w', ρ', fun u hu => by cases hu; exact hvr, hpost.trans hp2⟩

abbrev envT (ops : List Oper) (t : List (Option AV × AHeap)) (env : AEnv) (j : Nat) : AEnv := envK (fun i => (ops.getD i default).dst) (fun i => (t.getD i dft).1) (fun _ => true) env j

/-- the text's order, as it is walked -/
theorem trace_rel {call : Callee} (hc : CallOK c base w0 call) {ops : List Oper} {env : AEnv} {t : List (Option AV × AHeap)} (ht : trace c call ops ops env H = some t) (h : Rel c base w0 ρ H w) (hf : Fresh ρ H) {a : Act} (he : EnvR ρ env a.tmps) :
    ∀ j, j ≤ ops.length → ∃ ρ' w' a', Post c base w0 ρ H w ρ' (heapsOf H t j) w' ∧ EnvR ρ' (envT ops t env j) (Act.tmps a') := by
  intro j
  induction j with
  | zero => intro _; exact ⟨ρ, w, a, Post.refl h, he⟩
  | succ j ih =>
    intro hj
    obtain ⟨ρ1, w1, a1, hp, he1⟩ := ih (by omega)
    have hst := trace_at ht j _ (opsOf_get (ops := ops) (by omega))
    obtain ⟨x, w2, ρ2, hv, hp2⟩ := stepV_rel hc hp.rel (hp.fresh hf) he1 hst
    refine ⟨ρ2, w2, a1.put (opsOf ops j).dst x, hp.trans hp2, ?_⟩
    have := (he1.mono hp2.ext).put (opsOf ops j).dst hv
    exact this
theorem trace_low {call : Callee} (hc : CallOK c base w0 call) {ops : List Oper} {env : AEnv} {t : List (Option AV × AHeap)} (ht : trace c call ops ops env H = some t) (h : Rel c base w0 ρ H w) (hf : Fresh ρ H) {a : Act} (he : EnvR ρ env a.tmps) :
    ∀ j, j ≤ ops.length → heapLow (heapsOf H t j).length (heapsOf H t j) = true ∧ envLow (heapsOf H t j).length (envT ops t env j) ∧ H.length ≤ (heapsOf H t j).length := by
  intro j hj
  obtain ⟨ρ', w', a', hp, he'⟩ := trace_rel hc ht h hf he j hj
  exact ⟨hp.rel.low (hp.fresh hf), he'.low (hp.fresh hf), hp.len⟩

theorem stepV_congr {call : Callee} {ops : List Oper} {o : Oper} {e1 e2 : AEnv} (h : ∀ t, eget e1 t = eget e2 t) {K : AHeap} : stepV c call ops o e1 K = stepV c call ops o e2 K := by
  simp only [stepV, awanted_reads (ops := ops) (o := o) fun t _ => h t, aop_congr (aval_reads (ops := ops) (o := o) fun t _ => h t)]

theorem isP_stepV {call : Callee} {ops : List Oper} {o : Oper} (hp : isP o.op = true) {env : AEnv} {v : Option AV} {H' : AHeap} (e : stepV c call ops o env H = some (v, H')) : H' = H ∧ ∀ K, stepV c call ops o env K = some (v, K) := by
  simp only [stepV, Option.bind_eq_some_iff] at e
  obtain ⟨b, hb, e⟩ := e
  cases b with
  | false =>
    simp only [Bool.false_eq_true, if_false, Option.some.injEq, Prod.mk.injEq] at e
    obtain ⟨rfl, rfl⟩ := e
    exact ⟨rfl, fun K => by simp only [stepV, hb, Option.bind_some, Bool.false_eq_true, if_false]⟩
  | true =>
    simp only [if_true, Option.bind_eq_some_iff] at e
    obtain ⟨⟨r, H1⟩, hr, e⟩ := e
    obtain ⟨⟨rfl, u, rfl⟩, hk⟩ := isP_still hp hr []
    cases e
    refine ⟨rfl, fun K => ?_⟩
    have := (isP_still hp hr K).2
    simp only [stepV, hb, Option.bind_some, if_true, this]

theorem anyG_sound (hm : c.P.follows .mixedOrders = true) (call : Callee) (hc : CallOK c base w0 call) (id : Nat) (opsA : Array Oper) (env env' : AEnv) (H H' : AHeap) (t : List (Option AV × AHeap)) (ht : trace c call opsA.toList opsA.toList env H = some t)
    (hend : endOf opsA.toList t env H = (env', H')) (hedge : edgesOk opsA.toList = true) (hap : apartOk opsA.toList = true)
    (hmono0 : ∀ j, j < opsA.toList.length → (heapsOf H t j).length ≤ (heapsOf H t (j + 1)).length)
    (A : (Nat → Bool) → AHeap) (hlen : ∀ S, (A S).length = (heapsOf H t opsA.toList.length).length)
    (hA0 : ∀ S, (∀ i, S i = false) → ∀ i o, hat (A S) i = some o ↔ hat H i = some o)
    (hAn : ∀ S, (∀ i, i < opsA.toList.length → S i = true) → A S = heapsOf H t opsA.toList.length)
    (hAP : ∀ S j, j < opsA.toList.length → isP (opsOf opsA.toList j).op = true → S j = false → A (fun i => if i = j then true else S i) = A S)
    (hchk0 : ∀ (S : Nat → Bool) (j : Nat), j < opsA.toList.length → S j = false → isP (opsOf opsA.toList j).op = false →
      (∀ k, k < opsA.toList.length → S k = true → ∀ i, ((Region.before opsA.toList.toArray).getD k 0).testBit i = true → S i = true) → (∀ i, ((Region.before opsA.toList.toArray).getD j 0).testBit i = true → S i = true) →
      heapLow (heapsOf H t j).length ((A S).take (heapsOf H t j).length) = true ∧ ∃ V',
      stepV c call opsA.toList (opsOf opsA.toList j) (lowEnv (heapsOf H t j).length (envT opsA.toList t env j)) ((A S).take (heapsOf H t j).length) = some ((t.getD j dft).1, V') ∧ V'.length = (heapsOf H t (j + 1)).length ∧
        V' ++ (A S).drop (heapsOf H t (j + 1)).length = A (fun i => if i = j then true else S i))
    (ρ : Pl) (w : World) (a : Act) (h : Rel c base w0 ρ H w) (hf : Fresh ρ H) (he : EnvR ρ env a.tmps) : (Code.region id opsA true).wp c.P (Behind c base w0 ρ H w a .normal env' H') a w := by
  obtain ⟨ops⟩ := opsA
  simp only at ht hend hedge hap hmono0 hlen hAn hAP hchk0
  have hcan := fun j (hj : j < ops.length) => trace_at ht j _ (opsOf_get hj)
  obtain ⟨_, _, f3⟩ := trace_facts ht
  have hst := endOf_steps ht
  rw [f3, Option.some.injEq] at hst
  have hheap := endOf_heap ht
  rw [hend] at hst hheap
  simp only [Prod.mk.injEq] at hst
  have hE := hst.1
  change H' = _ at hheap
  subst hE hheap
  clear hst f3 hend
  simp only [envT] at hchk0
  generalize hdst : (fun i => (ops.getD i default).dst) = dst at *
  generalize hvals : (fun i => (t.getD i dft).1) = vals at *
  have hdst' : ∀ i, dst i = (opsOf ops i).dst := fun i => by rw [← hdst]; rfl
  have hvals' : ∀ i, (t.getD i dft).1 = vals i := fun i => by rw [← hvals]
  have hcan' : ∀ j, j < ops.length → stepV c call ops (opsOf ops j) (envK dst vals (fun _ => true) env j) (heapsOf H t j) = some (vals j, heapsOf H t (j + 1)) := fun j hj => by
    rw [hcan j hj, ← hvals' j]; rfl
  clear hcan
  generalize hhp : heapsOf H t = hp at *
  have hp0 : hp 0 = H := by rw [← hhp]; rfl
  generalize hs : (fun k => (hp k).length) = s at *
  have hs' : ∀ k, (hp k).length = s k := fun k => by rw [← hs]
  simp only [hs'] at hlen hmono0
  have hs0 : s 0 = H.length := by rw [← hs', hp0]
  have hmono1 : ∀ j, j < ops.length → s j ≤ s (j + 1) := hmono0
  have hmono : ∀ {j k}, j ≤ k → k ≤ ops.length → s j ≤ s k := fun hjk hk => mono_of hmono1 hjk hk
  have hedge' : ∀ j, j < ops.length → ∀ e ∈ (opsOf ops j).after.toList, Region.binds .any e = true → e.on < j := by
    intro j hj e hej hb
    have := List.all_eq_true.1 (List.all_eq_true.1 hedge j (List.mem_range.2 hj)) e hej
    rw [hb] at this
    simpa using this
  have hap' : ∀ i j, i < j → j < ops.length → ((Region.before ops.toArray).getD j 0).testBit i = true ∨ Oper.apart ops.toArray (opsOf ops i) (opsOf ops j) = true := by
    intro i j hij hj
    have := List.all_eq_true.1 (List.all_eq_true.1 hap j (List.mem_range.2 hj)) i (List.mem_range.2 hij)
    simpa only [Bool.or_eq_true] using this
  simp only [hs', hvals'] at hchk0
  generalize hbf : Region.before ops.toArray = bf at *
  have keep_mono : ∀ {S S' : Nat → Bool}, (∀ i, S i = true → S' i = true) → ∀ i, keepS s ops.length S i = true → keepS s ops.length S' i = true := by
    intro S S' hSS i hk
    rcases keepS_iff.1 hk with h1 | ⟨j, h1, h2, h3⟩
    · exact keepS_iff.2 (.inl h1)
    · exact keepS_iff.2 (.inr ⟨j, h1, hSS j h2, h3⟩)
  -- the heart: what holds when some have been run
  have main : ∀ (fuel : Nat) (listed : Array Bool) (ρ' : Pl) (a' : Act) (w' : World), listed.size = ops.length → toCome (setOf listed) ops.length = fuel →
      (∀ j, j < ops.length → setOf listed j = true → ∀ i, (bf.getD j 0).testBit i = true → setOf listed i = true) → a'.defers = a.defers →
      Post c base w0 ρ H w ρ' (A (setOf listed)) w' → EnvR ρ' (envK dst vals (setOf listed) env ops.length) a'.tmps → (∀ i p, s 0 ≤ i → ρ' (.own i) = some p → keepS s ops.length (setOf listed) i = true) →
      wpAny c.P .any ops.toArray (Behind c base w0 ρ H w a .normal (envK dst vals (fun _ => true) env ops.length) (hp ops.length)) fuel listed a' w' := by
    intro fuel
    induction fuel with
    | zero =>
      intro listed ρ' a' w' hls hcount hclosed hdf hpost henv hinv
      have hall := toCome_zero hcount
      have hE : EnvEq (envK dst vals (setOf listed) env ops.length) (envK dst vals (fun _ => true) env ops.length) :=
        ⟨by rw [envK_size, envK_size], fun t => envK_agree _ (fun i hi _ => hall i hi)⟩
      have hHH : A (setOf listed) = hp ops.length := hAn _ hall
      refine ⟨?_, rfl, hdf, ρ', hHH ▸ hpost, henv.congr hE⟩
      rw [List.eq_nil_iff_forall_not_mem]
      intro i hi
      obtain ⟨hi1, hi2, _⟩ := (mem_ready hls).1 hi
      rw [hall i hi1] at hi2; cases hi2
    | succ fuel ih =>
      intro listed ρ' a' w' hls hcount hclosed hdf hpost henv hinv
      refine ⟨fun hnil => ?_, fun j hj => ?_⟩
      · -- none is ready, and not all are through: that cannot be
        exfalso
        have hall : ∀ k, k ≤ ops.length → ∀ i, i < k → setOf listed i = true := by
          intro k
          induction k with
          | zero => intro _ i hi; omega
          | succ k ihk =>
            intro hk i hi
            by_cases hik : i = k
            · subst hik
              cases hS : setOf listed i with
              | true => rfl
              | false =>
                have : i ∈ Region.ready .any ops.toArray listed := (mem_ready hls).2 ⟨by omega, hS, fun e hej hb => ihk (by omega) _ (hedge' i (by omega) e hej hb)⟩
                rw [hnil] at this; cases this
            · exact ihk (by omega) i (by omega)
        have hz : toCome (setOf listed) ops.length = 0 := by
          have : ∀ m, m ≤ ops.length → toCome (setOf listed) m = 0 := by
            intro m hm'
            induction m with
            | zero => rfl
            | succ m ihm => simp only [toCome]; rw [ihm (by omega), hall _ (Nat.le_refl _) m (by omega)]; rfl
          exact this _ (Nat.le_refl _)
        omega
      · obtain ⟨hjn, hSj, hready⟩ := (mem_ready hls).1 hj
        have hoj := opsOf_get hjn
        have hpre : ∀ i, (bf.getD j 0).testBit i = true → setOf listed i = true := by
          intro i hi
          rw [← hbf] at hi
          obtain ⟨e, hej, hb, hq⟩ := before_bits hoj (hedge' j hjn) hi
          rcases hq with rfl | hq
          · exact hready e hej hb
          · rw [hbf] at hq
            exact hclosed e.on (by have := hedge' j hjn e hej hb; omega) (hready e hej hb) i hq
        have hpr : ∀ i, i < ops.length → i ≠ j → setOf listed i = decide (i < j) ∨ Oper.apart ops.toArray (opsOf ops (min i j)) (opsOf ops (max i j)) = true := by
          intro i hi hij
          by_cases hlt : i < j
          · rcases hap' i j hlt hjn with hb | hb
            · exact .inl (by rw [hpre i hb]; simp [hlt])
            · exact .inr (by rw [Nat.min_eq_left (by omega), Nat.max_eq_right (by omega)]; exact hb)
          · rcases hap' j i (by omega) hi with hb | hb
            · refine .inl ?_
              cases hS : setOf listed i with
              | false => simp; omega
              | true =>
                have := hclosed i hi hS j hb
                rw [hSj] at this; cases this
            · exact .inr (by rw [Nat.min_eq_right (by omega), Nat.max_eq_left (by omega)]; exact hb)
        have hreads : ∀ t ∈ (opsOf ops j).looksAt ops.toArray, eget (envK dst vals (setOf listed) env ops.length) t = eget (envK dst vals (fun _ => true) env j) t := by
          intro t ht'
          rw [← envK_upto j ops.length (by omega)]
          refine envK_agree _ (fun i hi hd => ?_)
          by_cases hij : i = j
          · subst hij; rw [hSj]; simp
          · rcases hpr i hi hij with hp | hap
            · exact hp
            · exfalso
              rw [hdst'] at hd
              by_cases hlt : i < j
              · rw [Nat.min_eq_left (by omega), Nat.max_eq_right (by omega)] at hap
                exact (Oper.apart_spec hap).1 t hd ht'
              · rw [Nat.min_eq_right (by omega), Nat.max_eq_left (by omega)] at hap
                exact (Oper.apart_spec hap).2.2 t hd ht'
        have hreads2 : ∀ t ∈ (opsOf ops j).looksAt ops.toArray, eget (lowEnv (s j) (envK dst vals (setOf listed) env ops.length)) t = eget (lowEnv (s j) (envK dst vals (fun _ => true) env j)) t := fun t ht' => by
          rw [lowEnv_get, lowEnv_get, hreads t ht']
        have hw : awanted ops (lowEnv (s j) (envK dst vals (setOf listed) env ops.length)) (opsOf ops j) = awanted ops (lowEnv (s j) (envK dst vals (fun _ => true) env j)) (opsOf ops j) := awanted_reads hreads2
        have hop : ∀ K, aop c (lowEnv (s j) (envK dst vals (setOf listed) env ops.length)) (opsOf ops j).op K = aop c (lowEnv (s j) (envK dst vals (fun _ => true) env j)) (opsOf ops j).op K := fun K => aop_congr (aval_reads hreads2) K
        generalize hS' : (fun i => if i = j then true else setOf listed i) = S' at *
        have hS'j : S' j = true := by rw [← hS']; simp
        have hS'n : ∀ i, i ≠ j → S' i = setOf listed i := fun i hi => by rw [← hS']; simp [hi]
        have hset : setOf (listed.setIfInBounds j true) = S' := by
          funext i
          simp only [setOf, Array.getD_eq_getD_getElem?, Array.getElem?_setIfInBounds]
          by_cases hij : j = i
          · subst hij
            rw [if_pos rfl, if_pos (by omega), hS'j]; rfl
          · rw [if_neg hij, hS'n i (Ne.symm hij)]
            simp [setOf, Array.getD_eq_getD_getElem?]
        have hSS' : ∀ i, setOf listed i = true → S' i = true := fun i hi => by
          by_cases hij : i = j
          · rw [hij]; exact hS'j
          · rw [hS'n i hij]; exact hi
        have henv' : EnvEq (eput (envK dst vals (setOf listed) env ops.length) (dst j) (vals j)) (envK dst vals S' env ops.length) := by
          refine ⟨by rw [eput_size, envK_size, envK_size], fun t => ?_⟩
          by_cases hdt : dst j = some t
          · have := envK_last (vals := vals) (env := env) hdt hS'j ops.length hjn (fun i h1 h2 hd => by
              rw [hS'n i (by omega)]
              rcases hpr i h2 (by omega) with hp | hap
              · rw [hp]; simp; omega
              · exfalso
                rw [Nat.min_eq_right (by omega), Nat.max_eq_left (by omega)] at hap
                rw [hdst'] at hd hdt
                exact (Oper.apart_spec hap).2.1 t hdt hd)
            rw [this, hdt]
            exact eput_eq (by rw [envK_size, envK_size])
          · rw [eput_ne hdt]
            refine envK_agree _ (fun i hi hd => ?_)
            exact (hS'n i (fun hij => hdt (by rw [← hij]; exact hd))).symm
        cases hPj : isP (opsOf ops j).op with
        | true =>
          obtain ⟨hPs, hPk⟩ := isP_stepV hPj (hcan' j hjn)
          have hw2 : awanted ops (envK dst vals (setOf listed) env ops.length) (opsOf ops j) = awanted ops (envK dst vals (fun _ => true) env j) (opsOf ops j) := awanted_reads hreads
          have hop2 : ∀ K, aop c (envK dst vals (setOf listed) env ops.length) (opsOf ops j).op K = aop c (envK dst vals (fun _ => true) env j) (opsOf ops j).op K := fun K => aop_congr (aval_reads hreads) K
          have hgo : stepV c call ops (opsOf ops j) (envK dst vals (setOf listed) env ops.length) (A (setOf listed)) = some (vals j, A (setOf listed)) := by
            rw [← hPk]
            simp only [stepV, hw2, hop2]
          have hfA : Fresh ρ' (A (setOf listed)) := fun i hi => by
            cases hq : ρ' (.own i) with
            | none => rfl
            | some p =>
              rw [hlen] at hi
              have := hinv i p (Nat.le_trans (hmono (Nat.zero_le _) (Nat.le_refl _)) hi) hq
              rcases keepS_iff.1 this with h3 | ⟨k, h3, h4, h5, h6⟩
              · have := hmono (Nat.zero_le ops.length) (Nat.le_refl _); omega
              · have := hmono (show k + 1 ≤ ops.length by omega) (Nat.le_refl _); omega
          refine stepV_sound hc hpost.rel hfA henv hoj hgo ?_
          intro x w2 ρ2 hv hp2
          have hAS : A S' = A (setOf listed) := by rw [← hS']; exact hAP _ j hjn hPj hSj
          refine ih (listed.setIfInBounds j true) ρ2 (a'.put (opsOf ops j).dst x) w2 (by simpa using hls) ?_ ?_ ?_ ?_ ?_ ?_
          · rw [hset]
            have := toCome_step hSj hS'j (fun i hi => (hS'n i hi).symm) hjn
            omega
          · rw [hset]
            intro k hk hSk i hi
            by_cases hij : i = j
            · rw [hij]; exact hS'j
            · rw [hS'n i hij]
              by_cases hkj : k = j
              · subst hkj; exact hpre i hi
              · exact hclosed k hk (by rw [← hS'n k hkj]; exact hSk) i hi
          · rw [← hdf]; cases (opsOf ops j).dst <;> rfl
          · rw [hset, hAS]; exact hpost.trans hp2
          · rw [hset]; exact EnvR.congr (by rw [hdst']; exact (henv.mono hp2.ext).put _ hv) henv'
          · rw [hset]
            intro i p h1 hq
            rcases hp2.new _ _ hq with e1 | ⟨k, hk, h2, h3⟩
            · exact keep_mono hSS' i (hinv i p h1 e1)
            · omega
        | false =>
          -- whose number it is
          have hdisj : ∀ i, s j ≤ i → i < s (j + 1) → keepS s ops.length (setOf listed) i = false := by
            intro i h1 h2
            cases hk : keepS s ops.length (setOf listed) i with
            | false => rfl
            | true =>
              exfalso
              rcases keepS_iff.1 hk with h3 | ⟨k, h3, h4, h5, h6⟩
              · have := hmono (Nat.zero_le j) (Nat.le_of_lt hjn); omega
              · rcases Nat.lt_trichotomy k j with hlt | rfl | hlt
                · have := hmono (show k + 1 ≤ j by omega) (Nat.le_of_lt hjn); omega
                · rw [hSj] at h4; cases h4
                · have := hmono (show j + 1 ≤ k by omega) (Nat.le_of_lt h3); omega
          obtain ⟨hlow, V', hsp3, hVl', hAA⟩ := hchk0 (setOf listed) j hjn hSj hPj hclosed hpre
          have hlenA := hlen (setOf listed)
          rw [hS'] at hAA
          generalize hAe : A (setOf listed) = An at *
          have hsn : s (j + 1) ≤ s ops.length := hmono (by omega) (Nat.le_refl _)
          have hsj : s j ≤ s (j + 1) := hmono1 j hjn
          have hVl : (An.take (s j)).length = s j := by rw [List.length_take]; omega
          have hVh : ∀ i, i < s j → hat (An.take (s j)) i = hat An i := fun i hi => by
            unfold hat; rw [List.getElem?_take, if_pos hi]
          have hgo : stepV c call ops (opsOf ops j) (lowEnv (s j) (envK dst vals (setOf listed) env ops.length)) (An.take (s j)) = some (vals j, V') := by
            rw [← hsp3]
            simp only [stepV, hw, hop]
          have hm' : H.length ≤ s j := by rw [← hs0]; exact hmono (Nat.zero_le _) (Nat.le_of_lt hjn)
          have hrelV := rel_part h hf hpost.ext hm' hpost.rel (fun i o e => by rw [← hVh i (hVl ▸ hat_lt e)]; exact e) hlow hVl
          have hfV : Fresh (AM.cut (s j) ρ') (An.take (s j)) := fun i hi => by
            unfold AM.cut
            rw [if_neg]
            simp [Loc.low]; omega
          refine stepV_sound hc hrelV hfV henv.cut hoj hgo ?_
          intro x w2 ρ2 hv hp2
          obtain ⟨hp3, he1, he2⟩ := post_part2 (A' := A S') hm' hpost hVh hVl hp2 (fun i h1 h2 => by
              rw [hVl'] at h2
              cases hq : ρ' (.own i) with
              | none => rfl
              | some p =>
                have := hinv i p (by have := hmono (Nat.zero_le j) (Nat.le_of_lt hjn); omega) hq
                rw [hdisj i h1 h2] at this; cases this) (fun i o => by
              rw [← hAA]
              unfold hat
              rcases Nat.lt_or_ge i V'.length with hi | hi
              · rw [List.getElem?_append_left hi]
                constructor
                · exact fun e => .inl ⟨hi, e⟩
                · rintro (⟨_, e⟩ | ⟨h1, _⟩)
                  · exact e
                  · omega
              · rw [List.getElem?_append_right hi, List.getElem?_drop, ← hVl', show V'.length + (i - V'.length) = i by omega]
                constructor
                · exact fun e => .inr ⟨hi, e⟩
                · rintro (⟨h1, _⟩ | ⟨_, e⟩)
                  · omega
                  · exact e) (by rw [← hAA, List.length_append, List.length_drop]; omega) (by rw [← hAA, List.length_append]; omega)
          refine ih (listed.setIfInBounds j true) (joinP (s j) V'.length ρ' ρ2) (a'.put (opsOf ops j).dst x) w2 (by simpa using hls) ?_ ?_ ?_ ?_ ?_ ?_
          · rw [hset]
            have := toCome_step hSj hS'j (fun i hi => (hS'n i hi).symm) hjn
            omega
          · rw [hset]
            intro k hk hSk i hi
            by_cases hij : i = j
            · rw [hij]; exact hS'j
            · rw [hS'n i hij]
              by_cases hkj : k = j
              · subst hkj; exact hpre i hi
              · exact hclosed k hk (by rw [← hS'n k hkj]; exact hSk) i hi
          · rw [← hdf]; cases (opsOf ops j).dst <;> rfl
          · rw [hset]; exact hp3
          · rw [hset]; exact EnvR.congr (by rw [hdst']; exact (henv.mono he1).put _ (fun u hu => (hv u hu).mono he2)) henv'
          · rw [hset]
            intro i p h1 hq
            simp only [joinP] at hq
            split at hq
            · rename_i hi
              rw [hVl'] at hi
              exact keepS_iff.2 (.inr ⟨j, hjn, hS'j, hi.1, hi.2⟩)
            · exact keep_mono hSS' i (hinv i p h1 hq)
  refine wp_region_any hm ?_
  have hS0 : ∀ i, setOf (Array.replicate ops.length false) i = false := fun i => by
    simp only [setOf, Array.getD_eq_getD_getElem?, Array.getElem?_replicate]
    split <;> rfl
  have hE0 : ∀ k, envK dst vals (setOf (Array.replicate ops.length false)) env k = env := by
    intro k
    induction k with
    | zero => rfl
    | succ k ihk => simp only [envK, hS0]; simpa using ihk
  have hT0 : ∀ k, toCome (setOf (Array.replicate ops.length false)) k = k := by
    intro k
    induction k with
    | zero => rfl
    | succ k ihk => simp only [toCome, hS0]; simp [ihk]
  refine main ops.length (Array.replicate ops.length false) ρ a _ (by simp) (hT0 _) (fun j _ hj => by rw [hS0] at hj; cases hj) rfl ?_ ?_ ?_
  · exact post_same (post_drew h) (hA0 _ hS0) (by rw [hlen, ← hs0]; exact hmono (Nat.zero_le _) (Nat.le_refl _))
  · rw [hE0]; exact he
  · intro i p h1 hq
    rw [hf i (by omega)] at hq; cases hq


/-! ### operations that only add, each told by what it looks at -/

theorem hat_ext {L M : AHeap} (hl : L.length = M.length) (h : ∀ b, hat L b = hat M b) : L = M := by
  apply List.ext_getElem?
  intro i
  have := h i
  unfold hat at this
  rcases Nat.lt_or_ge i L.length with hi | hi
  · rw [List.getElem?_eq_getElem hi, List.getElem?_eq_getElem (hl ▸ hi)] at this ⊢
    simpa using this
  · rw [List.getElem?_eq_none hi, List.getElem?_eq_none (hl ▸ hi)]
theorem hat_none {L : AHeap} {b : Nat} (h : L.length ≤ b) : hat L b = none := by
  unfold hat; rw [List.getElem?_eq_none h]
theorem hat_app {L M : AHeap} {b : Nat} : hat (L ++ M) b = if b < L.length then hat L b else hat M (b - L.length) := by
  unfold hat
  by_cases h : b < L.length
  · rw [if_pos h, List.getElem?_append_left h]
  · rw [if_neg h, List.getElem?_append_right (by omega)]
theorem hat_take {L : AHeap} {m b : Nat} : hat (L.take m) b = if b < m then hat L b else none := by
  unfold hat
  by_cases h : b < m
  · rw [if_pos h, List.getElem?_take, if_pos h]
  · rw [if_neg h, List.getElem?_take, if_neg h]
theorem hat_drop {L : AHeap} {m b : Nat} : hat (L.drop m) b = hat L (m + b) := by
  unfold hat; rw [List.getElem?_drop]
theorem hat_setI {L : AHeap} {i b : Nat} {o : Option AObj} : hat (L.set i o) b = if b = i ∧ i < L.length then o else hat L b := by
  split
  · rename_i h; obtain ⟨rfl, h⟩ := h; exact hat_eq o h
  · rename_i h
    by_cases hb : b = i
    · subst hb
      have : L.length ≤ b := by omega
      rw [hat_none this, hat_none (by simpa using this)]
    · exact hat_ne o hb
theorem heapLow_of {n : Nat} {L : AHeap} (h : ∀ b o, hat L b = some o → o.low n = true) : heapLow n L = true := by
  refine heapLow_iff.2 fun o ho => ?_
  obtain ⟨i, hi, he⟩ := List.getElem_of_mem ho
  refine h i o ?_
  unfold hat
  rw [List.getElem?_eq_getElem hi, he]

/-- what a listed operation looks at: its number, how many new things lie ahead of it, those that it needs, the one that it takes away, how many it makes -/
structure Lo where
  j : Nat
  ahead : Nat
  need : List Nat := []
  kill : Option Nat := none
  makes : Nat := 0

def mk1 (U : List Lo) (ops : List Oper) (j : Nat) : Nat := match U.find? (fun u => u.j == j) with
  | some u => u.makes
  | none => if isP (opsOf ops j).op then 0 else 1
def sg (U : List Lo) (ops : List Oper) : Nat → Nat
  | 0 => 0
  | j + 1 => sg U ops j + mk1 U ops j
def killOf (U : List Lo) (j : Nat) : Option Nat := (U.find? fun u => u.j == j).bind (·.kill)
def needOf (U : List Lo) (j : Nat) : List Nat := match U.find? (fun u => u.j == j) with | some u => u.need | none => []
def killK (H : AHeap) (q : Option Nat) (K : AHeap) : AHeap := match q with | none => K | some b => K.set (H.length + b) none

/-- is the last operation behind all others? -/
def lastOk (ops : List Oper) : Bool := !isP (opsOf ops (ops.length - 1)).op && (Nat.blt 0 ops.length && (List.range (ops.length - 1)).all fun i => isP (opsOf ops i).op || ((Region.before ops.toArray).getD (ops.length - 1) 0).testBit i)
def localOk (ops : List Oper) (U : List Lo) (last : Bool) : Bool :=
  edgesOk ops && (apartOk ops && ((!last || lastOk ops) && ((List.range ops.length).all fun j =>
    (isP (opsOf ops j).op && (U.find? fun u => u.j == j).isNone) || ((last && Nat.beq j (ops.length - 1) && (U.find? fun u => u.j == j).isNone) ||
      (match U.find? (fun u => u.j == j) with
       | none => plainOper (opsOf ops j)
       | some u => !isP (opsOf ops j).op && (Nat.beq u.ahead (sg U ops j) && (Nat.ble u.makes 1 && ((u.need.all fun b => (List.range j).any fun i => Nat.beq (mk1 U ops i) 1 && (Nat.beq (sg U ops i) b && ((Region.before ops.toArray).getD j 0).testBit i) && (List.range ops.length).all fun k => !(killOf U k == some b) || (Nat.beq k j || ((Region.before ops.toArray).getD k 0).testBit j)) &&
           (match u.kill with | none => true | some b => u.need.contains b)))))))))


theorem take_trace2 {call : Callee} {ops : List Oper} : ∀ {r : List Oper} {env : AEnv} {H : AHeap} {t : List (Option AV × AHeap)}, trace c call ops r env H = some t → ∀ m, m ≤ r.length →
    asteps c call ops (r.take m) env H = some (envK (fun i => (r.getD i default).dst) (fun i => (t.getD i dft).1) (fun _ => true) env m, heapsOf H t m)
  | r, env, H, t, ht, 0, _ => rfl
  | [], env, H, t, ht, m + 1, h => by simp at h
  | o :: r, env, H, t, ht, m + 1, h => by
    simp only [trace, Option.bind_eq_some_iff, Option.some.injEq] at ht
    obtain ⟨p, hp, t', ht, rfl⟩ := ht
    have ih := take_trace2 ht m (by simpa using h)
    simp only [List.take_succ_cons, asteps, astep_stepV, hp, Option.map_some, Option.bind_some]
    rw [ih, envK_shift]
    cases m <;> rfl

theorem maker_len {env : AEnv} {o : Op} (hp : plainOp o = true) (hn : isP o = false) {r : ARes} {H' : AHeap} (e : aop c env o H = some (r, H')) : H'.length = H.length + 1 := by
  unfold plainOp at hp
  split at hp <;> first | (simp [isP] at hn; done) | skip
  · simp only [aop, both, anew, Option.bind_eq_some_iff, Option.map_eq_some_iff] at e
    obtain ⟨z, hz, ⟨u, H1⟩, ⟨m, hm, e⟩, e2⟩ := e
    split at e
    · cases e; cases e2; simp [hnew]
    · cases e
  · simp only [aop, both, anew, Option.bind_eq_some_iff, Option.map_eq_some_iff] at e
    obtain ⟨z, hz, ⟨u, H1⟩, ⟨m, hm, e⟩, e2⟩ := e
    split at e
    · cases e; cases e2; simp [hnew]
    · cases e
  · simp only [aop, both, abuildSlice, Option.bind_eq_some_iff, Option.map_eq_some_iff] at e
    obtain ⟨l, hls, ⟨u, H1⟩, ⟨d, hd, e⟩, e2⟩ := e
    split at e
    · simp only [Option.bind_eq_some_iff] at e
      obtain ⟨m, hm, z, hz, e⟩ := e
      split at e
      · simp only [Option.map_eq_some_iff] at e
        obtain ⟨cs, hcs, e⟩ := e
        cases e; cases e2; simp [hnew]
      · split at e
        · cases e; cases e2; simp [hnew]
        · cases e
    · cases e
  · simp only [aop, Option.some.injEq, Prod.mk.injEq] at e
    obtain ⟨rfl, rfl⟩ := e
    simp [hnew]
  · simp only [aop, both, Option.bind_eq_some_iff] at e
    obtain ⟨u, hu, v, hv, e⟩ := e
    unfold amakeSlice at e
    split at e
    · simp only [Option.map_eq_some_iff, Option.bind_eq_some_iff] at e
      obtain ⟨⟨q, H1⟩, ⟨d, hd, e⟩, e2⟩ := e
      split at e
      · simp only [Option.bind_eq_some_iff] at e
        obtain ⟨i, hi, z, hz, e⟩ := e
        split at e
        · cases e; cases e2; simp [hnew]
        · cases e
      · cases e
    · cases e
  · cases hp

theorem sg_mono {U : List Lo} {ops : List Oper} : ∀ {i j : Nat}, i ≤ j → sg U ops i ≤ sg U ops j := by
  intro i j h
  induction j with
  | zero => obtain rfl : i = 0 := by omega
            exact Nat.le_refl _
  | succ j ih =>
    by_cases e : i = j + 1
    · subst e; exact Nat.le_refl _
    · exact Nat.le_trans (ih (by omega)) (Nat.le_add_right _ _)
theorem sg_inj {U : List Lo} {ops : List Oper} {i j : Nat} (h : sg U ops i = sg U ops j) (hi : mk1 U ops i = 1) (hj : mk1 U ops j = 1) : i = j := by
  rcases Nat.lt_trichotomy i j with h1 | h1 | h1
  · have := sg_mono (U := U) (ops := ops) (show i + 1 ≤ j by omega); simp only [sg, hi] at this; omega
  · exact h1
  · have := sg_mono (U := U) (ops := ops) (show j + 1 ≤ i by omega); simp only [sg, hj] at this; omega
theorem ifS {S : Nat → Bool} {i j : Nat} (h : S i = true) : (if i = j then true else S i) = true := by
  split
  · rfl
  · exact h
theorem killK_len {K : AHeap} {q : Option Nat} : (killK H q K).length = K.length := by cases q <;> simp [killK]
theorem killK_hat {K : AHeap} {q : Option Nat} {b : Nat} : hat (killK H q K) b = if H.length ≤ b ∧ q = some (b - H.length) then none else hat K b := by
  cases q with
  | none => simp [killK]
  | some x =>
    by_cases hb : b = H.length + x
    · subst hb
      rw [if_pos (show H.length ≤ H.length + x ∧ some x = some (H.length + x - H.length) from ⟨by omega, by congr 1; omega⟩)]
      simp only [killK, hat_setI]
      split
      · rfl
      · rename_i h; exact hat_none (by simp at h; omega)
    · rw [if_neg (fun e => hb (by have h2 := e.2; simp only [Option.some.injEq] at h2; omega))]
      simp only [killK, hat_setI]
      rw [if_neg (fun e => hb e.1)]

section
open Classical
variable (H : AHeap) (t : List (Option AV × AHeap)) (U : List Lo) (ops : List Oper) (q : Nat)
/-- who is there when those of S have been run -/
def Al (S : Nat → Bool) (b : Nat) : Prop := b < H.length ∨ ((∃ i, i < q ∧ S i = true ∧ mk1 U ops i = 1 ∧ b = H.length + sg U ops i) ∧ ∀ k, k < q → S k = true → killOf U k ≠ some (b - H.length))
noncomputable def Fo (b : Nat) : Option AObj := if b < H.length then hat H b else if h : ∃ i, i < q ∧ mk1 U ops i = 1 ∧ b = H.length + sg U ops i then hat (heapsOf H t (h.choose + 1)) b else none
noncomputable def AS (N : Nat) (S : Nat → Bool) : AHeap := (List.range N).map fun b => if Al H U ops q S b then Fo H t U ops q b else none
variable {H t U ops q}
theorem AS_len {N : Nat} {S : Nat → Bool} : (AS H t U ops q N S).length = N := by simp [AS]
theorem AS_hat {N : Nat} {S : Nat → Bool} {b : Nat} : hat (AS H t U ops q N S) b = if b < N ∧ Al H U ops q S b then Fo H t U ops q b else none := by
  unfold hat AS
  by_cases hb : b < N
  · rw [List.getElem?_eq_getElem (by simpa using hb)]
    simp only [List.getElem_map, List.getElem_range, hb, true_and]
  · rw [List.getElem?_eq_none (by simpa using hb), if_neg (fun e => hb e.1)]
theorem Fo_old {b : Nat} (h : b < H.length) : Fo H t U ops q b = hat H b := by simp [Fo, h]
theorem Fo_new {i : Nat} (hi : i < q) (h1 : mk1 U ops i = 1) : Fo H t U ops q (H.length + sg U ops i) = hat (heapsOf H t (i + 1)) (H.length + sg U ops i) := by
  have hx : ∃ i', i' < q ∧ mk1 U ops i' = 1 ∧ H.length + sg U ops i = H.length + sg U ops i' := ⟨i, hi, h1, rfl⟩
  unfold Fo
  rw [if_neg (by omega), dif_pos hx]
  have hc := hx.choose_spec
  rw [sg_inj (by omega) hc.2.1 h1]
end

theorem local_sound (hm : c.P.follows .mixedOrders = true) (call : Callee) (hc : CallOK c base w0 call) (id : Nat) (opsA : Array Oper) (env env' : AEnv) (H H' : AHeap) (U : List Lo) (last : Bool) (hs : localOk opsA.toList U last = true)
    (hst : asteps c call opsA.toList opsA.toList env H = some (env', H'))
    (hU : ∀ u ∈ U, ∃ ej Hj v news, asteps c call opsA.toList (opsA.toList.take u.j) env H = some (ej, Hj) ∧ news.length = u.makes ∧ ∀ K : AHeap, K.length = H.length + u.ahead → (∀ b, b < H.length → hat K b = hat H b) → (∀ b ∈ u.need, hat K (H.length + b) = hat Hj (H.length + b)) →
      stepV c call opsA.toList (opsOf opsA.toList u.j) ej K = some (v, killK H u.kill K ++ news))
    (ρ : Pl) (w : World) (a : Act) (h : Rel c base w0 ρ H w) (hf : Fresh ρ H) (he : EnvR ρ env a.tmps) : (Code.region id opsA true).wp c.P (Behind c base w0 ρ H w a .normal env' H') a w := by
  classical
  obtain ⟨t, ht⟩ := trace_of_steps hst
  have hend := endOf_steps ht
  rw [hst, Option.some.injEq] at hend
  have low := trace_low hc ht h hf he
  have rel := trace_rel hc ht h hf he
  generalize hops : opsA.toList = ops at *
  simp only [localOk, Bool.and_eq_true, Bool.or_eq_true, Bool.not_eq_true', List.all_eq_true, List.mem_range] at hs
  obtain ⟨hedge, hap, hlast, hall⟩ := hs
  have hcan : ∀ j, j < ops.length → stepV c call ops (opsOf ops j) (envT ops t env j) (heapsOf H t j) = some ((t.getD j dft).1, heapsOf H t (j + 1)) := fun j hj => trace_at ht j _ (opsOf_get hj)
  have hbef : ∀ i j, j < ops.length → ((Region.before ops.toArray).getD j 0).testBit i = true → i < j := by
    intro i j hj hb
    have hedge' : ∀ j, j < ops.length → ∀ e ∈ (opsOf ops j).after.toList, Region.binds .any e = true → e.on < j := by
      intro j hj e hej hb
      have := List.all_eq_true.1 (List.all_eq_true.1 hedge j (List.mem_range.2 hj)) e hej
      rw [hb] at this
      simpa using this
    have key : ∀ m j, j < m → j < ops.length → ((Region.before ops.toArray).getD j 0).testBit i = true → i < j := by
      intro m
      induction m with
      | zero => intro j h; omega
      | succ m ih =>
        intro j hjm hj hb
        obtain ⟨e, hej, hb', hq⟩ := before_bits (opsOf_get hj) (hedge' j hj) hb
        have hlt := hedge' j hj e hej hb'
        rcases hq with rfl | hq
        · exact hlt
        · exact Nat.lt_trans (ih e.on (by omega) (by omega) hq) hlt
    exact key (j + 1) j (by omega) hj hb
  generalize hq : (if last = true then ops.length - 1 else ops.length) = q
  have hqn : q ≤ ops.length := by subst hq; split <;> omega
  -- what is told of each local operation
  have find_none : ∀ {j}, (U.find? fun u => u.j == j) = none → killOf U j = none ∧ needOf U j = [] := fun {j} h => by simp [killOf, needOf, h]
  have fact : ∀ j, j < q → (isP (opsOf ops j).op = true ∧ mk1 U ops j = 0 ∧ killOf U j = none ∧ needOf U j = []) ∨ (isP (opsOf ops j).op = false ∧ plainOper (opsOf ops j) = true ∧ mk1 U ops j = 1 ∧ killOf U j = none ∧ needOf U j = []) ∨
      (isP (opsOf ops j).op = false ∧ ∃ u ∈ U, u.j = j ∧ u.ahead = sg U ops j ∧ mk1 U ops j = u.makes ∧ u.makes ≤ 1 ∧ killOf U j = u.kill ∧ needOf U j = u.need ∧
        (∀ b ∈ u.need, ∃ i, i < j ∧ mk1 U ops i = 1 ∧ sg U ops i = b ∧ ((Region.before ops.toArray).getD j 0).testBit i = true ∧ ∀ k, k < ops.length → killOf U k = some b → k = j ∨ ((Region.before ops.toArray).getD k 0).testBit j = true) ∧ ∀ b, u.kill = some b → b ∈ u.need) := by
    intro j hj
    rcases hall j (by omega) with ⟨h1, h2⟩ | ⟨⟨h1, h2⟩, h3⟩ | h1
    · have h2' := Option.isNone_iff_eq_none.1 h2
      exact .inl ⟨h1, by simp [mk1, h2', h1], find_none h2'⟩
    · subst hq; rw [h1, if_pos rfl] at hj
      have := Nat.eq_of_beq_eq_true h2; omega
    · cases hfd : U.find? (fun u => u.j == j) with
      | none =>
        rw [hfd] at h1
        cases hp : isP (opsOf ops j).op with
        | true => exact .inl ⟨rfl, by simp [mk1, hfd, hp], find_none hfd⟩
        | false => exact .inr (.inl ⟨rfl, h1, by simp [mk1, hfd, hp], find_none hfd⟩)
      | some u =>
        rw [hfd] at h1
        simp only [Bool.and_eq_true, List.all_eq_true, List.any_eq_true, List.mem_range, Bool.or_eq_true, Bool.not_eq_true', beq_eq_false_iff_ne, ne_eq] at h1
        obtain ⟨k0, k1, k2, k3, k4⟩ := h1
        have huj : u.j = j := by have := List.find?_some hfd; simpa using this
        refine .inr (.inr ⟨k0, u, List.mem_of_find?_eq_some hfd, huj, Nat.eq_of_beq_eq_true k1, by simp [mk1, hfd], by simpa using k2, by simp [killOf, hfd], by simp [needOf, hfd], ?_, ?_⟩)
        · intro b hb
          obtain ⟨i, hi, ⟨g1, g2, g3⟩, g4⟩ := k3 b hb
          refine ⟨i, hi, Nat.eq_of_beq_eq_true g1, Nat.eq_of_beq_eq_true g2, g3, fun k hk hkb => ?_⟩
          rcases g4 k hk with g | g | g
          · exact absurd hkb g
          · exact .inl (Nat.eq_of_beq_eq_true g)
          · exact .inr g
        · intro b hb
          rw [hb] at k4
          simpa using k4
  -- a thing taken away was made by what lies ahead
  have killer : ∀ k, k < q → ∀ b, killOf U k = some b → ∃ i, i < k ∧ mk1 U ops i = 1 ∧ sg U ops i = b ∧ ((Region.before ops.toArray).getD k 0).testBit i = true := by
    intro k hk b hb
    rcases fact k hk with ⟨_, _, h1, _⟩ | ⟨_, _, _, h1, _⟩ | ⟨_, u, _, _, _, _, _, h1, _, h2, h3⟩
    · rw [h1] at hb; cases hb
    · rw [h1] at hb; cases hb
    · rw [h1] at hb
      obtain ⟨i, g1, g2, g3, g4, _⟩ := h2 b (h3 b hb)
      exact ⟨i, g1, g2, g3, g4⟩
  have mk01 : ∀ j, j < q → mk1 U ops j ≤ 1 := by
    intro j hj
    rcases fact j hj with ⟨_, h1, _⟩ | ⟨_, _, h1, _⟩ | ⟨_, u, _, _, _, h1, h2, _⟩ <;> omega
  have step : ∀ j, j < q → (heapsOf H t j).length = H.length + sg U ops j → (∀ b, b < H.length → hat (heapsOf H t j) b = hat H b) → ∃ news : AHeap, news.length = mk1 U ops j ∧ heapsOf H t (j + 1) = killK H (killOf U j) (heapsOf H t j) ++ news ∧ ∀ K : AHeap, K.length = H.length + sg U ops j → (∀ b, b < H.length → hat K b = hat H b) →
      (∀ b ∈ needOf U j, hat K (H.length + b) = hat (heapsOf H t j) (H.length + b)) → stepV c call ops (opsOf ops j) (envT ops t env j) K = some ((t.getD j dft).1, killK H (killOf U j) K ++ news) := by
    intro j hj hl hold
    have hjn : j < ops.length := by omega
    rcases fact j hj with ⟨hp, h1, h2, h3⟩ | ⟨hn, hp, h1, h2, h3⟩ | ⟨hn, u, hu, rfl, h1, h2, h3, h4, h5, h6, h7⟩
    · obtain ⟨e1, e2⟩ := isP_stepV hp (hcan j hjn)
      refine ⟨[], by rw [h1]; rfl, by rw [h2, e1, List.append_nil]; rfl, fun K _ _ _ => ?_⟩
      rw [h2, List.append_nil]; exact e2 K
    · have hs := hcan j hjn
      have hpo : plainOp (opsOf ops j).op = true := by simp only [plainOper, Bool.and_eq_true] at hp; exact hp.1
      rw [stepV_plain hp, Option.bind_eq_some_iff] at hs
      obtain ⟨⟨r, K0⟩, ha, hs⟩ := hs
      obtain ⟨v, rfl, hv⟩ := plain_step hpo (low j (by omega)).2.1 ha
      have hlen := maker_len hpo hn ha
      simp only [Option.some.injEq, Prod.mk.injEq] at hs
      obtain ⟨hs1, hs2⟩ := hs
      rcases hv with ⟨e1, _⟩ | ⟨ob, e1, _, _, e2⟩
      · rw [e1] at hlen; omega
      · refine ⟨[some ob], by rw [h1]; rfl, by rw [h2, ← hs2, e1]; rfl, fun K hK _ _ => ?_⟩
        rw [h2, stepV_plain hp, e2 K (by rw [hK, hl]), ← hs1]
        rfl
    · obtain ⟨ej, Hj, v, news, g1, g2, g3⟩ := hU u hu
      have hT := take_trace2 ht u.j (by omega)
      rw [g1, Option.some.injEq, Prod.mk.injEq] at hT
      obtain ⟨rfl, rfl⟩ := hT
      have hc0 := g3 (heapsOf H t u.j) (by rw [hl, h1]) hold (fun _ _ => rfl)
      have hs := hcan u.j hjn
      simp only [envT] at hs
      rw [hc0, Option.some.injEq, Prod.mk.injEq] at hs
      refine ⟨news, by rw [g2, h2], by rw [h4, ← hs.2], fun K k1 k2 k3 => ?_⟩
      rw [h4, ← hs.1]
      exact g3 K (by rw [k1, h1]) k2 (by rw [← h5]; exact k3)
  have canon : ∀ j, j ≤ q → (heapsOf H t j).length = H.length + sg U ops j ∧ ∀ b, b < (heapsOf H t j).length → hat (heapsOf H t j) b = if Al H U ops q (fun i => decide (i < j)) b then Fo H t U ops q b else none := by
    intro j
    induction j with
    | zero =>
      intro _
      refine ⟨rfl, fun b hb => ?_⟩
      have hb' : b < H.length := hb
      rw [if_pos (.inl hb'), Fo_old hb']; rfl
    | succ j ih =>
      intro hj
      obtain ⟨i1, i2⟩ := ih (by omega)
      have hold : ∀ b, b < H.length → hat (heapsOf H t j) b = hat H b := fun b hb => by rw [i2 b (by omega), if_pos (.inl hb), Fo_old hb]
      obtain ⟨news, g1, g2, _⟩ := step j (by omega) i1 hold
      have hl : (heapsOf H t (j + 1)).length = H.length + sg U ops (j + 1) := by rw [g2, List.length_append, killK_len, i1, g1]; simp only [sg]; omega
      refine ⟨hl, fun b hb => ?_⟩
      rw [hl] at hb
      by_cases hbj : b < H.length + sg U ops j
      · rw [g2, hat_app, killK_len, i1, if_pos hbj, killK_hat, i2 b (by omega)]
        by_cases hk : H.length ≤ b ∧ killOf U j = some (b - H.length)
        · rw [if_pos hk, if_neg]
          rintro (h1 | ⟨_, h1⟩)
          · omega
          · exact h1 j (by omega) (by simp) hk.2
        · rw [if_neg hk]
          have : Al H U ops q (fun i => decide (i < j)) b ↔ Al H U ops q (fun i => decide (i < j + 1)) b := by
            constructor
            · rintro (h1 | ⟨⟨i, k1, k2, k3, k4⟩, h2⟩)
              · exact .inl h1
              · refine .inr ⟨⟨i, k1, by simp at k2 ⊢; omega, k3, k4⟩, fun k hk' hS e => ?_⟩
                by_cases hkj : k = j
                · subst hkj; exact hk ⟨by omega, e⟩
                · exact h2 k hk' (by simp at hS ⊢; omega) e
            · rintro (h1 | ⟨⟨i, k1, k2, k3, k4⟩, h2⟩)
              · exact .inl h1
              · refine .inr ⟨⟨i, k1, ?_, k3, k4⟩, fun k hk' hS e => h2 k hk' (by simp at hS ⊢; omega) e⟩
                simp at k2 ⊢
                by_cases hij : i = j
                · subst hij; omega
                · omega
          simp only [this]
      · have hm1 : mk1 U ops j = 1 := by have := mk01 j (by omega); simp only [sg] at hb; omega
        have hbe : b = H.length + sg U ops j := by simp only [sg, hm1] at hb; omega
        rw [if_pos, hbe, Fo_new (by omega) hm1]
        refine .inr ⟨⟨j, by omega, by simp, hm1, hbe⟩, fun k hk hS e => ?_⟩
        obtain ⟨i, k1, k2, k3, _⟩ := killer k hk _ e
        have : i = j := sg_inj (by omega) k2 hm1
        simp at hS; omega
  have mono1 : ∀ j, j < ops.length → (heapsOf H t j).length ≤ (heapsOf H t (j + 1)).length := by
    intro j hj
    obtain ⟨ρ1, w1, a1, hp, he1⟩ := rel j (by omega)
    obtain ⟨x, w2, ρ2, hv, hp2⟩ := stepV_rel hc hp.rel (hp.fresh hf) he1 (hcan j hj)
    exact hp2.len
  have hmono : ∀ {j k}, j ≤ k → k ≤ ops.length → (heapsOf H t j).length ≤ (heapsOf H t k).length := fun hjk hk => mono_of (s := fun k => (heapsOf H t k).length) (fun j hj => mono1 j hj) hjk hk
  have heq : ∀ (j : Nat), j ≤ q → ∀ S : Nat → Bool, (∀ i, i < q → mk1 U ops i = 1 ∨ killOf U i ≠ none → (S i = true ↔ i < j)) → (AS H t U ops q (heapsOf H t ops.length).length S).take (heapsOf H t j).length = heapsOf H t j := by
    intro j hj S hS
    obtain ⟨c1, c2⟩ := canon j hj
    have hN := hmono (show j ≤ ops.length by omega) (Nat.le_refl _)
    refine hat_ext (by rw [List.length_take, AS_len]; omega) fun b => ?_
    rw [hat_take]
    by_cases hb : b < (heapsOf H t j).length
    · rw [if_pos hb, AS_hat, c2 b hb]
      have : (b < (heapsOf H t ops.length).length ∧ Al H U ops q S b) ↔ Al H U ops q (fun i => decide (i < j)) b := by
        constructor
        · rintro ⟨_, h1 | ⟨⟨i, k1, k2, k3, k4⟩, h2⟩⟩
          · exact .inl h1
          · exact .inr ⟨⟨i, k1, by simpa using (hS i k1 (.inl k3)).1 k2, k3, k4⟩, fun k hk hk' e => h2 k hk ((hS k hk (.inr (by rw [e]; simp))).2 (by simpa using hk')) e⟩
        · rintro (h1 | ⟨⟨i, k1, k2, k3, k4⟩, h2⟩)
          · exact ⟨by omega, .inl h1⟩
          · exact ⟨by omega, .inr ⟨⟨i, k1, (hS i k1 (.inl k3)).2 (by simpa using k2), k3, k4⟩, fun k hk hk' e => h2 k hk (by simpa using (hS k hk (.inr (by rw [e]; simp))).1 hk') e⟩⟩
      simp only [this]
    · rw [if_neg hb, hat_none (by omega)]
  have hlq : last = true → q = ops.length - 1 ∧ 0 < ops.length ∧ isP (opsOf ops (ops.length - 1)).op = false ∧ ∀ i, i < ops.length - 1 → isP (opsOf ops i).op = true ∨ ((Region.before ops.toArray).getD (ops.length - 1) 0).testBit i = true := by
    intro hl
    rcases hlast with h1 | h1
    · rw [hl] at h1; cases h1
    · simp only [lastOk, Bool.and_eq_true, Bool.not_eq_true', List.all_eq_true, List.mem_range, Bool.or_eq_true, Nat.blt_eq] at h1
      exact ⟨by rw [← hq, if_pos hl], h1.2.1, h1.1, h1.2.2⟩
  have hnlq : last = false → q = ops.length := fun hl => by rw [← hq, hl]; simp
  have pfree : ∀ i, i < q → isP (opsOf ops i).op = true → mk1 U ops i = 0 ∧ killOf U i = none := by
    intro i hi hp
    rcases fact i hi with ⟨_, h1, h2, _⟩ | ⟨h1, _⟩ | ⟨h1, _⟩
    · exact ⟨h1, h2⟩
    · rw [hp] at h1; cases h1
    · rw [hp] at h1; cases h1
  subst hops
  refine anyG_sound hm call hc id opsA env env' H H' t ht hend.symm hedge hap mono1 (fun S => if (last && S (opsA.toList.length - 1)) = true then heapsOf H t opsA.toList.length else AS H t U opsA.toList q (heapsOf H t opsA.toList.length).length S) ?_ ?_ ?_ ?_ ?_ ρ w a h hf he
  all_goals generalize opsA.toList = ops at *
  · intro S
    split
    · rfl
    · exact AS_len
  · intro S hS i o
    simp only [hS, Bool.and_false, Bool.false_eq_true, if_false]
    rw [AS_hat]
    have : Al H U ops q S i ↔ i < H.length := by
      constructor
      · rintro (h1 | ⟨⟨i, k1, k2, _⟩, _⟩)
        · exact h1
        · rw [hS] at k2; cases k2
      · exact .inl
    simp only [this]
    by_cases hi : i < H.length
    · rw [if_pos ⟨by have := (low ops.length (Nat.le_refl _)).2.2; omega, hi⟩, Fo_old hi]
    · rw [if_neg (fun e => hi e.2), hat_none (by omega)]
  · intro S hS
    try simp only []
    split
    · rfl
    · rename_i hl
      have hlf : last = false := by
        cases hl' : last with
        | false => rfl
        | true =>
          obtain ⟨_, h0, _⟩ := hlq hl'
          rw [hl', hS _ (by omega)] at hl; simp at hl
      have hqe := hnlq hlf
      have := heq ops.length (by omega) S (fun i hi _ => ⟨fun _ => by omega, fun _ => hS i (by omega)⟩)
      refine Eq.trans ?_ this
      rw [List.take_of_length_le (by rw [AS_len]; exact Nat.le_refl _)]
  · intro S j hj hp hSj
    try simp only []
    have hne : last = true → j ≠ ops.length - 1 := by
      intro hl e
      obtain ⟨_, _, h1, _⟩ := hlq hl
      rw [← e, hp] at h1; cases h1
    have e1 : (last && (if ops.length - 1 = j then true else S (ops.length - 1))) = (last && S (ops.length - 1)) := by
      cases hl : last with
      | false => rfl
      | true => rw [if_neg (Ne.symm (hne hl))]
    rw [e1]
    split
    · rfl
    · refine hat_ext (by rw [AS_len, AS_len]) fun b => ?_
      rw [AS_hat, AS_hat]
      have hjq : j < q := by
        cases hl : last with
        | false => rw [hnlq hl]; exact hj
        | true => rw [(hlq hl).1]; have := hne hl; omega
      obtain ⟨p1, p2⟩ := pfree j hjq hp
      have : Al H U ops q (fun i => if i = j then true else S i) b ↔ Al H U ops q S b := by
        constructor
        · rintro (h1 | ⟨⟨i, k1, k2, k3, k4⟩, h2⟩)
          · exact .inl h1
          · refine .inr ⟨⟨i, k1, ?_, k3, k4⟩, fun k hk hS => h2 k hk (ifS hS)⟩
            by_cases hij : i = j
            · subst hij; omega
            · simpa only [hij, if_false] using k2
        · rintro (h1 | ⟨⟨i, k1, k2, k3, k4⟩, h2⟩)
          · exact .inl h1
          · refine .inr ⟨⟨i, k1, ifS k2, k3, k4⟩, fun k hk hS e => ?_⟩
            by_cases hkj : k = j
            · subst hkj; rw [p2] at e; cases e
            · exact h2 k hk (by simpa only [hkj, if_false] using hS) e
      simp only [this]
  · intro S j hj hSj hnP hclo hpre
    try simp only []
    by_cases hL : last = true ∧ j = ops.length - 1
    · -- the last one
      obtain ⟨hl, rfl⟩ := hL
      obtain ⟨l1, l2, l3, l4⟩ := hlq hl
      rw [hl]
      simp only [Bool.true_and, hSj, Bool.false_eq_true, if_false, if_true]
      have hA := heq (ops.length - 1) (by omega) S (fun i hi hh => ⟨fun _ => by omega, fun _ => by
        rcases l4 i (by omega) with hp | hb
        · obtain ⟨p1, p2⟩ := pfree i (by omega) hp
          rcases hh with hh | hh
          · omega
          · exact absurd p2 hh
        · exact hpre i hb⟩)
      rw [hA]
      refine ⟨(low _ (by omega)).1, heapsOf H t (ops.length - 1 + 1), ?_, rfl, ?_⟩
      · rw [← hcan _ hj]
        have hlow := (low (ops.length - 1) (by omega)).2.1
        exact stepV_congr (fun t' => hlow.eq t')
      · rw [show ops.length - 1 + 1 = ops.length by omega, List.drop_of_length_le (by rw [AS_len]; exact Nat.le_refl _), List.append_nil]
    · have hjq : j < q := by
        cases hl : last with
        | false => rw [hnlq hl]; exact hj
        | true => rw [(hlq hl).1]; have : j ≠ ops.length - 1 := fun e => hL ⟨hl, e⟩
                  omega
      have hlS : ∀ S' : Nat → Bool, S' (ops.length - 1) = (if ops.length - 1 = j then true else S (ops.length - 1)) ∨ S' (ops.length - 1) = S (ops.length - 1) → (last && S' (ops.length - 1)) = false := by
        intro S' hS'
        cases hl : last with
        | false => rfl
        | true =>
          obtain ⟨l1, l2, l3, l4⟩ := hlq hl
          have hne : j ≠ ops.length - 1 := fun e => hL ⟨hl, e⟩
          have hSn : S (ops.length - 1) = false := by
            cases hSn : S (ops.length - 1) with
            | false => rfl
            | true =>
              rcases l4 j (by omega) with hp | hb
              · rw [hp] at hnP; cases hnP
              · have := hclo (ops.length - 1) (by omega) hSn j hb
                rw [hSj] at this; cases this
          rcases hS' with e | e
          · rw [e, if_neg (Ne.symm hne), hSn]; rfl
          · rw [e, hSn]; rfl
      rw [hlS S (.inr rfl), hlS (fun i => if i = j then true else S i) (.inl rfl)]
      simp only [Bool.false_eq_true, if_false]
      obtain ⟨c1, c2⟩ := canon j (by omega)
      obtain ⟨d1, d2⟩ := canon (j + 1) hjq
      have hold : ∀ b, b < H.length → hat (heapsOf H t j) b = hat H b := fun b hb => by rw [c2 b (by omega), if_pos (.inl hb), Fo_old hb]
      obtain ⟨news, g1, g2, g3⟩ := step j hjq c1 hold
      have hNj := hmono (show j ≤ ops.length by omega) (Nat.le_refl _)
      have hNj1 := hmono (show j + 1 ≤ ops.length by omega) (Nat.le_refl _)
      have hKl : ((AS H t U ops q (heapsOf H t ops.length).length S).take (heapsOf H t j).length).length = H.length + sg U ops j := by
        rw [List.length_take, AS_len, c1] at *; omega
      have hKh : ∀ b, hat ((AS H t U ops q (heapsOf H t ops.length).length S).take (heapsOf H t j).length) b = if b < (heapsOf H t j).length ∧ Al H U ops q S b then Fo H t U ops q b else none := by
        intro b
        rw [hat_take, AS_hat]
        by_cases hb : b < (heapsOf H t j).length
        · rw [if_pos hb]
          have e1 : (b < (heapsOf H t ops.length).length ∧ Al H U ops q S b) ↔ (b < (heapsOf H t j).length ∧ Al H U ops q S b) := ⟨fun e => ⟨hb, e.2⟩, fun e => ⟨by omega, e.2⟩⟩
          simp only [e1]
        · rw [if_neg hb, if_neg (fun e => hb e.1)]
      have hko : ∀ b, b < H.length → hat ((AS H t U ops q (heapsOf H t ops.length).length S).take (heapsOf H t j).length) b = hat H b := fun b hb => by
        rw [hKh, if_pos ⟨by omega, .inl hb⟩, Fo_old hb]
      have hkn : ∀ b ∈ needOf U j, hat ((AS H t U ops q (heapsOf H t ops.length).length S).take (heapsOf H t j).length) (H.length + b) = hat (heapsOf H t j) (H.length + b) := by
        intro b hb
        rcases fact j hjq with ⟨_, _, _, h1⟩ | ⟨_, _, _, _, h1⟩ | ⟨_, u, hu, huj, h1, h2, h3, h4, h5, h6, h7⟩
        · rw [h1] at hb; cases hb
        · rw [h1] at hb; cases hb
        · rw [h5] at hb
          obtain ⟨i, i1, i2, i3, i4, i5⟩ := h6 b hb
          have hsg := sg_mono (U := U) (ops := ops) (show i + 1 ≤ j by omega)
          simp only [sg, i2] at hsg
          have hlt : H.length + b < (heapsOf H t j).length := by rw [c1]; omega
          rw [hKh, if_pos, c2 _ hlt, if_pos]
          · refine .inr ⟨⟨i, by omega, by simpa using i1, i2, by rw [i3]⟩, fun k hk hS e => ?_⟩
            rw [show H.length + b - H.length = b by omega] at e
            have hkj : k < j := by simpa using hS
            rcases i5 k (by omega) e with rfl | hb'
            · omega
            · have := hbef _ _ (show k < ops.length by omega) hb'; omega
          · refine ⟨hlt, .inr ⟨⟨i, by omega, hpre i i4, i2, by rw [i3]⟩, fun k hk hS e => ?_⟩⟩
            rw [show H.length + b - H.length = b by omega] at e
            rcases i5 k (by omega) e with rfl | hb'
            · rw [hSj] at hS; cases hS
            · have := hclo k (by omega) hS j hb'
              rw [hSj] at this; cases this
      have hgo := g3 _ hKl hko hkn
      refine ⟨heapLow_of fun b o e => ?_, killK H (killOf U j) ((AS H t U ops q (heapsOf H t ops.length).length S).take (heapsOf H t j).length) ++ news, ?_, ?_, ?_⟩
      · rw [hKh] at e
        split at e
        · rename_i hb
          obtain ⟨hb, hal⟩ := hb
          rcases hal with h1 | ⟨⟨i, k1, k2, k3, rfl⟩, _⟩
          · rw [Fo_old h1] at e
            exact AObj.low_mono (low j (by omega)).2.2 (heapLow_hat (low 0 (by omega)).1 e)
          · rw [Fo_new k1 k3] at e
            have hij : i < j := by
              rcases Nat.lt_or_ge i j with h1 | h1
              · exact h1
              · have := sg_mono (U := U) (ops := ops) h1; omega
            exact AObj.low_mono (hmono (show i + 1 ≤ j by omega) (by omega)) (heapLow_hat (low (i + 1) (by omega)).1 e)
        · cases e
      · rw [← hgo]
        have hlow := (low j (by omega)).2.1
        exact stepV_congr (fun t' => hlow.eq t')
      · rw [List.length_append, killK_len, hKl, g1, d1]; simp only [sg]; omega
      · have hsl : (killK H (killOf U j) ((AS H t U ops q (heapsOf H t ops.length).length S).take (heapsOf H t j).length) ++ news).length = (heapsOf H t (j + 1)).length := by
          rw [List.length_append, killK_len, hKl, g1, d1]; simp only [sg]; omega
        refine hat_ext (by rw [List.length_append, hsl, List.length_drop, AS_len, AS_len]; omega) fun b => ?_
        rw [hat_app, hsl, hat_drop, AS_hat, AS_hat (b := b)]
        by_cases hb1 : b < (heapsOf H t (j + 1)).length
        · rw [if_pos hb1, hat_app, killK_len, hKl, killK_hat, hKh]
          by_cases hb0 : b < H.length + sg U ops j
          · rw [if_pos hb0]
            by_cases hk : H.length ≤ b ∧ killOf U j = some (b - H.length)
            · rw [if_pos hk, if_neg]
              rintro ⟨_, h1 | ⟨_, h1⟩⟩
              · omega
              · exact h1 j hjq (by simp) hk.2
            · rw [if_neg hk]
              have : (b < (heapsOf H t j).length ∧ Al H U ops q S b) ↔ (b < (heapsOf H t ops.length).length ∧ Al H U ops q (fun i => if i = j then true else S i) b) := by
                constructor
                · rintro ⟨_, h1 | ⟨⟨i, k1, k2, k3, k4⟩, h2⟩⟩
                  · exact ⟨by omega, .inl h1⟩
                  · refine ⟨by omega, .inr ⟨⟨i, k1, ifS k2, k3, k4⟩, fun k hk' hS e => ?_⟩⟩
                    by_cases hkj : k = j
                    · subst hkj; exact hk ⟨by omega, e⟩
                    · exact h2 k hk' (by simpa only [hkj, if_false] using hS) e
                · rintro ⟨_, h1 | ⟨⟨i, k1, k2, k3, k4⟩, h2⟩⟩
                  · exact ⟨by omega, .inl h1⟩
                  · refine ⟨by omega, .inr ⟨⟨i, k1, ?_, k3, k4⟩, fun k hk' hS e => h2 k hk' (ifS hS) e⟩⟩
                    by_cases hij : i = j
                    · subst hij; omega
                    · simpa only [hij, if_false] using k2
              simp only [this]
          · have hm1 : mk1 U ops j = 1 := by have := mk01 j hjq; rw [d1] at hb1; simp only [sg] at hb1; omega
            have hbe : b = H.length + sg U ops j := by rw [d1] at hb1; simp only [sg, hm1] at hb1; omega
            rw [if_neg hb0, if_pos, hbe, Fo_new hjq hm1, g2, hat_app, killK_len, c1, if_neg (by omega)]
            refine ⟨(by omega : b < (heapsOf H t ops.length).length), .inr ⟨⟨j, hjq, by simp, hm1, hbe⟩, fun k hk hS e => ?_⟩⟩
            obtain ⟨i, k1, k2, k3, k4⟩ := killer k hk _ e
            have hij : i = j := sg_inj (by omega) k2 hm1
            subst hij
            by_cases hki : k = i
            · omega
            · have := hclo k (by omega) (by simpa only [hki, if_false] using hS) i k4
              rw [hSj] at this; cases this
        · rw [if_neg hb1, show (heapsOf H t (j + 1)).length + (b - (heapsOf H t (j + 1)).length) = b by omega]
          have : Al H U ops q S b ↔ Al H U ops q (fun i => if i = j then true else S i) b := by
            rw [d1] at hb1
            constructor
            · rintro (h1 | ⟨⟨i, k1, k2, k3, k4⟩, h2⟩)
              · exact .inl h1
              · refine .inr ⟨⟨i, k1, ifS k2, k3, k4⟩, fun k hk' hS e => ?_⟩
                by_cases hkj : k = j
                · subst hkj
                  obtain ⟨i', g1, g2, g3, _⟩ := killer k hk' _ e
                  have := sg_mono (U := U) (ops := ops) (show i' + 1 ≤ k + 1 by omega)
                  have e1 : sg U ops (i' + 1) = sg U ops i' + 1 := by simp only [sg, g2]
                  omega
                · exact h2 k hk' (by simpa only [hkj, if_false] using hS) e
            · rintro (h1 | ⟨⟨i, k1, k2, k3, k4⟩, h2⟩)
              · exact .inl h1
              · refine .inr ⟨⟨i, k1, ?_, k3, k4⟩, fun k hk' hS e => h2 k hk' (ifS hS) e⟩
                by_cases hij : i = j
                · subst hij
                  have e1 : sg U ops (i + 1) = sg U ops i + 1 := by simp only [sg, k3]
                  omega
                · simpa only [hij, if_false] using k2
          simp only [this]

variable {κ : Kn} {T : FuncId → Spec} {env : AEnv} {K : AExit → AEnv → AHeap → Prop}
/-- A REGION THAT DRAWS ITS ORDER over any heap: operations that only add (or take away what is new), each told by what it looks at; the last one may be any, if it is behind all others -/
theorem D.local {id : Nat} {ops : Array Oper} {env' : AEnv} {H' : AHeap} (U : List Lo) (last : Bool) (hs : localOk ops.toList U last = true) (h : asteps κ.c (callT κ T) ops.toList ops.toList env H = some (env', H'))
    (hU : ∀ u ∈ U, ∃ ej Hj v news, asteps κ.c (callT κ T) ops.toList (ops.toList.take u.j) env H = some (ej, Hj) ∧ news.length = u.makes ∧ ∀ K : AHeap, K.length = H.length + u.ahead → (∀ b, b < H.length → hat K b = hat H b) → (∀ b ∈ u.need, hat K (H.length + b) = hat Hj (H.length + b)) →
      stepV κ.c (callT κ T) ops.toList (opsOf ops.toList u.j) ej K = some (v, killK H u.kill K ++ news))
    (k : K .normal env' H') : D κ (.region id ops true) env H K :=
  ⟨.normal, env', H', k, fun ρ w a hr hf he => local_sound κ.mixed _ (callT_ok T) id ops env env' H H' U last hs h hU ρ w a hr hf he⟩
end Go.AM

/-
  REGIONS THAT DRAW THEIR ORDER, more rules over any heap (own work): regions in which nothing moves; movers in a row beside looks; a call and then new things.
-/
namespace Go.AM
open Go.RowKit
set_option linter.unusedSimpArgs false
set_option linter.unusedVariables false

variable {c : Ctx} {base : Nat} {w0 w : World} {ρ : Pl} {H : AHeap}

theorem before_lt {ops : List Oper} (hedge : edgesOk ops = true) : ∀ i j, j < ops.length → ((Region.before ops.toArray).getD j 0).testBit i = true → i < j := by
  intro i j hj hb
  have hedge' : ∀ j, j < ops.length → ∀ e ∈ (opsOf ops j).after.toList, Region.binds .any e = true → e.on < j := by
    intro j hj e hej hb
    have := List.all_eq_true.1 (List.all_eq_true.1 hedge j (List.mem_range.2 hj)) e hej
    rw [hb] at this
    simpa using this
  have key : ∀ m j, j < m → j < ops.length → ((Region.before ops.toArray).getD j 0).testBit i = true → i < j := by
    intro m
    induction m with
    | zero => intro j h; omega
    | succ m ih =>
      intro j hjm hj hb
      obtain ⟨e, hej, hb', hq⟩ := before_bits (opsOf_get hj) (hedge' j hj) hb
      have hlt := hedge' j hj e hej hb'
      rcases hq with rfl | hq
      · exact hlt
      · exact Nat.lt_trans (ih e.on (by omega) (by omega) hq) hlt
  exact key (j + 1) j (by omega) hj hb

/-! ### nothing moves -/
def calmOk (ops : List Oper) (ks : List Nat) : Bool := edgesOk ops && (apartOk ops && (List.range ops.length).all fun i => quiet (opsOf ops i).op || ks.contains i)
variable {κ : Kn} {T : FuncId → Spec} {env : AEnv} {K : AExit → AEnv → AHeap → Prop}
theorem D.calm {id : Nat} {ops : Array Oper} {env' : AEnv} {H' : AHeap} (ks : List Nat) (hs : calmOk ops.toList ks = true) (h : asteps κ.c (callT κ T) ops.toList ops.toList env H = some (env', H'))
    (hk : ∀ k ∈ ks, ∃ e, asteps κ.c (callT κ T) ops.toList (ops.toList.take (k + 1)) env H = some (e, H)) (k : K .normal env' H') : D κ (.region id ops true) env H K := by
  refine ⟨.normal, env', H', k, fun ρ w a hr hf he => ?_⟩
  obtain ⟨t, ht⟩ := trace_of_steps h
  refine order_sound κ.mixed _ (callT_ok T) id ops env env' H H' ?_ h ρ w a hr hf he
  simp only [drawOk, ht]
  generalize ops.toList = os at *
  simp only [calmOk, Bool.and_eq_true, List.all_eq_true, List.mem_range] at hs
  obtain ⟨h1, h2, h3⟩ := hs
  obtain ⟨f1, f2, f3⟩ := trace_facts ht
  have hheap := heap_trace ht
  have hat : ∀ j, j < os.length → os[j]? = some (opsOf os j) := fun j hj => opsOf_get hj
  have hH : ∀ m, m ≤ os.length → heapsOf H t m = H := by
    intro m
    induction m with
    | zero => intro _; rfl
    | succ m ih =>
      intro hm
      have hq := h3 m (by omega)
      simp only [Bool.or_eq_true] at hq
      rcases hq with hq | hq
      · have hst := f1 m _ (hat m (by omega))
        rw [hheap m (by omega)] at hst
        have : mvOf (opsOf os m).op (heapsOf H t m) (t.getD m dft).2 = false := by simp [mvOf, hq]
        have := mvOf_same this hst
        show (t.getD m dft).2 = _
        rw [this]; exact ih (by omega)
      · obtain ⟨e, hpre⟩ := hk m (by simpa using hq)
        obtain ⟨e2, hpre2⟩ := take_trace ht (m + 1) hm
        rw [hpre, Option.some.injEq, Prod.mk.injEq] at hpre2
        exact hpre2.2.symm
  simp only [regOk, Bool.and_eq_true]
  refine ⟨h1, h2, List.all_eq_true.2 fun i hi => ?_⟩
  rw [List.mem_range] at hi
  rw [Bool.or_eq_true]
  refine .inl ?_
  rw [f2 i hi, hheap i (by omega), hH i (by omega)]
  have : (t.getD i dft).2 = H := hH (i + 1) (by omega)
  rw [this, mvOf_self]; rfl

/-! ### movers in a row, and looks beside them -/
def fixJ (ops : List Oper) (j : Nat) : Bool := ((opsOf ops j).looksAt ops.toArray).all fun a => (List.range ops.length).all fun i => Nat.blt i j || !((opsOf ops i).dst == some a)
def rowOk (ops : List Oper) (F ks : List Nat) : Bool :=
  edgesOk ops && (apartOk ops && (F.all (fixJ ops) && (List.range ops.length).all fun i => quiet (opsOf ops i).op || (F.contains i || (ks.contains i && (List.range ops.length).all fun j => Nat.beq i j || (inOrder (Region.before ops.toArray) i j || (isP (opsOf ops j).op || F.contains j))))))
theorem fixJ_env {call : Callee} {ops : List Oper} {vals : Nat → Option AV} {env : AEnv} {j : Nat} (hj : j < ops.length) (h : fixJ ops j = true) (K : AHeap) :
    stepV c call ops (opsOf ops j) (envK (fun i => (ops.getD i default).dst) vals (fun _ => true) env ops.length) K = stepV c call ops (opsOf ops j) (envK (fun i => (ops.getD i default).dst) vals (fun _ => true) env j) K := by
  have hr : ∀ a ∈ (opsOf ops j).looksAt ops.toArray, eget (envK (fun i => (ops.getD i default).dst) vals (fun _ => true) env ops.length) a = eget (envK (fun i => (ops.getD i default).dst) vals (fun _ => true) env j) a := by
    intro a ha
    simp only [fixJ, List.all_eq_true, List.mem_range, Bool.or_eq_true, Bool.not_eq_true', beq_eq_false_iff_ne] at h
    refine envK_after ops.length (by omega) fun i h1 h2 => ?_
    rcases h a ha i h2 with h3 | h3
    · rw [Nat.blt_eq] at h3; omega
    · exact h3
  simp only [stepV, awanted_reads hr, aop_congr (aval_reads hr)]
/-- ks: who may move, with the heaps behind; F: who looks, the same at each heap that may be there -/
theorem D.row {id : Nat} {ops : Array Oper} {env' : AEnv} {H' : AHeap} (F : List Nat) (ks : List (Nat × AHeap)) (hs : rowOk ops.toList F (ks.map (·.1)) = true)
    (h : asteps κ.c (callT κ T) ops.toList ops.toList env H = some (env', H'))
    (hk : ∀ p ∈ ks, ∃ e, asteps κ.c (callT κ T) ops.toList (ops.toList.take (p.1 + 1)) env H = some (e, p.2))
    (hF : ∀ j ∈ F, ∃ v, ∀ X ∈ H :: (ks.filter fun p => !((Region.before ops.toList.toArray).getD p.1 0).testBit j).map (·.2), stepV κ.c (callT κ T) ops.toList (opsOf ops.toList j) env' X = some (v, X))
    (k : K .normal env' H') : D κ (.region id ops true) env H K := by
  refine ⟨.normal, env', H', k, fun ρ w a hr hf he => ?_⟩
  obtain ⟨t, ht⟩ := trace_of_steps h
  refine order_sound κ.mixed _ (callT_ok T) id ops env env' H H' ?_ h ρ w a hr hf he
  simp only [drawOk, ht]
  generalize ops.toList = os at *
  simp only [rowOk, Bool.and_eq_true, List.all_eq_true, List.mem_range] at hs
  obtain ⟨h1, h2, h3, h4⟩ := hs
  obtain ⟨f1, f2, f3⟩ := trace_facts ht
  have hE : envK (fun i => (os.getD i default).dst) (fun i => (t.getD i dft).1) (fun _ => true) env os.length = env' := by
    rw [f3, Option.some.injEq, Prod.mk.injEq] at h; exact h.1
  have hheap := heap_trace ht
  have hat : ∀ j, j < os.length → os[j]? = some (opsOf os j) := fun j hj => opsOf_get hj
  have hkh : ∀ m, m < os.length → quiet (opsOf os m).op = false → m ∉ F → ∃ p ∈ ks, p.1 = m ∧ heapsOf H t (m + 1) = p.2 := by
    intro m hm hqf hnF
    have hq := h4 m hm
    simp only [Bool.or_eq_true, Bool.and_eq_true, hqf, Bool.false_eq_true, false_or] at hq
    rcases hq with hq | hq
    · exact absurd (by simpa using hq) hnF
    · have hq' : m ∈ ks.map (·.1) := by simpa using hq.1
      obtain ⟨p, hp, rfl⟩ := List.mem_map.1 hq'
      obtain ⟨e, hpre⟩ := hk p hp
      obtain ⟨e2, hpre2⟩ := take_trace ht (p.1 + 1) (by omega)
      rw [hpre, Option.some.injEq, Prod.mk.injEq] at hpre2
      exact ⟨p, hp, rfl, hpre2.2.symm⟩
  -- what a look tells
  have hlook : ∀ j, j < os.length → j ∈ F → (heapsOf H t j = H ∨ ∃ p ∈ ks, p.1 < j ∧ heapsOf H t j = p.2) → ∃ v, (t.getD j dft) = (v, heapsOf H t j) ∧ ∀ X ∈ H :: (ks.filter fun p => !((Region.before os.toArray).getD p.1 0).testBit j).map (·.2), stepV κ.c (callT κ T) os (opsOf os j) (envK (fun i => (os.getD i default).dst) (fun i => (t.getD i dft).1) (fun _ => true) env j) X = some (v, X) := by
    intro j hj' hjF hin
    obtain ⟨v, hv⟩ := hF j hjF
    have hv2 : ∀ X ∈ H :: (ks.filter fun p => !((Region.before os.toArray).getD p.1 0).testBit j).map (·.2), stepV κ.c (callT κ T) os (opsOf os j) (envK (fun i => (os.getD i default).dst) (fun i => (t.getD i dft).1) (fun _ => true) env j) X = some (v, X) := by
      intro X hX
      rw [← fixJ_env hj' (h3 j hjF) X, hE]
      exact hv X hX
    have hst := f1 j _ (hat j hj')
    have hjm : heapsOf H t j ∈ H :: (ks.filter fun p => !((Region.before os.toArray).getD p.1 0).testBit j).map (·.2) := by
      rcases hin with e | ⟨p, hp, hlt, e⟩
      · rw [e]; exact List.mem_cons_self
      · refine List.mem_cons_of_mem _ (List.mem_map.2 ⟨p, List.mem_filter.2 ⟨hp, ?_⟩, e.symm⟩)
        cases hb : ((Region.before os.toArray).getD p.1 0).testBit j with
        | false => rfl
        | true => have := before_lt h1 j p.1 (by omega) hb; omega
    rw [hheap j (by omega), hv2 _ hjm, Option.some.injEq] at hst
    exact ⟨v, hst.symm, hv2⟩
  -- the heap ahead of j
  have hin : ∀ m, m ≤ os.length → heapsOf H t m = H ∨ ∃ p ∈ ks, p.1 < m ∧ heapsOf H t m = p.2 := by
    intro m
    induction m with
    | zero => intro _; exact .inl rfl
    | succ m ih =>
      intro hm
      have up : heapsOf H t (m + 1) = heapsOf H t m → heapsOf H t (m + 1) = H ∨ ∃ p ∈ ks, p.1 < m + 1 ∧ heapsOf H t (m + 1) = p.2 := by
        intro e1
        rw [e1]
        rcases ih (by omega) with e | ⟨p, hp, hlt, e⟩
        · exact .inl e
        · exact .inr ⟨p, hp, by omega, e⟩
      cases hq : quiet (opsOf os m).op with
      | true =>
        have hst := f1 m _ (hat m (by omega))
        rw [hheap m (by omega)] at hst
        have : mvOf (opsOf os m).op (heapsOf H t m) (t.getD m dft).2 = false := by simp [mvOf, hq]
        exact up (mvOf_same this hst)
      | false =>
        by_cases hmF : m ∈ F
        · obtain ⟨v, e, _⟩ := hlook m (by omega) hmF (ih (by omega))
          exact up (congrArg Prod.snd e)
        · obtain ⟨p, hp, e1, e2⟩ := hkh m (by omega) hq hmF
          exact .inr ⟨p, hp, by omega, e2⟩
  have hmvF : ∀ j, j < os.length → j ∈ F → (moves os H t).getD j false = false := by
    intro j hj hjF
    obtain ⟨v, e, _⟩ := hlook j hj hjF (hin j (by omega))
    rw [f2 j hj, hheap j (by omega), e]
    exact mvOf_self _ _
  simp only [regOk, Bool.and_eq_true]
  refine ⟨h1, h2, List.all_eq_true.2 fun i hi => ?_⟩
  rw [List.mem_range] at hi
  have hq := h4 i hi
  simp only [Bool.or_eq_true, Bool.and_eq_true] at hq ⊢
  rcases hq with hq | hq | ⟨_, hq⟩
  · exact .inl (by rw [moves_quiet os H t i hq]; rfl)
  · exact .inl (by rw [hmvF i hi (by simpa using hq)]; rfl)
  · refine .inr (List.all_eq_true.2 fun j hj => ?_)
    have hj' := List.mem_range.1 hj
    have hq := List.all_eq_true.1 hq j hj
    simp only [Bool.or_eq_true] at hq ⊢
    rcases hq with e | e | e | e
    · exact .inl e
    · exact .inr (.inl e)
    · refine .inr (.inr ?_)
      simp only [still, moves_quiet os H t j (isP_quiet e), e, Bool.not_false, Bool.true_or, Bool.true_and]
    · refine .inr (.inr ?_)
      have hjF : j ∈ F := by simpa using e
      obtain ⟨v, hst, hv2⟩ := hlook j hj' hjF (hin j (by omega))
      have hmv := hmvF j hj' hjF
      simp only [still, hmv, Bool.not_false, Bool.true_and]
      rw [Bool.or_eq_true]
      refine .inr (List.all_eq_true.2 fun k hk' => ?_)
      rw [List.mem_range] at hk'
      have hsame : sameStep (some (v, heapsOf H t k)) v (heapsOf H t k) = true := by cases v <;> simp [sameStep, AV.beq_refl]
      rw [Bool.or_eq_true, Bool.or_eq_true]
      cases hmk : (k == 0 || (moves os H t).getD (k - 1) false) with
      | false => exact .inl (.inl rfl)
      | true =>
        cases hps : possible os (Region.before os.toArray) (moves os H t) k j with
        | false => exact .inl (.inr rfl)
        | true =>
          refine .inr ?_
          have hkm : heapsOf H t k ∈ H :: (ks.filter fun p => !((Region.before os.toArray).getD p.1 0).testBit j).map (·.2) := by
            cases k with
            | zero => exact List.mem_cons_self
            | succ m =>
              have hmm : (moves os H t).getD m false = true := by simpa using hmk
              have hqm : quiet (opsOf os m).op = false := by
                cases hq : quiet (opsOf os m).op with
                | false => rfl
                | true => rw [moves_quiet os H t m hq] at hmm; cases hmm
              have hmnF : m ∉ F := fun e => by rw [hmvF m (by omega) e] at hmm; cases hmm
              obtain ⟨p, hp, e1, e2⟩ := hkh m (by omega) hqm hmnF
              refine List.mem_cons_of_mem _ (List.mem_map.2 ⟨p, List.mem_filter.2 ⟨hp, ?_⟩, e2.symm⟩)
              have := List.all_eq_true.1 hps m (List.mem_range.2 (by omega))
              simp only [hmm, Bool.not_true, Bool.false_or, Bool.and_eq_true, Bool.or_eq_true, Bool.not_eq_true', decide_eq_true_eq] at this
              rw [e1]
              rcases this.2 with h' | h'
              · rw [h']; rfl
              · omega
          rw [hheap k (by omega), hv2 _ hkm, hst]
          exact hsame
end Go.AM

/-
  A REGION THAT DRAWS ITS ORDER with one call that only adds, and new things behind it in the text (own work).
-/
namespace Go.AM
open Go.RowKit
set_option linter.unusedSimpArgs false
set_option linter.unusedVariables false

variable {c : Ctx} {base : Nat} {w0 w : World} {ρ : Pl} {H : AHeap}

def oneCallOk (ops : List Oper) (q : Nat) : Bool := edgesOk ops && (apartOk ops && (Nat.blt q ops.length && (List.range ops.length).all fun j => if Nat.beq j q then true else plainOper (opsOf ops j) && (!Nat.blt j q || isP (opsOf ops j).op)))

variable {κ : Kn} {T : FuncId → Spec} {env : AEnv} {K : AExit → AEnv → AHeap → Prop}
theorem D.oneCall {id : Nat} {ops : Array Oper} {env' : AEnv} {H' H1 : AHeap} (q : Nat) (hs : oneCallOk ops.toList q = true) (h : asteps κ.c (callT κ T) ops.toList ops.toList env H = some (env', H'))
    (hq : ∃ e, asteps κ.c (callT κ T) ops.toList (ops.toList.take (q + 1)) env H = some (e, H1)) (hk : Keep H H1 (fun _ => False)) (k : K .normal env' H') : D κ (.region id ops true) env H K := by
  refine ⟨.normal, env', H', k, fun ρ w a hr hf he => ?_⟩
  obtain ⟨t, ht⟩ := trace_of_steps h
  have h2 := endOf_steps ht
  rw [h, Option.some.injEq] at h2
  refine free_sound κ.mixed _ (callT_ok T) id ops env env' H H' t ht ?_ h2.symm ρ w a hr hf he
  have low := trace_low (callT_ok T) ht hr hf he
  have hst := trace_at ht
  generalize ops.toList = ops at *
  simp only [oneCallOk, Bool.and_eq_true, List.all_eq_true, List.mem_range] at hs
  obtain ⟨h1, h2', h3, h4⟩ := hs
  rw [Nat.blt_eq] at h3
  have h4' : ∀ j, j < ops.length → j ≠ q → plainOper (opsOf ops j) = true ∧ (j < q → isP (opsOf ops j).op = true) := by
    intro j hj hne
    have := h4 j hj
    rw [if_neg (fun e => hne (Nat.eq_of_beq_eq_true e))] at this
    simp only [Bool.and_eq_true, Bool.or_eq_true, Bool.not_eq_true'] at this
    refine ⟨this.1, fun hlt => ?_⟩
    rcases this.2 with g | g
    · have : Nat.blt j q = true := by rw [Nat.blt_eq]; exact hlt
      rw [this] at g; cases g
    · exact g
  have hat' : ∀ j, j < ops.length → ops[j]? = some (opsOf ops j) := fun j hj => opsOf_get hj
  have hHq : ∀ j, j ≤ q → heapsOf H t j = H := by
    intro j
    induction j with
    | zero => intro _; rfl
    | succ j ih =>
      intro hj
      obtain ⟨e1, _⟩ := isP_stepV ((h4' j (by omega) (by omega)).2 (by omega)) (hst j _ (hat' j (by omega)))
      exact Eq.trans e1 (ih (by omega))
  have hH1 : heapsOf H t (q + 1) = H1 := by
    obtain ⟨e, hpre⟩ := hq
    obtain ⟨e2, hpre2⟩ := take_trace ht (q + 1) (by omega)
    rw [hpre, Option.some.injEq, Prod.mk.injEq] at hpre2
    exact hpre2.2.symm
  have hpre1 : H1.take H.length = H := by
    refine hat_ext (by rw [List.length_take]; have := hk.1; omega) fun b => ?_
    rw [hat_take]
    by_cases hb : b < H.length
    · rw [if_pos hb, hk.2 b hb (fun e => e)]
    · rw [if_neg hb, hat_none (by omega)]
  simp only [freeOk, Bool.and_eq_true, List.all_eq_true, List.mem_range]
  refine ⟨h1, by simpa only [apartOk, List.all_eq_true, List.mem_range] using h2', fun j hj => ?_⟩
  obtain ⟨i2, i1, i0⟩ := low j (by omega)
  simp only [freeAt, Bool.and_eq_true]
  by_cases hjq : j = q
  · subst hjq
    have e0 := hHq j (Nat.le_refl _)
    have hm : mask (keepS (fun k => (heapsOf H t k).length) ops.length fun i => ((Region.before ops.toArray).getD j 0).testBit i) 0 (heapsOf H t j) = heapsOf H t j := by
      refine mask_all fun i hi => ?_
      rw [e0] at hi
      exact keepS_iff.2 (.inl hi)
    rw [hm]
    refine ⟨?_, i2, ?_⟩
    · rw [hH1, e0, hpre1]; exact heapEq_refl _
    · have hm2 : mask (keepS (fun k => (heapsOf H t k).length) ops.length fun i => ((Region.before ops.toArray).getD j 0).testBit i || Nat.beq i j) 0 (heapsOf H t (j + 1)) = heapsOf H t (j + 1) := by
        refine mask_all fun i hi => ?_
        rcases Nat.lt_or_ge i H.length with h' | h'
        · exact keepS_iff.2 (.inl h')
        · exact keepS_iff.2 (.inr ⟨j, hj, by simp, by rw [e0]; exact h', hi⟩)
      rw [hm2, stepV_congr (fun t' => i1.eq t')]
      rw [hst j _ (hat' j hj)]
      show sameStep (some ((t.getD j dft).1, heapsOf H t (j + 1))) _ _ = true
      cases (t.getD j dft).1 <;> simp [sameStep, AV.beq_refl, heapEq_refl]
  · obtain ⟨hp, _⟩ := h4' j hj hjq
    have hop : plainOp (opsOf ops j).op = true := by simp only [plainOper, Bool.and_eq_true] at hp; exact hp.1
    have hs' := hst j _ (hat' j hj)
    rw [stepV_plain hp, Option.bind_eq_some_iff] at hs'
    obtain ⟨⟨r, K0⟩, ha, hs'⟩ := hs'
    obtain ⟨v, rfl, hv⟩ := plain_step hop i1 ha
    simp only [Option.some.injEq] at hs'
    have e1 : (t.getD j dft).1 = some v := (congrArg Prod.fst hs').symm
    have e2 : heapsOf H t (j + 1) = K0 := (congrArg Prod.snd hs').symm
    have keep : ∀ (B : Nat → Bool) i, i < (heapsOf H t j).length → keepS (fun k => (heapsOf H t k).length) ops.length B i = keepS (fun k => (heapsOf H t k).length) ops.length (fun k => B k || Nat.beq k j) i := by
      intro B i hi
      rw [Bool.eq_iff_iff, keepS_iff, keepS_iff]
      constructor
      · rintro (h | ⟨k, a1, a2, a3⟩)
        · exact .inl h
        · exact .inr ⟨k, a1, by rw [a2]; rfl, a3⟩
      · rintro (h | ⟨k, a1, a2, a3⟩)
        · exact .inl h
        · refine .inr ⟨k, a1, ?_, a3⟩
          rw [Bool.or_eq_true] at a2
          rcases a2 with a2 | a2
          · exact a2
          · have := Nat.eq_of_beq_eq_true a2; subst this; omega
    refine ⟨?_, heapLow_iff.2 fun o ho => heapLow_iff.1 i2 o (mask_mem ho), ?_⟩
    · rw [e2]
      rcases hv with ⟨g, _, _⟩ | ⟨ob, g, _, _, _⟩
      · rw [g, List.take_of_length_le (Nat.le_refl _)]; exact heapEq_refl _
      · rw [g, List.take_left' rfl]; exact heapEq_refl _
    · rw [stepV_plain hp, plain_congr (fun t => i1.eq t) hop, e1]
      rcases hv with ⟨g, _, e3⟩ | ⟨ob, g, _, _, e3⟩
      · rw [e3, e2, g, mask_congr (keep _)]
        simp only [Option.bind_some, sameStep, AV.beq_refl, heapEq_refl, Bool.and_self]
      · rw [e3 _ mask_len]
        have : keepS (fun k => (heapsOf H t k).length) ops.length (fun k => ((Region.before ops.toArray).getD j 0).testBit k || Nat.beq k j) (0 + (heapsOf H t j).length) = true := by
          refine keepS_iff.2 (.inr ⟨j, hj, ?_, by omega, ?_⟩)
          · rw [Bool.or_eq_true]; exact .inr (Nat.beq_refl j)
          · rw [e2, g]; simp
        rw [e2, g, mask_app, mask_congr (keep _), this]
        simp only [Option.bind_some, sameStep, AV.beq_refl, heapEq_refl, Bool.and_self, if_true]
end Go.AM
