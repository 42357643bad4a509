/- The law SeatPlays (own work): the walk. -/
import Derived.Test.YtffpahpbgeillaaRt
import Derived.Test.YtffpahpbgeillaaM8
import Derived.Test.YtffpahpbgeillaaM8
namespace Go.Proofs.Ytffpahpbgeillaa.sy
open Go.AM Go.AM.Seat
set_option linter.unusedSimpArgs false
set_option linter.unusedVariables false
variable {G : List Nat → Option (List AV)} {base : Nat} {w0 : World}
set_option maxRecDepth 100000
set_option maxHeartbeats 16000000
/-- a deed: what is done, an id, ids -/
structure Dq where
  do_ : Int
  id : Int
  v : AV
  zs : List Int
  one : v.one = true
def encQ (d : Dq) : List AV := [.int .i64 d.do_, .int .i64 d.id, d.v]
def wQ : Wd Dq := ⟨3, encQ, by decide, fun _ => rfl, fun d => by simp [encQ, d.one]; exact ⟨rfl, rfl⟩⟩
structure DeedsQ (G : List Nat → Option (List AV)) (base : Nat) (w0 : World) (v : AV) (ds : List Dq) : Prop where
  out : ∀ H, SlF (kn G base w0).c H wQ v ds
  each : ∀ d ∈ ds, (∀ H, Sl (kn G base w0).c H d.v (ints d.zs)) ∧ d.v.at? = none ∧ d.v.cells = [d.v]
theorem fl_of {α : Type} {w : Wd α} {Good : List AV → Prop} {ok : α → Prop} (hg : ∀ vs, Good vs → ∃ d, vs = w.enc d ∧ ok d) {cs : List AV} : ∀ n, n * w.W ≤ cs.length → (∀ i, i < n → Good ((cs.drop (i * w.W)).take w.W)) → ∃ ds : List α, ds.length = n ∧ w.fl ds = cs.take (n * w.W) ∧ ∀ d ∈ ds, ok d
  | 0, _, _ => ⟨[], rfl, by simp [Wd.fl], by simp⟩
  | n + 1, hl, h => by
    rw [Nat.succ_mul] at hl
    obtain ⟨ds, h1, h2, h3⟩ := fl_of hg n (by omega) (fun i hi => h i (by omega))
    obtain ⟨d, hd, hok⟩ := hg _ (h n (by omega))
    refine ⟨ds ++ [d], by simp [h1], ?_, fun x hx => ?_⟩
    · rw [Wd.fl_app, h2, Nat.succ_mul, List.take_add]
      congr 1
      rw [hd]; simp [Wd.fl]
    · rcases List.mem_append.1 hx with hx | hx
      · exact h3 x hx
      · simp at hx; subst hx; exact hok
theorem deedsQ_of {W : World} {u : AV} (g : ∃ v n, [u] = [v] ∧ SlG Try.prog W v 3 n (GoodL [fun vs => ∃ n, vs = [AV.int .i64 n] ∧ (Lit.int .i64 n).wf = true, fun vs => ∃ n, vs = [AV.int .i64 n] ∧ (Lit.int .i64 n).wf = true, fun vs => ∃ v n, vs = [v] ∧ SlG Try.prog W v 1 n (fun vs => ∃ n, vs = [AV.int .i64 n] ∧ (Lit.int .i64 n).wf = true)])) : ∃ ds, DeedsQ (decG Try.prog W) base w0 u ds := by
  obtain ⟨v, n, hv, h⟩ := g
  simp at hv
  subst hv
  rcases h with ⟨h, rfl⟩ | ⟨path, cs, rfl, hG, hl, hi⟩
  · exact ⟨[], fun H => .inl ⟨h, rfl⟩, by simp⟩
  · obtain ⟨ds, h1, h2, h3⟩ := fl_of (w := wQ) (ok := fun d => (∀ H, Sl (kn (decG Try.prog W) base w0).c H d.v (ints d.zs)) ∧ d.v.at? = none ∧ d.v.cells = [d.v]) (fun vs hq => by
      obtain ⟨a, b, rfl, ⟨x, rfl, _⟩, c, d, rfl, ⟨y, rfl, _⟩, e, f, rfl, ⟨z, m, rfl, hz⟩, rfl⟩ := hq
      obtain ⟨zs, _, z2, z3, _⟩ := hz.ints
      have h1 := sl_one (z3 [])
      exact ⟨⟨x, y, z, zs, h1.1⟩, rfl, z3, z2, h1.2⟩) n hl hi
    exact ⟨ds, fun H => .inr ⟨.ext path, 0, by rw [h1]; rfl, fun _ => ⟨cs, hG, by rw [Nat.zero_mul, List.drop_zero, h1, h2]⟩⟩, h3⟩
/-! ### both tables -/
structure Two (H : AHeap) (p pm n : Nat) (m1 m2 : Nat) (vm : AV) (ts : List Sa) (f g : Int → Option Int) : Prop where
  s : Seats H p m1 m2 n f g
  m : Mx H pm n vm ts
  t : TR ts f g
  g : Good n f g
variable {H : AHeap} {p pm n m1 m2 : Nat} {vm : AV} {ts : List Sa} {f g : Int → Option Int}
theorem apart {H : AHeap} {j : Nat} (hs : Seats H p m1 m2 n f g) (hm : Mx H pm n vm ts) (hj : MOwn pm vm j) : j ≠ p ∧ j ≠ m1 ∧ j ≠ m2 := by
  obtain ⟨l1, c1, h1, _⟩ := hs.now
  obtain ⟨l2, c2, h2, _⟩ := hs.last
  have hr := hs.row
  have key : ∀ e k cs, hat H j = some (.row e k cs) → e ≠ 49 → j ≠ p ∧ j ≠ m1 ∧ j ≠ m2 := fun e k cs h he => by
    refine ⟨?_, ?_, ?_⟩ <;> intro hh <;> rw [hh] at h
    · rw [hr] at h; simp only [Option.some.injEq, AObj.row.injEq] at h; exact he h.1.symm
    · rw [h1] at h; cases h
    · rw [h2] at h; cases h
  rcases hj with rfl | hj
  · exact key _ _ _ hm.row (by decide)
  · rcases hm.own with ⟨rfl, _⟩ | ⟨b, rfl, hb⟩
    · cases hj
    · simp only [AV.at?, Option.some.injEq] at hj
      subst hj
      exact key _ _ _ hb (by decide)
theorem Two.keep {H' : AHeap} (h : Two H p pm n m1 m2 vm ts f g) (hk : Keep H H' (fun _ => False)) : Two H' p pm n m1 m2 vm ts f g :=
  ⟨h.s.keep (hk.2 _ (hat_lt h.s.row) id) (hk.2 _ h.s.now.lt id) (hk.2 _ h.s.last.lt id), h.m.keep fun j hj => hk.2 j (h.m.lt hj) id, h.t, h.g⟩
/-- the real ones have moved -/
theorem Two.mx {H' : AHeap} (h : Two H p pm n m1 m2 vm ts f g) {S : Nat → Prop} (hk : Keep H H' S) (hS : ∀ j, S j → j = p ∨ j = m1 ∨ j = m2) : Mx H' pm n vm ts := h.m.keep fun j hj => hk.2 j (h.m.lt hj) fun e => by
  obtain ⟨a1, a2, a3⟩ := apart h.s h.m hj
  rcases hS j e with e | e | e <;> contradiction
/-- the document's have moved -/
theorem seats_keep {H H' : AHeap} {vm' : AV} (hs : Seats H p m1 m2 n f g) (hm : Mx H pm n vm ts) (hk : Mk H H' pm vm vm') : Seats H' p m1 m2 n f g := by
  refine hs.keep (hk.keep.2 _ (hat_lt hs.row) fun e => ?_) (hk.keep.2 _ hs.now.lt fun e => ?_) (hk.keep.2 _ hs.last.lt fun e => ?_)
  · exact (apart hs hm e).1 rfl
  · exact (apart hs hm e).2.1 rfl
  · exact (apart hs hm e).2.2 rfl
theorem Good.forg (h : Good n f g) (id : Int) : Good n (upd1 f id Option.none) (upd1 g id Option.none) := by
  refine ⟨fun a c hc => ?_, fun a c hc => ?_, fun a b c ha hb => ?_⟩
  · simp only [upd1] at hc; split at hc; cases hc; exact h.fr a c hc
  · simp only [upd1] at hc; split at hc; cases hc; exact h.gr a c hc
  · simp only [upd1] at ha hb; split at ha; cases ha; split at hb; cases hb; exact h.inj a b c ha hb
theorem both_sit {H H1 H2 : AHeap} {ids : List Int} {r r' : AV} (h : Two H p pm n m1 m2 vm ts f g) (h1 : SitS p m1 m2 n f g ids H r H1) (h2 : RSitS (G := G) (base := base) (w0 := w0) pm n vm f g ts.length ids H1 r' H2) :
    ∃ (e : Int) (xs : List Int) (x y : AV) (m1' : Nat) (vm' : AV) (ts' : List Sa) (f' g' : Int → Option Int), r = .tuple [x, .int .i64 e] ∧ r' = .tuple [y, .int .i64 e] ∧ Sl (kn G base w0).c H2 x (ints xs) ∧ Sl (kn G base w0).c H2 y (ints xs) ∧ Two H2 p pm n m1' m2 vm' ts' f' g' ∧ ts'.length ≤ ts.length + ids.length ∧ Keep H H2 (fun j => j = p ∨ j = m1 ∨ j = m2 ∨ MOwn pm vm j) ∧ xs.length ≤ ids.length := by
  obtain ⟨hk1, h1⟩ := h1
  have hm1 := h.mx hk1 (fun j e => e)
  have hkk : Keep H H1 (fun j => j = p ∨ j = m1 ∨ j = m2 ∨ MOwn pm vm j) := hk1.mono fun j _ e => by
    rcases e with e | e | e
    · exact .inl e
    · exact .inr (.inl e)
    · exact .inr (.inr (.inl e))
  rcases h1 with ⟨a1, rfl, hs⟩ | ⟨a1, a2, rfl, hs⟩ | ⟨a1, a2, o, m', rfl, hs, ho, hm', hob⟩
  · rcases h2 with ⟨b1, rfl, rfl⟩ | ⟨b1, _⟩ | ⟨b1, _⟩
    · exact ⟨6, [], _, _, m1, vm, ts, f, g, rfl, rfl, Sl.nil, Sl.nil, ⟨hs, hm1, h.t, h.g⟩, by omega, hkk, by simp⟩
    · omega
    · omega
  · rcases h2 with ⟨b1, _⟩ | ⟨b1, b2, rfl, rfl⟩ | ⟨b1, b2, _⟩
    · omega
    · exact ⟨2, [], _, _, m1, vm, ts, f, g, rfl, rfl, Sl.nil, Sl.nil, ⟨hs, hm1, h.t, h.g⟩, by omega, hkk, by simp⟩
    · exact absurd b2 a2
  · rcases h2 with ⟨b1, _⟩ | ⟨b1, b2, _⟩ | ⟨b1, b2, o', v', ts', rfl, hm2, hk2, ht2, hl2, hsl2, _⟩
    · omega
    · exact absurd a2 b2
    have hs2 := seats_keep hs hm1 hk2
    have ho2 : Own H2 o 3 (ints (ids.map fun id => (sitN n f g ids id).getD 0)) := ho.keep fun b hb => hk2.keep.2 b (ho.lt hb) fun e => by
      have hrow : hat H1 b = some (.row 3 1 (ints (ids.map fun id => (sitN n f g ids id).getD 0))) := by
        rcases ho with ⟨rfl, _⟩ | ⟨b', rfl, hb'⟩
        · cases hb
        · simp only [AV.at?, Option.some.injEq] at hb; subst hb; exact hb'
      rcases e with rfl | e
      · rw [hm1.row] at hrow; simp at hrow
      · rcases hm1.own with ⟨rfl, _⟩ | ⟨b', rfl, hb'⟩
        · cases e
        · simp only [AV.at?, Option.some.injEq] at e; subst e
          have hb2 : hat H1 b' = _ := hb'
          rw [hb2] at hrow; simp at hrow
    exact ⟨0, _, o, o', m', v', ts', _, _, rfl, rfl, ho2.sl, hsl2, ⟨hs2, hm2, ht2, (h.g.sit a2 a1).1⟩, hl2, hkk.trans (hk2.keep.mono fun j _ e => .inr (.inr (.inr e))), by simp⟩
theorem hP8 : hasBody Try.prog 8 = true := by kernel_rfl
theorem hP9 : hasBody Try.prog 9 = true := by kernel_rfl
theorem hP10 : hasBody Try.prog 10 = true := by kernel_rfl
theorem hP11 : hasBody Try.prog 11 = true := by kernel_rfl
theorem hP13 : hasBody Try.prog 13 = true := by kernel_rfl
theorem hP14 : hasBody Try.prog 14 = true := by kernel_rfl
theorem hP15 : hasBody Try.prog 15 = true := by kernel_rfl
theorem as39 {l : Go.AM.Loc} {off : Nat} {u : Dq} {H : AHeap} : astore (kn G base w0).c H 39 (.ptr l off) (.agg (encQ u)) = wr H l off (encQ u) := by simp [astore, kn_P, sz39, cells_agg, encQ]
theorem bxQ {H : AHeap} (u : Dq) : wr (hnew H (.row 39 3 [.int .i64 0, .int .i64 0, .nilslice])) (.own H.length) 0 (encQ u) = some (hnew H (.row 39 3 (encQ u))) := by
  simp only [wr, hat_nn]
  rw [if_pos ⟨by simp [encQ], wQ.one u⟩]
  simp [setSeg, encQ, hnew]
theorem seatPlays_law (a : Int) {v : AV} {ds : List Dq} (hd : DeedsQ G base w0 v ds) : ∃ r H', Pt (kn G base w0) 6 [.int .i64 a, v] [] r H' ∧ r = .bool true := by
  refine Pt.fn (n := 134) (rs := [.tmp 4]) Try.func6 (b := _) rfl rfl rfl (by decide) ?_
  have hlen := fun H => (hd.out H).len (t := 33) Try.underlying33
  repeat (first | with_reducible refine D.sq ?_ | with_reducible refine D.bl ?_ | with_reducible refine D.skip ?_ | with_reducible refine D.rg (T := none_) (by kernel_rfl) (by simp (maxSteps := 1000000) (disch := omega) only [rulesA, rulesB, numbered, ayield, mapO, constAV, scAV, optval, abin, aint, acmp, aconv, aun, aeq, aminmax, afieldAddr, abuild, anew, fieldPlaces, afill, setSeg, kn_P, Nat.reduceAdd, Nat.reduceMul, Nat.reducePow, Nat.reduceSub, Nat.reduceEqDiff, Nat.reduceLT, Nat.reduceLeDiff, Int.reduceEq, Int.reduceNe, Int.reduceLT, Int.reduceLE, Int.reduceAdd, Int.reduceSub, Int.reduceToNat, Int.reduceBNe, Int.reduceBEq, tyR, rulesC]; with_reducible rfl) ?_ | with_reducible refine D.ct2 (by simp (maxSteps := 1000000) (disch := omega) only [rulesV, numbered, constAV, scAV, Nat.reduceEqDiff, Nat.reduceLT, Nat.reduceLeDiff, rulesC]; with_reducible rfl) (by with_reducible rfl) ?_ | with_reducible refine D.cf2 (by simp (maxSteps := 1000000) (disch := omega) only [rulesV, numbered, constAV, scAV, Nat.reduceEqDiff, Nat.reduceLT, Nat.reduceLeDiff, rulesC]; with_reducible rfl) (by with_reducible rfl) ?_ | with_reducible refine D.exit ?_ | with_reducible refine D.ret ?_ | simp only [rulesK, Nat.reduceEqDiff])
  obtain ⟨ra, Ha, hc8, rfl⟩ := call_only (κ := kn G base w0) (f := 8) (args := []) (H := []) (fun _ H r H' => r = .bool true) awake_ok
  refine D.rgC hc8 (by kernel_rfl) (by simp (maxSteps := 1000000) (disch := omega) only [rulesA, rulesB, numbered, ayield, mapO, constAV, scAV, optval, abin, aint, acmp, aconv, aun, aeq, aminmax, afieldAddr, abuild, anew, fieldPlaces, afill, setSeg, kn_P, Nat.reduceAdd, Nat.reduceMul, Nat.reducePow, Nat.reduceSub, Nat.reduceEqDiff, Nat.reduceLT, Nat.reduceLeDiff, Int.reduceEq, Int.reduceNe, Int.reduceLT, Int.reduceLE, Int.reduceAdd, Int.reduceSub, Int.reduceToNat, Int.reduceBNe, Int.reduceBEq, tyR, rulesC, hc8, hP8]; with_reducible rfl) ?_
  by_cases hl : ds.length ≤ 100
  rotate_left
  · repeat (first | with_reducible refine D.sq ?_ | with_reducible refine D.bl ?_ | with_reducible refine D.skip ?_ | with_reducible refine D.rg (T := none_) (by kernel_rfl) (by simp (maxSteps := 1000000) (disch := omega) only [rulesA, rulesB, numbered, ayield, mapO, constAV, scAV, optval, abin, aint, acmp, aconv, aun, aeq, aminmax, afieldAddr, abuild, anew, fieldPlaces, afill, setSeg, kn_P, Nat.reduceAdd, Nat.reduceMul, Nat.reducePow, Nat.reduceSub, Nat.reduceEqDiff, Nat.reduceLT, Nat.reduceLeDiff, Int.reduceEq, Int.reduceNe, Int.reduceLT, Int.reduceLE, Int.reduceAdd, Int.reduceSub, Int.reduceToNat, Int.reduceBNe, Int.reduceBEq, tyR, rulesC, hlen]; with_reducible rfl) ?_ | with_reducible refine D.ct2 (by simp (maxSteps := 1000000) (disch := omega) only [rulesV, numbered, constAV, scAV, Nat.reduceEqDiff, Nat.reduceLT, Nat.reduceLeDiff, rulesC, hlen]; with_reducible rfl) (by with_reducible rfl) ?_ | with_reducible refine D.cf2 (by simp (maxSteps := 1000000) (disch := omega) only [rulesV, numbered, constAV, scAV, Nat.reduceEqDiff, Nat.reduceLT, Nat.reduceLeDiff, rulesC, hlen]; with_reducible rfl) (by with_reducible rfl) ?_ | with_reducible refine D.exit ?_ | with_reducible refine D.ret ?_ | simp only [rulesK, Nat.reduceEqDiff])
    refine ⟨_, by simp only [resOf, aresult, rulesA, rulesB, numbered, ayield, mapO, constAV, scAV, optval, abin, aint, acmp, aconv, aun, aeq, aminmax, afieldAddr, abuild, anew, fieldPlaces, afill, setSeg, kn_P, Nat.reduceAdd, Nat.reduceMul, Nat.reducePow, Nat.reduceSub, Nat.reduceEqDiff, Nat.reduceLT, Nat.reduceLeDiff, Int.reduceEq, Int.reduceNe, Int.reduceLT, Int.reduceLE, Int.reduceAdd, Int.reduceSub, Int.reduceToNat, Int.reduceBNe, Int.reduceBEq, tyR]; with_reducible rfl, ?_⟩
    rfl
  obtain ⟨n, hn⟩ : ∃ n : Nat, (n : Int) = min (max a 1) 64 := ⟨(min (max a 1) 64).toNat, by omega⟩
  have hmx : aminmax true [.int .i64 a, .int .i64 1] = some (.int .i64 (max a 1)) := by simp [aminmax]; omega
  have hmn : aminmax false [.int .i64 (max a 1), .int .i64 64] = some (.int .i64 n) := by rw [hn]; simp [aminmax]; omega
  repeat (first | with_reducible refine D.sq ?_ | with_reducible refine D.bl ?_ | with_reducible refine D.skip ?_ | with_reducible refine D.rg (T := none_) (by kernel_rfl) (by simp (maxSteps := 1000000) (disch := omega) only [rulesA, rulesB, numbered, ayield, mapO, constAV, scAV, optval, abin, aint, acmp, aconv, aun, aeq, afieldAddr, abuild, anew, fieldPlaces, afill, setSeg, kn_P, Nat.reduceAdd, Nat.reduceMul, Nat.reducePow, Nat.reduceSub, Nat.reduceEqDiff, Nat.reduceLT, Nat.reduceLeDiff, Int.reduceEq, Int.reduceNe, Int.reduceLT, Int.reduceLE, Int.reduceAdd, Int.reduceSub, Int.reduceToNat, Int.reduceBNe, Int.reduceBEq, tyR, rulesC, hlen, hmx, hmn]; with_reducible rfl) ?_ | with_reducible refine D.ct2 (by simp (maxSteps := 1000000) (disch := omega) only [rulesV, numbered, constAV, scAV, Nat.reduceEqDiff, Nat.reduceLT, Nat.reduceLeDiff, rulesC, hlen, hmx, hmn]; with_reducible rfl) (by with_reducible rfl) ?_ | with_reducible refine D.cf2 (by simp (maxSteps := 1000000) (disch := omega) only [rulesV, numbered, constAV, scAV, Nat.reduceEqDiff, Nat.reduceLT, Nat.reduceLeDiff, rulesC, hlen, hmx, hmn]; with_reducible rfl) (by with_reducible rfl) ?_ | with_reducible refine D.exit ?_ | with_reducible refine D.ret ?_ | simp only [rulesK, Nat.reduceEqDiff])
  obtain ⟨r1, H1, hc9, p, m1, m2, n', rfl, hn', hs, hk, -⟩ := call_only (κ := kn G base w0) (f := 9) (args := [.int .i64 a]) (H := Ha) (fun _ H r H' => NewS a H r H') (new_ok a)
  obtain rfl : n' = n := by omega
  refine D.rgC hc9 (by kernel_rfl) (by simp (maxSteps := 1000000) (disch := omega) only [rulesA, rulesB, numbered, ayield, mapO, constAV, scAV, optval, abin, aint, acmp, aconv, aun, aeq, aminmax, afieldAddr, abuild, anew, fieldPlaces, afill, setSeg, kn_P, Nat.reduceAdd, Nat.reduceMul, Nat.reducePow, Nat.reduceSub, Nat.reduceEqDiff, Nat.reduceLT, Nat.reduceLeDiff, Int.reduceEq, Int.reduceNe, Int.reduceLT, Int.reduceLE, Int.reduceAdd, Int.reduceSub, Int.reduceToNat, Int.reduceBNe, Int.reduceBEq, tyR, rulesC, hc9, hP9, fresh]; with_reducible rfl) ?_
  have hpm : hat (hnew H1 (.row 37 2 [.int .i64 n', .nilslice])) H1.length = some (.row 37 2 [.int .i64 n', .nilslice]) := hat_nn _
  have hkn : Keep H1 (hnew H1 (.row 37 2 [.int .i64 n', .nilslice])) (fun _ => False) := Keep.new _ _
  have hT : Two (hnew H1 (.row 37 2 [.int .i64 n', .nilslice])) p H1.length n' m1 m2 .nilslice [] (fun _ => none) (fun _ => none) :=
    ⟨hs.keep (hkn.2 _ (hat_lt hs.row) id) (hkn.2 _ hs.now.lt id) (hkn.2 _ hs.last.lt id), ⟨hpm, .inl ⟨rfl, rfl⟩, by simp [AV.at?]⟩, TR.nil, Good.none _⟩
  clear hc9 hc8 hs hk hkn hpm hmx hmn
  generalize hnew H1 (.row 37 2 [.int .i64 n', .nilslice]) = H2 at *
  generalize H1.length = pm at *
  have hn0 : 0 < n' := by omega
  have hn64 : n' ≤ 64 := by omega
  clear hn
  simp only [rulesK, Nat.reduceEqDiff]
  repeat (first | with_reducible refine D.sq ?_ | with_reducible refine D.bl ?_ | with_reducible refine D.skip ?_ | with_reducible refine D.rg (T := none_) (by kernel_rfl) (by simp (maxSteps := 1000000) (disch := omega) only [rulesA, rulesB, numbered, ayield, mapO, constAV, scAV, optval, abin, aint, acmp, aconv, aun, aeq, aminmax, afieldAddr, abuild, anew, fieldPlaces, afill, setSeg, kn_P, Nat.reduceAdd, Nat.reduceMul, Nat.reducePow, Nat.reduceSub, Nat.reduceEqDiff, Nat.reduceLT, Nat.reduceLeDiff, Int.reduceEq, Int.reduceNe, Int.reduceLT, Int.reduceLE, Int.reduceAdd, Int.reduceSub, Int.reduceToNat, Int.reduceBNe, Int.reduceBEq, tyR, rulesC]; with_reducible rfl) ?_ | with_reducible refine D.ct2 (by simp (maxSteps := 1000000) (disch := omega) only [rulesV, numbered, constAV, scAV, Nat.reduceEqDiff, Nat.reduceLT, Nat.reduceLeDiff, rulesC]; with_reducible rfl) (by with_reducible rfl) ?_ | with_reducible refine D.cf2 (by simp (maxSteps := 1000000) (disch := omega) only [rulesV, numbered, constAV, scAV, Nat.reduceEqDiff, Nat.reduceLT, Nat.reduceLeDiff, rulesC]; with_reducible rfl) (by with_reducible rfl) ?_ | with_reducible refine D.exit ?_ | with_reducible refine D.ret ?_ | simp only [rulesK, Nat.reduceEqDiff])
  refine D.lp (fun m env H' => ∃ (i : Nat) (m1 : Nat) (vm : AV) (ts : List Sa) (f g : Int → Option Int), m = ds.length - i ∧ i ≤ ds.length ∧ Two H' p pm n' m1 m2 vm ts f g ∧ ts.length ≤ 80 * i ∧ ELe (E 134 [(8, .int .i64 i), (7, .ptr (.own pm) 0), (6, .ptr (.own p) 0), (1, v)]) env) ds.length
    ⟨0, m1, .nilslice, [], _, _, by omega, by omega, hT, by simp, by exact E_le (by decide) (E_size _ _) (by simp only [List.forall_mem_cons, List.not_mem_nil, false_implies, implies_true, and_true, E_get, Nat.reduceEqDiff, Nat.reduceLT, Nat.reduceLeDiff, if_true, if_false, and_self, true_and] <;> first | rfl | exact ⟨rfl, rfl⟩)⟩ ?_
  clear hT m1
  rintro m env H3 ⟨i, m1, vm, ts, f, g, rfl, hi, hT, htl, he⟩
  refine D.forget he ?_
  clear he
  by_cases hin : i < ds.length
  rotate_left
  · obtain rfl : i = ds.length := by omega
    repeat (first | with_reducible refine D.sq ?_ | with_reducible refine D.bl ?_ | with_reducible refine D.skip ?_ | with_reducible refine D.rg (T := none_) (by kernel_rfl) (by simp (maxSteps := 1000000) (disch := omega) only [rulesA, rulesB, numbered, ayield, mapO, constAV, scAV, optval, abin, aint, acmp, aconv, aun, aeq, aminmax, afieldAddr, abuild, anew, fieldPlaces, afill, setSeg, kn_P, Nat.reduceAdd, Nat.reduceMul, Nat.reducePow, Nat.reduceSub, Nat.reduceEqDiff, Nat.reduceLT, Nat.reduceLeDiff, Int.reduceEq, Int.reduceNe, Int.reduceLT, Int.reduceLE, Int.reduceAdd, Int.reduceSub, Int.reduceToNat, Int.reduceBNe, Int.reduceBEq, tyR, rulesC, hlen]; with_reducible rfl) ?_ | with_reducible refine D.ct2 (by simp (maxSteps := 1000000) (disch := omega) only [rulesV, numbered, constAV, scAV, Nat.reduceEqDiff, Nat.reduceLT, Nat.reduceLeDiff, rulesC, hlen]; with_reducible rfl) (by with_reducible rfl) ?_ | with_reducible refine D.cf2 (by simp (maxSteps := 1000000) (disch := omega) only [rulesV, numbered, constAV, scAV, Nat.reduceEqDiff, Nat.reduceLT, Nat.reduceLeDiff, rulesC, hlen]; with_reducible rfl) (by with_reducible rfl) ?_ | with_reducible refine D.exit ?_ | with_reducible refine D.ret ?_ | simp only [rulesK, Nat.reduceEqDiff])
    refine ⟨_, by simp only [resOf, aresult, rulesA, rulesB, numbered, ayield, mapO, constAV, scAV, optval, abin, aint, acmp, aconv, aun, aeq, aminmax, afieldAddr, abuild, anew, fieldPlaces, afill, setSeg, kn_P, Nat.reduceAdd, Nat.reduceMul, Nat.reducePow, Nat.reduceSub, Nat.reduceEqDiff, Nat.reduceLT, Nat.reduceLeDiff, Int.reduceEq, Int.reduceNe, Int.reduceLT, Int.reduceLE, Int.reduceAdd, Int.reduceSub, Int.reduceToNat, Int.reduceBNe, Int.reduceBEq, tyR]; with_reducible rfl, ?_⟩
    rfl
  have hia := (hd.out H3).ia (t := 33) Try.underlying33 sz39 hin .i64
  have hld : aload (kn G base w0).c H3 39 (ptrF wQ v i) = some (.agg (encQ ds[i])) := (hd.out H3).ldA (c := (kn G base w0).c) hin ag39 sz39
  have hdr := hd.each ds[i] (List.getElem_mem hin)
  generalize ds[i] = d at hld hdr
  obtain ⟨hsl, hat0, hcel⟩ := hdr
  have hst := bxQ (H := H3) d
  have hT1 : Two (hnew H3 (.row 39 3 (encQ d))) p pm n' m1 m2 vm ts f g := hT.keep (Keep.new _ _)
  have hbd : hat (hnew H3 (.row 39 3 (encQ d))) H3.length = some (.row 39 3 (encQ d)) := hat_nn _
  have hwi : IntKind.i64.wrap ((i : Int) + 1) = ((i + 1 : Nat) : Int) := wrapN _ (by omega) (by omega)
  have hne : ∀ {j : Nat}, j = p ∨ j = m1 ∨ j = m2 ∨ MOwn pm vm j → H3.length ≠ j := fun {j} hj => by
    have : j < H3.length := by
      rcases hj with e | e | e | e
      · rw [e]; exact hat_lt hT.s.row
      · rw [e]; exact hT.s.now.lt
      · rw [e]; exact hT.s.last.lt
      · exact hT.m.lt e
    omega
  repeat (first | with_reducible refine D.sq ?_ | with_reducible refine D.bl ?_ | with_reducible refine D.skip ?_ | with_reducible refine D.rg (T := none_) (by kernel_rfl) (by simp (maxSteps := 1000000) (disch := omega) only [rulesA, rulesB, numbered, ayield, mapO, constAV, scAV, optval, abin, aint, acmp, aconv, aun, aeq, aminmax, afieldAddr, abuild, anew, fieldPlaces, afill, setSeg, kn_P, Nat.reduceAdd, Nat.reduceMul, Nat.reducePow, Nat.reduceSub, Nat.reduceEqDiff, Nat.reduceLT, Nat.reduceLeDiff, Int.reduceEq, Int.reduceNe, Int.reduceLT, Int.reduceLE, Int.reduceAdd, Int.reduceSub, Int.reduceToNat, Int.reduceBNe, Int.reduceBEq, tyR, rulesC, hlen, hia, hld, fresh, as39, hst]; with_reducible rfl) ?_ | with_reducible refine D.ct2 (by simp (maxSteps := 1000000) (disch := omega) only [rulesV, numbered, constAV, scAV, Nat.reduceEqDiff, Nat.reduceLT, Nat.reduceLeDiff, rulesC, hlen, hia, hld, fresh, as39, hst]; with_reducible rfl) (by with_reducible rfl) ?_ | with_reducible refine D.cf2 (by simp (maxSteps := 1000000) (disch := omega) only [rulesV, numbered, constAV, scAV, Nat.reduceEqDiff, Nat.reduceLT, Nat.reduceLeDiff, rulesC, hlen, hia, hld, fresh, as39, hst]; with_reducible rfl) (by with_reducible rfl) ?_ | with_reducible refine D.exit ?_ | with_reducible refine D.ret ?_ | simp only [rulesK, Nat.reduceEqDiff])
  clear hia hld hst
  generalize hnew H3 (.row 39 3 (encQ d)) = H4 at *
  generalize H3.length = bd at *
  have hB : ∀ K : AHeap, hat K bd = some (.row 39 3 (encQ d)) → aload (kn G base w0).c K 3 (.ptr (.own bd) 0) = some (.int .i64 d.do_) ∧ aload (kn G base w0).c K 3 (.ptr (.own bd) 1) = some (.int .i64 d.id) ∧ aload (kn G base w0).c K 26 (.ptr (.own bd) 2) = some d.v := fun K e => ⟨ld_own e rfl ag3, ld_own e rfl ag3, ld_own e rfl ag26⟩
  obtain ⟨f0, f1, f2⟩ := hB H4 hbd
  have hdl : ∀ K : AHeap, alen (kn G base w0).c K 26 d.v = some (.int .i64 d.zs.length) := fun K => by have := (hsl K).len (c := (kn G base w0).c) Try.underlying26; rwa [ints_len] at this
  by_cases h80 : 80 < d.zs.length
  · repeat (first | with_reducible refine D.sq ?_ | with_reducible refine D.bl ?_ | with_reducible refine D.skip ?_ | with_reducible refine D.rg (T := none_) (by kernel_rfl) (by simp (maxSteps := 1000000) (disch := omega) only [rulesA, rulesB, numbered, ayield, mapO, constAV, scAV, optval, abin, aint, acmp, aconv, aun, aeq, aminmax, afieldAddr, abuild, anew, fieldPlaces, afill, setSeg, kn_P, Nat.reduceAdd, Nat.reduceMul, Nat.reducePow, Nat.reduceSub, Nat.reduceEqDiff, Nat.reduceLT, Nat.reduceLeDiff, Int.reduceEq, Int.reduceNe, Int.reduceLT, Int.reduceLE, Int.reduceAdd, Int.reduceSub, Int.reduceToNat, Int.reduceBNe, Int.reduceBEq, tyR, rulesC, f2, hdl]; with_reducible rfl) ?_ | with_reducible refine D.ct2 (by simp (maxSteps := 1000000) (disch := omega) only [rulesV, numbered, constAV, scAV, Nat.reduceEqDiff, Nat.reduceLT, Nat.reduceLeDiff, rulesC, f2, hdl]; with_reducible rfl) (by with_reducible rfl) ?_ | with_reducible refine D.cf2 (by simp (maxSteps := 1000000) (disch := omega) only [rulesV, numbered, constAV, scAV, Nat.reduceEqDiff, Nat.reduceLT, Nat.reduceLeDiff, rulesC, f2, hdl]; with_reducible rfl) (by with_reducible rfl) ?_ | with_reducible refine D.exit ?_ | with_reducible refine D.ret ?_ | simp only [rulesK, Nat.reduceEqDiff])
    refine ⟨_, by simp only [resOf, aresult, rulesA, rulesB, numbered, ayield, mapO, constAV, scAV, optval, abin, aint, acmp, aconv, aun, aeq, aminmax, afieldAddr, abuild, anew, fieldPlaces, afill, setSeg, kn_P, Nat.reduceAdd, Nat.reduceMul, Nat.reducePow, Nat.reduceSub, Nat.reduceEqDiff, Nat.reduceLT, Nat.reduceLeDiff, Int.reduceEq, Int.reduceNe, Int.reduceLT, Int.reduceLE, Int.reduceAdd, Int.reduceSub, Int.reduceToNat, Int.reduceBNe, Int.reduceBEq, tyR]; with_reducible rfl, ?_⟩
    rfl
  repeat (first | with_reducible refine D.sq ?_ | with_reducible refine D.bl ?_ | with_reducible refine D.skip ?_ | with_reducible refine D.rg (T := none_) (by kernel_rfl) (by simp (maxSteps := 1000000) (disch := omega) only [rulesA, rulesB, numbered, ayield, mapO, constAV, scAV, optval, abin, aint, acmp, aconv, aun, aeq, aminmax, afieldAddr, abuild, anew, fieldPlaces, afill, setSeg, kn_P, Nat.reduceAdd, Nat.reduceMul, Nat.reducePow, Nat.reduceSub, Nat.reduceEqDiff, Nat.reduceLT, Nat.reduceLeDiff, Int.reduceEq, Int.reduceNe, Int.reduceLT, Int.reduceLE, Int.reduceAdd, Int.reduceSub, Int.reduceToNat, Int.reduceBNe, Int.reduceBEq, tyR, rulesC, f2, hdl]; with_reducible rfl) ?_ | with_reducible refine D.ct2 (by simp (maxSteps := 1000000) (disch := omega) only [rulesV, numbered, constAV, scAV, Nat.reduceEqDiff, Nat.reduceLT, Nat.reduceLeDiff, rulesC, f2, hdl]; with_reducible rfl) (by with_reducible rfl) ?_ | with_reducible refine D.cf2 (by simp (maxSteps := 1000000) (disch := omega) only [rulesV, numbered, constAV, scAV, Nat.reduceEqDiff, Nat.reduceLT, Nat.reduceLeDiff, rulesC, f2, hdl]; with_reducible rfl) (by with_reducible rfl) ?_ | with_reducible refine D.exit ?_ | with_reducible refine D.ret ?_ | simp only [rulesK, Nat.reduceEqDiff])
  refine D.cut2 (fun env' H' => ∃ (m1' : Nat) (vm' : AV) (ts' : List Sa) (f' g' : Int → Option Int), Two H' p pm n' m1' m2 vm' ts' f' g' ∧ ts'.length ≤ ts.length + 80 ∧ hat H' bd = some (.row 39 3 (encQ d)) ∧ ELe (E 134 [(9, .ptr (.own bd) 0), (8, .int .i64 i), (7, .ptr (.own pm) 0), (6, .ptr (.own p) 0), (1, v)]) env') ?_ ?_
  · by_cases h5 : d.do_ = 5
    · obtain ⟨r5, H5, hc11, rfl, hs5, hk5⟩ := call_only (κ := kn G base w0) (f := 11) (args := [.ptr (.own p) 0, .int .i64 d.id]) (H := H4) (fun _ H r H' => ForgS p m1 m2 n' f g d.id H r H') (forget_ok (G := G) (base := base) (w0 := w0) hT1.s d.id)
      have hm5 := hT1.mx hk5 fun j e => .inr e
      have hb5 : hat H5 bd = some (.row 39 3 (encQ d)) := by
        rw [hk5.2 bd (hat_lt hbd) (by rintro (e | e); exact hne (.inr (.inl rfl)) e; exact hne (.inr (.inr (.inl rfl))) e)]; exact hbd
      obtain ⟨r6, H6, hc12, rfl, vm', ts', hm6, hk6, ht6, hl6⟩ := call_only (κ := kn G base w0) (f := 12) (args := [.ptr (.own pm) 0, .int .i64 d.id]) (H := H5) (fun _ H r H' => RForgS pm n' vm f g ts.length d.id H r H') (rforget_ok (G := G) (base := base) (w0 := w0) hm5 hT1.t d.id (by omega))
      obtain ⟨-, f15, -⟩ := hB H5 hb5
      repeat (first | with_reducible refine D.sq ?_ | with_reducible refine D.bl ?_ | with_reducible refine D.skip ?_ | with_reducible refine D.rg (T := none_) (by kernel_rfl) (by simp (maxSteps := 1000000) (disch := omega) only [rulesA, rulesB, numbered, ayield, mapO, constAV, scAV, optval, abin, aint, acmp, aconv, aun, aeq, aminmax, afieldAddr, abuild, anew, fieldPlaces, afill, setSeg, kn_P, Nat.reduceAdd, Nat.reduceMul, Nat.reducePow, Nat.reduceSub, Nat.reduceEqDiff, Nat.reduceLT, Nat.reduceLeDiff, Int.reduceEq, Int.reduceNe, Int.reduceLT, Int.reduceLE, Int.reduceAdd, Int.reduceSub, Int.reduceToNat, Int.reduceBNe, Int.reduceBEq, tyR, rulesC, f0, h5]; with_reducible rfl) ?_ | with_reducible refine D.ct2 (by simp (maxSteps := 1000000) (disch := omega) only [rulesV, numbered, constAV, scAV, Nat.reduceEqDiff, Nat.reduceLT, Nat.reduceLeDiff, rulesC, f0, h5]; with_reducible rfl) (by with_reducible rfl) ?_ | with_reducible refine D.cf2 (by simp (maxSteps := 1000000) (disch := omega) only [rulesV, numbered, constAV, scAV, Nat.reduceEqDiff, Nat.reduceLT, Nat.reduceLeDiff, rulesC, f0, h5]; with_reducible rfl) (by with_reducible rfl) ?_ | with_reducible refine D.exit ?_ | with_reducible refine D.ret ?_ | simp only [rulesK, Nat.reduceEqDiff])
      refine D.rgC hc11 (by kernel_rfl) (by simp (maxSteps := 1000000) (disch := omega) only [rulesA, rulesB, numbered, ayield, mapO, constAV, scAV, optval, abin, aint, acmp, aconv, aun, aeq, aminmax, afieldAddr, abuild, anew, fieldPlaces, afill, setSeg, kn_P, Nat.reduceAdd, Nat.reduceMul, Nat.reducePow, Nat.reduceSub, Nat.reduceEqDiff, Nat.reduceLT, Nat.reduceLeDiff, Int.reduceEq, Int.reduceNe, Int.reduceLT, Int.reduceLE, Int.reduceAdd, Int.reduceSub, Int.reduceToNat, Int.reduceBNe, Int.reduceBEq, tyR, rulesC, hc11, hP11, f1]; with_reducible rfl) ?_
      repeat (first | with_reducible refine D.sq ?_ | with_reducible refine D.bl ?_ | with_reducible refine D.skip ?_ | with_reducible refine D.rg (T := none_) (by kernel_rfl) (by simp (maxSteps := 1000000) (disch := omega) only [rulesA, rulesB, numbered, ayield, mapO, constAV, scAV, optval, abin, aint, acmp, aconv, aun, aeq, aminmax, afieldAddr, abuild, anew, fieldPlaces, afill, setSeg, kn_P, Nat.reduceAdd, Nat.reduceMul, Nat.reducePow, Nat.reduceSub, Nat.reduceEqDiff, Nat.reduceLT, Nat.reduceLeDiff, Int.reduceEq, Int.reduceNe, Int.reduceLT, Int.reduceLE, Int.reduceAdd, Int.reduceSub, Int.reduceToNat, Int.reduceBNe, Int.reduceBEq, tyR, rulesC]; with_reducible rfl) ?_ | with_reducible refine D.ct2 (by simp (maxSteps := 1000000) (disch := omega) only [rulesV, numbered, constAV, scAV, Nat.reduceEqDiff, Nat.reduceLT, Nat.reduceLeDiff, rulesC]; with_reducible rfl) (by with_reducible rfl) ?_ | with_reducible refine D.cf2 (by simp (maxSteps := 1000000) (disch := omega) only [rulesV, numbered, constAV, scAV, Nat.reduceEqDiff, Nat.reduceLT, Nat.reduceLeDiff, rulesC]; with_reducible rfl) (by with_reducible rfl) ?_ | with_reducible refine D.exit ?_ | with_reducible refine D.ret ?_ | simp only [rulesK, Nat.reduceEqDiff])
      refine D.rgC hc12 (by kernel_rfl) (by simp (maxSteps := 1000000) (disch := omega) only [rulesA, rulesB, numbered, ayield, mapO, constAV, scAV, optval, abin, aint, acmp, aconv, aun, aeq, aminmax, afieldAddr, abuild, anew, fieldPlaces, afill, setSeg, kn_P, Nat.reduceAdd, Nat.reduceMul, Nat.reducePow, Nat.reduceSub, Nat.reduceEqDiff, Nat.reduceLT, Nat.reduceLeDiff, Int.reduceEq, Int.reduceNe, Int.reduceLT, Int.reduceLE, Int.reduceAdd, Int.reduceSub, Int.reduceToNat, Int.reduceBNe, Int.reduceBEq, tyR, rulesC, hc12, hR12, f15]; with_reducible rfl) ?_
      repeat (first | with_reducible refine D.sq ?_ | with_reducible refine D.bl ?_ | with_reducible refine D.skip ?_ | with_reducible refine D.rg (T := none_) (by kernel_rfl) (by simp (maxSteps := 1000000) (disch := omega) only [rulesA, rulesB, numbered, ayield, mapO, constAV, scAV, optval, abin, aint, acmp, aconv, aun, aeq, aminmax, afieldAddr, abuild, anew, fieldPlaces, afill, setSeg, kn_P, Nat.reduceAdd, Nat.reduceMul, Nat.reducePow, Nat.reduceSub, Nat.reduceEqDiff, Nat.reduceLT, Nat.reduceLeDiff, Int.reduceEq, Int.reduceNe, Int.reduceLT, Int.reduceLE, Int.reduceAdd, Int.reduceSub, Int.reduceToNat, Int.reduceBNe, Int.reduceBEq, tyR, rulesC]; with_reducible rfl) ?_ | with_reducible refine D.ct2 (by simp (maxSteps := 1000000) (disch := omega) only [rulesV, numbered, constAV, scAV, Nat.reduceEqDiff, Nat.reduceLT, Nat.reduceLeDiff, rulesC]; with_reducible rfl) (by with_reducible rfl) ?_ | with_reducible refine D.cf2 (by simp (maxSteps := 1000000) (disch := omega) only [rulesV, numbered, constAV, scAV, Nat.reduceEqDiff, Nat.reduceLT, Nat.reduceLeDiff, rulesC]; with_reducible rfl) (by with_reducible rfl) ?_ | with_reducible refine D.exit ?_ | with_reducible refine D.ret ?_ | simp only [rulesK, Nat.reduceEqDiff])
      refine ⟨m1, vm', ts', _, _, ⟨seats_keep hs5 hm5 hk6, hm6, ht6, hT1.g.forg d.id⟩, by omega, ?_, by exact E_le (by decide) (E_size _ _) (by simp only [List.forall_mem_cons, List.not_mem_nil, false_implies, implies_true, and_true, E_get, Nat.reduceEqDiff, Nat.reduceLT, Nat.reduceLeDiff, if_true, if_false, and_self, true_and] <;> first | rfl | exact ⟨rfl, rfl⟩)⟩
      rw [hk6.keep.2 bd (hat_lt hb5) fun e => hne (.inr (.inr (.inr e))) rfl]; exact hb5
    · obtain ⟨r5, H5, hc10, hS⟩ := call_only (κ := kn G base w0) (f := 10) (args := [.ptr (.own p) 0, d.v]) (H := H4) (fun _ H r H' => SitS p m1 m2 n' f g d.zs H r H') (sit_ok (G := G) (base := base) (w0 := w0) hT1.s (hsl H4) (by omega) hn0 hn64 hT1.g.fr hT1.g.gr (fun b hb => by rw [hat0] at hb; cases hb))
      have hm5 := hT1.mx hS.1 fun j e => e
      have hb5 : hat H5 bd = some (.row 39 3 (encQ d)) := by
        rw [hS.1.2 bd (hat_lt hbd) (by rintro (e | e | e); exact hne (.inl rfl) e; exact hne (.inr (.inl rfl)) e; exact hne (.inr (.inr (.inl rfl))) e)]; exact hbd
      obtain ⟨-, -, f25⟩ := hB H5 hb5
      obtain ⟨r6, H6, hc13, hR⟩ := call_only (κ := kn G base w0) (f := 13) (args := [.ptr (.own pm) 0, d.v]) (H := H5) (fun _ H r H' => RSitS (G := G) (base := base) (w0 := w0) pm n' vm f g ts.length d.zs H r H') (rsit_ok (G := G) (base := base) (w0 := w0) hm5 hT1.t hT1.g (hsl H5) (fun b hb => by rw [hat0] at hb; cases hb) (by omega) hn0 hn64 (by omega))
      obtain ⟨e, xs, x, y, m1', vm', ts', f', g', rfl, rfl, hx, hy, hT6, hl6, hk6, hxl⟩ := both_sit hT1 hS hR
      have ex := hx.len (c := (kn G base w0).c) Try.underlying26
      have ey := hy.len (c := (kn G base w0).c) Try.underlying26
      rw [ints_len] at ex ey
      have hb6 : hat H6 bd = some (.row 39 3 (encQ d)) := by
        rw [hk6.2 bd (hat_lt hbd) fun e => hne e rfl]; exact hbd
      repeat (first | with_reducible refine D.sq ?_ | with_reducible refine D.bl ?_ | with_reducible refine D.skip ?_ | with_reducible refine D.rg (T := none_) (by kernel_rfl) (by simp (maxSteps := 1000000) (disch := omega) only [rulesA, rulesB, numbered, ayield, mapO, constAV, scAV, optval, abin, aint, acmp, aconv, aun, aeq, aminmax, afieldAddr, abuild, anew, fieldPlaces, afill, setSeg, kn_P, Nat.reduceAdd, Nat.reduceMul, Nat.reducePow, Nat.reduceSub, Nat.reduceEqDiff, Nat.reduceLT, Nat.reduceLeDiff, Int.reduceEq, Int.reduceNe, Int.reduceLT, Int.reduceLE, Int.reduceAdd, Int.reduceSub, Int.reduceToNat, Int.reduceBNe, Int.reduceBEq, tyR, rulesC, f0, h5]; with_reducible rfl) ?_ | with_reducible refine D.ct2 (by simp (maxSteps := 1000000) (disch := omega) only [rulesV, numbered, constAV, scAV, Nat.reduceEqDiff, Nat.reduceLT, Nat.reduceLeDiff, rulesC, f0, h5]; with_reducible rfl) (by with_reducible rfl) ?_ | with_reducible refine D.cf2 (by simp (maxSteps := 1000000) (disch := omega) only [rulesV, numbered, constAV, scAV, Nat.reduceEqDiff, Nat.reduceLT, Nat.reduceLeDiff, rulesC, f0, h5]; with_reducible rfl) (by with_reducible rfl) ?_ | with_reducible refine D.exit ?_ | with_reducible refine D.ret ?_ | simp only [rulesK, Nat.reduceEqDiff])
      refine D.rgC hc10 (by kernel_rfl) (by simp (maxSteps := 1000000) (disch := omega) only [rulesA, rulesB, numbered, ayield, mapO, constAV, scAV, optval, abin, aint, acmp, aconv, aun, aeq, aminmax, afieldAddr, abuild, anew, fieldPlaces, afill, setSeg, kn_P, Nat.reduceAdd, Nat.reduceMul, Nat.reducePow, Nat.reduceSub, Nat.reduceEqDiff, Nat.reduceLT, Nat.reduceLeDiff, Int.reduceEq, Int.reduceNe, Int.reduceLT, Int.reduceLE, Int.reduceAdd, Int.reduceSub, Int.reduceToNat, Int.reduceBNe, Int.reduceBEq, tyR, rulesC, hc10, hP10, f2]; with_reducible rfl) ?_
      repeat (first | with_reducible refine D.sq ?_ | with_reducible refine D.bl ?_ | with_reducible refine D.skip ?_ | with_reducible refine D.rg (T := none_) (by kernel_rfl) (by simp (maxSteps := 1000000) (disch := omega) only [rulesA, rulesB, numbered, ayield, mapO, constAV, scAV, optval, abin, aint, acmp, aconv, aun, aeq, aminmax, afieldAddr, abuild, anew, fieldPlaces, afill, setSeg, kn_P, Nat.reduceAdd, Nat.reduceMul, Nat.reducePow, Nat.reduceSub, Nat.reduceEqDiff, Nat.reduceLT, Nat.reduceLeDiff, Int.reduceEq, Int.reduceNe, Int.reduceLT, Int.reduceLE, Int.reduceAdd, Int.reduceSub, Int.reduceToNat, Int.reduceBNe, Int.reduceBEq, tyR, rulesC]; with_reducible rfl) ?_ | with_reducible refine D.ct2 (by simp (maxSteps := 1000000) (disch := omega) only [rulesV, numbered, constAV, scAV, Nat.reduceEqDiff, Nat.reduceLT, Nat.reduceLeDiff, rulesC]; with_reducible rfl) (by with_reducible rfl) ?_ | with_reducible refine D.cf2 (by simp (maxSteps := 1000000) (disch := omega) only [rulesV, numbered, constAV, scAV, Nat.reduceEqDiff, Nat.reduceLT, Nat.reduceLeDiff, rulesC]; with_reducible rfl) (by with_reducible rfl) ?_ | with_reducible refine D.exit ?_ | with_reducible refine D.ret ?_ | simp only [rulesK, Nat.reduceEqDiff])
      refine D.rgC hc13 (by kernel_rfl) (by simp (maxSteps := 1000000) (disch := omega) only [rulesA, rulesB, numbered, ayield, mapO, constAV, scAV, optval, abin, aint, acmp, aconv, aun, aeq, aminmax, afieldAddr, abuild, anew, fieldPlaces, afill, setSeg, kn_P, Nat.reduceAdd, Nat.reduceMul, Nat.reducePow, Nat.reduceSub, Nat.reduceEqDiff, Nat.reduceLT, Nat.reduceLeDiff, Int.reduceEq, Int.reduceNe, Int.reduceLT, Int.reduceLE, Int.reduceAdd, Int.reduceSub, Int.reduceToNat, Int.reduceBNe, Int.reduceBEq, tyR, rulesC, hc13, hP13, f25]; with_reducible rfl) ?_
      repeat (first | with_reducible refine D.sq ?_ | with_reducible refine D.bl ?_ | with_reducible refine D.skip ?_ | with_reducible refine D.rg (T := none_) (by kernel_rfl) (by simp (maxSteps := 1000000) (disch := omega) only [rulesA, rulesB, numbered, ayield, mapO, constAV, scAV, optval, abin, aint, acmp, aconv, aun, aeq, aminmax, afieldAddr, abuild, anew, fieldPlaces, afill, setSeg, kn_P, Nat.reduceAdd, Nat.reduceMul, Nat.reducePow, Nat.reduceSub, Nat.reduceEqDiff, Nat.reduceLT, Nat.reduceLeDiff, Int.reduceEq, Int.reduceNe, Int.reduceLT, Int.reduceLE, Int.reduceAdd, Int.reduceSub, Int.reduceToNat, Int.reduceBNe, Int.reduceBEq, tyR, rulesC, ex, ey]; with_reducible rfl) ?_ | with_reducible refine D.ct2 (by simp (maxSteps := 1000000) (disch := omega) only [rulesV, numbered, constAV, scAV, Nat.reduceEqDiff, Nat.reduceLT, Nat.reduceLeDiff, rulesC, ex, ey]; with_reducible rfl) (by with_reducible rfl) ?_ | with_reducible refine D.cf2 (by simp (maxSteps := 1000000) (disch := omega) only [rulesV, numbered, constAV, scAV, Nat.reduceEqDiff, Nat.reduceLT, Nat.reduceLeDiff, rulesC, ex, ey]; with_reducible rfl) (by with_reducible rfl) ?_ | with_reducible refine D.exit ?_ | with_reducible refine D.ret ?_ | simp only [rulesK, Nat.reduceEqDiff])
      refine cutBx (fun env' H' => H6 = H' ∧ ELe (E 134 [(9, .ptr (.own bd) 0), (8, .int .i64 i), (7, .ptr (.own pm) 0), (6, .ptr (.own p) 0), (1, v)]) env') ?_ ?_
      · refine D.lp (fun m env H' => ∃ j : Nat, m = xs.length - j ∧ j ≤ xs.length ∧ H6 = H' ∧ ELe (E 134 [(14, .int .i64 j), (12, y), (10, x), (9, .ptr (.own bd) 0), (8, .int .i64 i), (7, .ptr (.own pm) 0), (6, .ptr (.own p) 0), (1, v)]) env) xs.length
          ⟨0, by omega, by omega, rfl, by exact E_le (by decide) (E_size _ _) (by simp only [List.forall_mem_cons, List.not_mem_nil, false_implies, implies_true, and_true, E_get, Nat.reduceEqDiff, Nat.reduceLT, Nat.reduceLeDiff, if_true, if_false, and_self, true_and] <;> first | rfl | exact ⟨rfl, rfl⟩)⟩ ?_
        rintro m env H7 ⟨j, rfl, hj, rfl, he⟩
        refine D.forget he ?_
        clear he
        by_cases hjn : j < xs.length
        rotate_left
        · obtain rfl : j = xs.length := by omega
          repeat (first | with_reducible refine D.sq ?_ | with_reducible refine D.bl ?_ | with_reducible refine D.skip ?_ | with_reducible refine D.rg (T := none_) (by kernel_rfl) (by simp (maxSteps := 1000000) (disch := omega) only [rulesA, rulesB, numbered, ayield, mapO, constAV, scAV, optval, abin, aint, acmp, aconv, aun, aeq, aminmax, afieldAddr, abuild, anew, fieldPlaces, afill, setSeg, kn_P, Nat.reduceAdd, Nat.reduceMul, Nat.reducePow, Nat.reduceSub, Nat.reduceEqDiff, Nat.reduceLT, Nat.reduceLeDiff, Int.reduceEq, Int.reduceNe, Int.reduceLT, Int.reduceLE, Int.reduceAdd, Int.reduceSub, Int.reduceToNat, Int.reduceBNe, Int.reduceBEq, tyR, rulesC, ex]; with_reducible rfl) ?_ | with_reducible refine D.ct2 (by simp (maxSteps := 1000000) (disch := omega) only [rulesV, numbered, constAV, scAV, Nat.reduceEqDiff, Nat.reduceLT, Nat.reduceLeDiff, rulesC, ex]; with_reducible rfl) (by with_reducible rfl) ?_ | with_reducible refine D.cf2 (by simp (maxSteps := 1000000) (disch := omega) only [rulesV, numbered, constAV, scAV, Nat.reduceEqDiff, Nat.reduceLT, Nat.reduceLeDiff, rulesC, ex]; with_reducible rfl) (by with_reducible rfl) ?_ | with_reducible refine D.exit ?_ | with_reducible refine D.ret ?_ | simp only [rulesK, Nat.reduceEqDiff])
          exact ⟨(by first | exact rfl | exact True.intro), by exact E_le (by decide) (E_size _ _) (by simp only [List.forall_mem_cons, List.not_mem_nil, false_implies, implies_true, and_true, E_get, Nat.reduceEqDiff, Nat.reduceLT, Nat.reduceLeDiff, if_true, if_false, and_self, true_and] <;> first | rfl | exact ⟨rfl, rfl⟩)⟩
        have ix := hx.ia Try.underlying26 sz3 (i := j) (by simpa using hjn) .i64
        have iy := hy.ia Try.underlying26 sz3 (i := j) (by simpa using hjn) .i64
        have lx := hx.ld ag3 (i := j) (by simpa using hjn)
        have ly := hy.ld ag3 (i := j) (by simpa using hjn)
        rw [List.getElem_map] at lx ly
        have hwj : IntKind.i64.wrap ((j : Int) + 1) = ((j + 1 : Nat) : Int) := wrapN _ (by omega) (by omega)
        repeat (first | with_reducible refine D.sq ?_ | with_reducible refine D.bl ?_ | with_reducible refine D.skip ?_ | with_reducible refine D.rg (T := none_) (by kernel_rfl) (by simp (maxSteps := 1000000) (disch := omega) only [rulesA, rulesB, numbered, ayield, mapO, constAV, scAV, optval, abin, aint, acmp, aconv, aun, aeq, aminmax, afieldAddr, abuild, anew, fieldPlaces, afill, setSeg, kn_P, Nat.reduceAdd, Nat.reduceMul, Nat.reducePow, Nat.reduceSub, Nat.reduceEqDiff, Nat.reduceLT, Nat.reduceLeDiff, Int.reduceEq, Int.reduceNe, Int.reduceLT, Int.reduceLE, Int.reduceAdd, Int.reduceSub, Int.reduceToNat, Int.reduceBNe, Int.reduceBEq, tyR, rulesC, ex, ix, iy, lx, ly, hwj]; with_reducible rfl) ?_ | with_reducible refine D.ct2 (by simp (maxSteps := 1000000) (disch := omega) only [rulesV, numbered, constAV, scAV, Nat.reduceEqDiff, Nat.reduceLT, Nat.reduceLeDiff, rulesC, ex, ix, iy, lx, ly, hwj]; with_reducible rfl) (by with_reducible rfl) ?_ | with_reducible refine D.cf2 (by simp (maxSteps := 1000000) (disch := omega) only [rulesV, numbered, constAV, scAV, Nat.reduceEqDiff, Nat.reduceLT, Nat.reduceLeDiff, rulesC, ex, ix, iy, lx, ly, hwj]; with_reducible rfl) (by with_reducible rfl) ?_ | with_reducible refine D.exit ?_ | with_reducible refine D.ret ?_ | simp only [rulesK, Nat.reduceEqDiff])
        exact ⟨xs.length - (j + 1), by omega, j + 1, (by first | exact rfl | exact True.intro), by omega, (by first | exact rfl | exact True.intro), by exact E_le (by decide) (E_size _ _) (by simp only [List.forall_mem_cons, List.not_mem_nil, false_implies, implies_true, and_true, E_get, Nat.reduceEqDiff, Nat.reduceLT, Nat.reduceLeDiff, if_true, if_false, and_self, true_and] <;> first | rfl | exact ⟨rfl, rfl⟩)⟩
      rintro env7 H7 ⟨rfl, he⟩
      simp only [rulesK, Nat.reduceEqDiff]
      exact ⟨m1', vm', ts', f', g', hT6, by omega, hb6, he⟩
  rintro env5 H5 ⟨m1', vm', ts', f', g', hT5, hl5, hb5, he⟩
  simp only [rulesK, Nat.reduceEqDiff]
  refine D.forget he ?_
  clear he f0 f1 f2 hT1 hT hbd hne
  obtain ⟨-, -, f2⟩ := hB H5 hb5
  repeat (first | with_reducible refine D.sq ?_ | with_reducible refine D.bl ?_ | with_reducible refine D.skip ?_ | with_reducible refine D.rg (T := none_) (by kernel_rfl) (by simp (maxSteps := 1000000) (disch := omega) only [rulesA, rulesB, numbered, ayield, mapO, constAV, scAV, optval, abin, aint, acmp, aconv, aun, aeq, aminmax, afieldAddr, abuild, anew, fieldPlaces, afill, setSeg, kn_P, Nat.reduceAdd, Nat.reduceMul, Nat.reducePow, Nat.reduceSub, Nat.reduceEqDiff, Nat.reduceLT, Nat.reduceLeDiff, Int.reduceEq, Int.reduceNe, Int.reduceLT, Int.reduceLE, Int.reduceAdd, Int.reduceSub, Int.reduceToNat, Int.reduceBNe, Int.reduceBEq, tyR, rulesC]; with_reducible rfl) ?_ | with_reducible refine D.ct2 (by simp (maxSteps := 1000000) (disch := omega) only [rulesV, numbered, constAV, scAV, Nat.reduceEqDiff, Nat.reduceLT, Nat.reduceLeDiff, rulesC]; with_reducible rfl) (by with_reducible rfl) ?_ | with_reducible refine D.cf2 (by simp (maxSteps := 1000000) (disch := omega) only [rulesV, numbered, constAV, scAV, Nat.reduceEqDiff, Nat.reduceLT, Nat.reduceLeDiff, rulesC]; with_reducible rfl) (by with_reducible rfl) ?_ | with_reducible refine D.exit ?_ | with_reducible refine D.ret ?_ | simp only [rulesK, Nat.reduceEqDiff])
  refine cutBx (fun env' H' => H5 = H' ∧ ELe (E 134 [(8, .int .i64 i), (7, .ptr (.own pm) 0), (6, .ptr (.own p) 0), (1, v)]) env') ?_ ?_
  · refine D.lp (fun m env H' => ∃ j : Nat, m = d.zs.length - j ∧ j ≤ d.zs.length ∧ H5 = H' ∧ ELe (E 134 [(15, .int .i64 j), (9, .ptr (.own bd) 0), (8, .int .i64 i), (7, .ptr (.own pm) 0), (6, .ptr (.own p) 0), (1, v)]) env) d.zs.length
      ⟨0, by omega, by omega, rfl, by exact E_le (by decide) (E_size _ _) (by simp only [List.forall_mem_cons, List.not_mem_nil, false_implies, implies_true, and_true, E_get, Nat.reduceEqDiff, Nat.reduceLT, Nat.reduceLeDiff, if_true, if_false, and_self, true_and] <;> first | rfl | exact ⟨rfl, rfl⟩)⟩ ?_
    rintro m env H7 ⟨j, rfl, hj, rfl, he⟩
    refine D.forget he ?_
    clear he
    by_cases hjn : j < d.zs.length
    rotate_left
    · obtain rfl : j = d.zs.length := by omega
      repeat (first | with_reducible refine D.sq ?_ | with_reducible refine D.bl ?_ | with_reducible refine D.skip ?_ | with_reducible refine D.rg (T := none_) (by kernel_rfl) (by simp (maxSteps := 1000000) (disch := omega) only [rulesA, rulesB, numbered, ayield, mapO, constAV, scAV, optval, abin, aint, acmp, aconv, aun, aeq, aminmax, afieldAddr, abuild, anew, fieldPlaces, afill, setSeg, kn_P, Nat.reduceAdd, Nat.reduceMul, Nat.reducePow, Nat.reduceSub, Nat.reduceEqDiff, Nat.reduceLT, Nat.reduceLeDiff, Int.reduceEq, Int.reduceNe, Int.reduceLT, Int.reduceLE, Int.reduceAdd, Int.reduceSub, Int.reduceToNat, Int.reduceBNe, Int.reduceBEq, tyR, rulesC, f2, hdl]; with_reducible rfl) ?_ | with_reducible refine D.ct2 (by simp (maxSteps := 1000000) (disch := omega) only [rulesV, numbered, constAV, scAV, Nat.reduceEqDiff, Nat.reduceLT, Nat.reduceLeDiff, rulesC, f2, hdl]; with_reducible rfl) (by with_reducible rfl) ?_ | with_reducible refine D.cf2 (by simp (maxSteps := 1000000) (disch := omega) only [rulesV, numbered, constAV, scAV, Nat.reduceEqDiff, Nat.reduceLT, Nat.reduceLeDiff, rulesC, f2, hdl]; with_reducible rfl) (by with_reducible rfl) ?_ | with_reducible refine D.exit ?_ | with_reducible refine D.ret ?_ | simp only [rulesK, Nat.reduceEqDiff])
      exact ⟨(by first | exact rfl | exact True.intro), by exact E_le (by decide) (E_size _ _) (by simp only [List.forall_mem_cons, List.not_mem_nil, false_implies, implies_true, and_true, E_get, Nat.reduceEqDiff, Nat.reduceLT, Nat.reduceLeDiff, if_true, if_false, and_self, true_and] <;> first | rfl | exact ⟨rfl, rfl⟩)⟩
    have ix := (hsl H5).ia Try.underlying26 sz3 (i := j) (by simpa using hjn) .i64
    have lx := (hsl H5).ld ag3 (i := j) (by simpa using hjn)
    rw [List.getElem_map] at lx
    have hwj : IntKind.i64.wrap ((j : Int) + 1) = ((j + 1 : Nat) : Int) := wrapN _ (by omega) (by omega)
    obtain ⟨r8, H8, hc14, hH8, rfl⟩ := call_only (κ := kn G base w0) (f := 14) (args := [.ptr (.own p) 0, .int .i64 d.zs[j]]) (H := H5) (fun _ H r H' => LastS g' d.zs[j] H r H') (last_ok (G := G) (base := base) (w0 := w0) hT5.s _)
    subst hH8
    obtain ⟨r9, H9, hc15, hH9, rfl⟩ := call_only (κ := kn G base w0) (f := 15) (args := [.ptr (.own pm) 0, .int .i64 d.zs[j]]) (H := H8) (fun _ H r H' => LastS g' d.zs[j] H r H') (lastR_ok (G := G) (base := base) (w0 := w0) hT5.m hT5.t _ (by omega))
    subst hH9
    repeat (first | with_reducible refine D.sq ?_ | with_reducible refine D.bl ?_ | with_reducible refine D.skip ?_ | with_reducible refine D.rg (T := none_) (by kernel_rfl) (by simp (maxSteps := 1000000) (disch := omega) only [rulesA, rulesB, numbered, ayield, mapO, constAV, scAV, optval, abin, aint, acmp, aconv, aun, aeq, aminmax, afieldAddr, abuild, anew, fieldPlaces, afill, setSeg, kn_P, Nat.reduceAdd, Nat.reduceMul, Nat.reducePow, Nat.reduceSub, Nat.reduceEqDiff, Nat.reduceLT, Nat.reduceLeDiff, Int.reduceEq, Int.reduceNe, Int.reduceLT, Int.reduceLE, Int.reduceAdd, Int.reduceSub, Int.reduceToNat, Int.reduceBNe, Int.reduceBEq, tyR, rulesC, f2, hdl]; with_reducible rfl) ?_ | with_reducible refine D.ct2 (by simp (maxSteps := 1000000) (disch := omega) only [rulesV, numbered, constAV, scAV, Nat.reduceEqDiff, Nat.reduceLT, Nat.reduceLeDiff, rulesC, f2, hdl]; with_reducible rfl) (by with_reducible rfl) ?_ | with_reducible refine D.cf2 (by simp (maxSteps := 1000000) (disch := omega) only [rulesV, numbered, constAV, scAV, Nat.reduceEqDiff, Nat.reduceLT, Nat.reduceLeDiff, rulesC, f2, hdl]; with_reducible rfl) (by with_reducible rfl) ?_ | with_reducible refine D.exit ?_ | with_reducible refine D.ret ?_ | simp only [rulesK, Nat.reduceEqDiff])
    refine D.rgC hc14 (by kernel_rfl) (by simp (maxSteps := 1000000) (disch := omega) only [rulesA, rulesB, numbered, ayield, mapO, constAV, scAV, optval, abin, aint, acmp, aconv, aun, aeq, aminmax, afieldAddr, abuild, anew, fieldPlaces, afill, setSeg, kn_P, Nat.reduceAdd, Nat.reduceMul, Nat.reducePow, Nat.reduceSub, Nat.reduceEqDiff, Nat.reduceLT, Nat.reduceLeDiff, Int.reduceEq, Int.reduceNe, Int.reduceLT, Int.reduceLE, Int.reduceAdd, Int.reduceSub, Int.reduceToNat, Int.reduceBNe, Int.reduceBEq, tyR, rulesC, hc14, hP14, f2, ix, lx]; with_reducible rfl) ?_
    repeat (first | with_reducible refine D.sq ?_ | with_reducible refine D.bl ?_ | with_reducible refine D.skip ?_ | with_reducible refine D.rg (T := none_) (by kernel_rfl) (by simp (maxSteps := 1000000) (disch := omega) only [rulesA, rulesB, numbered, ayield, mapO, constAV, scAV, optval, abin, aint, acmp, aconv, aun, aeq, aminmax, afieldAddr, abuild, anew, fieldPlaces, afill, setSeg, kn_P, Nat.reduceAdd, Nat.reduceMul, Nat.reducePow, Nat.reduceSub, Nat.reduceEqDiff, Nat.reduceLT, Nat.reduceLeDiff, Int.reduceEq, Int.reduceNe, Int.reduceLT, Int.reduceLE, Int.reduceAdd, Int.reduceSub, Int.reduceToNat, Int.reduceBNe, Int.reduceBEq, tyR, rulesC]; with_reducible rfl) ?_ | with_reducible refine D.ct2 (by simp (maxSteps := 1000000) (disch := omega) only [rulesV, numbered, constAV, scAV, Nat.reduceEqDiff, Nat.reduceLT, Nat.reduceLeDiff, rulesC]; with_reducible rfl) (by with_reducible rfl) ?_ | with_reducible refine D.cf2 (by simp (maxSteps := 1000000) (disch := omega) only [rulesV, numbered, constAV, scAV, Nat.reduceEqDiff, Nat.reduceLT, Nat.reduceLeDiff, rulesC]; with_reducible rfl) (by with_reducible rfl) ?_ | with_reducible refine D.exit ?_ | with_reducible refine D.ret ?_ | simp only [rulesK, Nat.reduceEqDiff])
    refine D.rgC hc15 (by kernel_rfl) (by simp (maxSteps := 1000000) (disch := omega) only [rulesA, rulesB, numbered, ayield, mapO, constAV, scAV, optval, abin, aint, acmp, aconv, aun, aeq, aminmax, afieldAddr, abuild, anew, fieldPlaces, afill, setSeg, kn_P, Nat.reduceAdd, Nat.reduceMul, Nat.reducePow, Nat.reduceSub, Nat.reduceEqDiff, Nat.reduceLT, Nat.reduceLeDiff, Int.reduceEq, Int.reduceNe, Int.reduceLT, Int.reduceLE, Int.reduceAdd, Int.reduceSub, Int.reduceToNat, Int.reduceBNe, Int.reduceBEq, tyR, rulesC, hc15, hP15, f2, ix, lx]; with_reducible rfl) ?_
    repeat (first | with_reducible refine D.sq ?_ | with_reducible refine D.bl ?_ | with_reducible refine D.skip ?_ | with_reducible refine D.rg (T := none_) (by kernel_rfl) (by simp (maxSteps := 1000000) (disch := omega) only [rulesA, rulesB, numbered, ayield, mapO, constAV, scAV, optval, abin, aint, acmp, aconv, aun, aeq, aminmax, afieldAddr, abuild, anew, fieldPlaces, afill, setSeg, kn_P, Nat.reduceAdd, Nat.reduceMul, Nat.reducePow, Nat.reduceSub, Nat.reduceEqDiff, Nat.reduceLT, Nat.reduceLeDiff, Int.reduceEq, Int.reduceNe, Int.reduceLT, Int.reduceLE, Int.reduceAdd, Int.reduceSub, Int.reduceToNat, Int.reduceBNe, Int.reduceBEq, tyR, rulesC, hwj]; with_reducible rfl) ?_ | with_reducible refine D.ct2 (by simp (maxSteps := 1000000) (disch := omega) only [rulesV, numbered, constAV, scAV, Nat.reduceEqDiff, Nat.reduceLT, Nat.reduceLeDiff, rulesC, hwj]; with_reducible rfl) (by with_reducible rfl) ?_ | with_reducible refine D.cf2 (by simp (maxSteps := 1000000) (disch := omega) only [rulesV, numbered, constAV, scAV, Nat.reduceEqDiff, Nat.reduceLT, Nat.reduceLeDiff, rulesC, hwj]; with_reducible rfl) (by with_reducible rfl) ?_ | with_reducible refine D.exit ?_ | with_reducible refine D.ret ?_ | simp only [rulesK, Nat.reduceEqDiff])
    exact ⟨d.zs.length - (j + 1), by omega, j + 1, (by first | exact rfl | exact True.intro), by omega, (by first | exact rfl | exact True.intro), by exact E_le (by decide) (E_size _ _) (by simp only [List.forall_mem_cons, List.not_mem_nil, false_implies, implies_true, and_true, E_get, Nat.reduceEqDiff, Nat.reduceLT, Nat.reduceLeDiff, if_true, if_false, and_self, true_and] <;> first | rfl | exact ⟨rfl, rfl⟩)⟩
  rintro env7 H7 ⟨rfl, he⟩
  simp only [rulesK, Nat.reduceEqDiff]
  refine D.forget he ?_
  clear he
  repeat (first | with_reducible refine D.sq ?_ | with_reducible refine D.bl ?_ | with_reducible refine D.skip ?_ | with_reducible refine D.rg (T := none_) (by kernel_rfl) (by simp (maxSteps := 1000000) (disch := omega) only [rulesA, rulesB, numbered, ayield, mapO, constAV, scAV, optval, abin, aint, acmp, aconv, aun, aeq, aminmax, afieldAddr, abuild, anew, fieldPlaces, afill, setSeg, kn_P, Nat.reduceAdd, Nat.reduceMul, Nat.reducePow, Nat.reduceSub, Nat.reduceEqDiff, Nat.reduceLT, Nat.reduceLeDiff, Int.reduceEq, Int.reduceNe, Int.reduceLT, Int.reduceLE, Int.reduceAdd, Int.reduceSub, Int.reduceToNat, Int.reduceBNe, Int.reduceBEq, tyR, rulesC, hwi]; with_reducible rfl) ?_ | with_reducible refine D.ct2 (by simp (maxSteps := 1000000) (disch := omega) only [rulesV, numbered, constAV, scAV, Nat.reduceEqDiff, Nat.reduceLT, Nat.reduceLeDiff, rulesC, hwi]; with_reducible rfl) (by with_reducible rfl) ?_ | with_reducible refine D.cf2 (by simp (maxSteps := 1000000) (disch := omega) only [rulesV, numbered, constAV, scAV, Nat.reduceEqDiff, Nat.reduceLT, Nat.reduceLeDiff, rulesC, hwi]; with_reducible rfl) (by with_reducible rfl) ?_ | with_reducible refine D.exit ?_ | with_reducible refine D.ret ?_ | simp only [rulesK, Nat.reduceEqDiff])
  exact ⟨ds.length - (i + 1), by omega, i + 1, m1', vm', ts', f', g', (by first | exact rfl | exact True.intro), by omega, hT5, by omega, by exact E_le (by decide) (E_size _ _) (by simp only [List.forall_mem_cons, List.not_mem_nil, false_implies, implies_true, and_true, E_get, Nat.reduceEqDiff, Nat.reduceLT, Nat.reduceLeDiff, if_true, if_false, and_self, true_and] <;> first | rfl | exact ⟨rfl, rfl⟩)⟩
end Go.Proofs.Ytffpahpbgeillaa.sy
