/- jobs.Jobs (own work): two tables beside each other; deeds that come in. -/
import Derived.Test.YtecfofmndpgnjaaJb
import Derived.Test.YtecfofmndpgnjaaAmFrame0
import Derived.Test.YtecfofmndpgnjaaAmArgs3
namespace Go.Proofs.Ytecfofmndpgnjaa.sy
open Go.AM Go.AM.Hp Go.AM.Jb
set_option linter.unusedSimpArgs false
set_option linter.unusedVariables false
variable {G : List Nat → Option (List AV)} {base : Nat} {w0 : World}
set_option maxRecDepth 100000
set_option maxHeartbeats 8000000
/-- a deed -/
structure Dd where
  do_ : Int
  id : Int
  e : Int
  p : Int
  sp : Bool
def encD (d : Dd) : List AV := [.int .i64 d.do_, .int .i64 d.id, .int .i64 d.e, .int .i64 d.p, .bool d.sp]
def wD : Wd Dd := ⟨5, encD, by decide, fun _ => rfl, fun _ => rfl⟩
def inI (x : Int) : Prop := -9223372036854775808 ≤ x ∧ x ≤ 9223372036854775807
/-- deeds that came in -/
structure Deeds5 (G : List Nat → Option (List AV)) (base : Nat) (w0 : World) (v : AV) (ds : List Dd) : Prop where
  out : ∀ H, SlF (kn G base w0).c H wD v ds
  rng : ∀ d ∈ ds, inI d.do_ ∧ inI d.id ∧ inI d.e ∧ inI d.p
theorem fl_of {α : Type} {w : Wd α} {Good : List AV → Prop} {ok : α → Prop} (hg : ∀ vs, Good vs → ∃ d, vs = w.enc d ∧ ok d) {cs : List AV} : ∀ n, n * w.W ≤ cs.length → (∀ i, i < n → Good ((cs.drop (i * w.W)).take w.W)) → ∃ ds : List α, ds.length = n ∧ w.fl ds = cs.take (n * w.W) ∧ ∀ d ∈ ds, ok d
  | 0, _, _ => ⟨[], rfl, by simp [Wd.fl], by simp⟩
  | n + 1, hl, h => by
    rw [Nat.succ_mul] at hl
    obtain ⟨ds, h1, h2, h3⟩ := fl_of hg n (by omega) (fun i hi => h i (by omega))
    obtain ⟨d, hd, hok⟩ := hg _ (h n (by omega))
    refine ⟨ds ++ [d], by simp [h1], ?_, fun x hx => ?_⟩
    · rw [Wd.fl_app, h2, Nat.succ_mul, List.take_add]
      congr 1
      rw [hd]; simp [Wd.fl]
    · rcases List.mem_append.1 hx with hx | hx
      · exact h3 x hx
      · simp at hx; subst hx; exact hok
theorem inI_of {n : Int} (h : (Lit.int .i64 n).wf = true) : inI n := by
  simp only [Lit.wf, IntKind.min, IntKind.max, IntKind.signed, IntKind.bits, Bool.and_eq_true, decide_eq_true_eq] at h
  simp at h
  unfold inI; omega
theorem deeds5_of {W : World} {u : AV} (g : ∃ v n, [u] = [v] ∧ SlG Try.prog W v 5 n (fun vs => ∃ a b c d e, vs = [AV.int .i64 a, AV.int .i64 b, AV.int .i64 c, AV.int .i64 d, AV.bool e] ∧ (Lit.int .i64 a).wf = true ∧ (Lit.int .i64 b).wf = true ∧ (Lit.int .i64 c).wf = true ∧ (Lit.int .i64 d).wf = true)) : ∃ ds, Deeds5 (decG Try.prog W) base w0 u ds := by
  obtain ⟨v, n, hv, h⟩ := g
  simp at hv
  subst hv
  rcases h with ⟨h, rfl⟩ | ⟨path, cs, rfl, hG, hl, hi⟩
  · exact ⟨[], fun H => .inl ⟨h, rfl⟩, by simp⟩
  · obtain ⟨ds, h1, h2, h3⟩ := fl_of (w := wD) (Good := fun vs => ∃ a b c d e, vs = [AV.int .i64 a, AV.int .i64 b, AV.int .i64 c, AV.int .i64 d, AV.bool e] ∧ (Lit.int .i64 a).wf = true ∧ (Lit.int .i64 b).wf = true ∧ (Lit.int .i64 c).wf = true ∧ (Lit.int .i64 d).wf = true) (ok := fun d => inI d.do_ ∧ inI d.id ∧ inI d.e ∧ inI d.p) (fun vs hq => by
      obtain ⟨a, b, c, d, e, rfl, w1, w2, w3, w4⟩ := hq
      exact ⟨⟨a, b, c, d, e⟩, rfl, inI_of w1, inI_of w2, inI_of w3, inI_of w4⟩) n hl hi
    exact ⟨ds, fun H => .inr ⟨.ext path, 0, by rw [h1]; rfl, fun _ => ⟨cs, hG, by rw [Nat.zero_mul, List.drop_zero, h1, h2]⟩⟩, h3⟩
/-- what a deed does to the tasks -/
def deed (k : Nat) (clock : Int) (d : Dd) (ts : List Tk) : List Tk :=
  if d.do_ = 0 ∨ d.do_ = 1 then (tjoin k ts d.id d.e d.p d.sp).1 else if d.do_ = 2 then (tleave ts d.id).1 else if d.do_ = 3 then (tarrive ts d.id).1 else if d.do_ = 4 then (tfinish ts d.id).1
  else if d.do_ = 5 ∨ d.do_ = 6 then trel clock ts else if d.do_ = 7 ∨ d.do_ = 8 then tsettle clock ts else (tgive ts d.id).1
theorem Ok.deed {n : Int} {ts : List Tk} (h : Ok n ts) (hn : 0 ≤ n) {k : Nat} {clock : Int} (h0 : 0 ≤ clock) (h1 : clock ≤ 100000) {d : Dd} (hd : inI d.id) : Ok (n + 1) (deed k clock d ts) := by
  unfold sy.deed
  have hm : n ≤ n + 1 := by omega
  split
  · exact (h.join hn hd).mono hm
  split
  · exact (h.leave _).mono hm
  split
  · exact (h.arrive _).mono hm
  split
  · exact (h.finish _).mono hm
  split
  · exact h.rel h0 h1
  split
  · exact (h.settle _).mono hm
  · exact (h.give _).mono hm
def Blk (pj s bl : Nat) (o : Tb) (j : Nat) : Prop := j = pj ∨ j = s ∨ j = bl ∨ Own o j
theorem Kp.blk {H H' : AHeap} {bl : Nat} {o o' : Tb} (h : Kp H H' bl o o') {pj s : Nat} {j : Nat} (hj : Blk pj s bl o' j) : Blk pj s bl o j ∨ H.length ≤ j := by
  rcases hj with e | e | e | e
  · exact .inl (.inl e)
  · exact .inl (.inr (.inl e))
  · exact .inl (.inr (.inr (.inl e)))
  · rcases h.own j e with e | e
    · exact .inl (.inr (.inr (.inr e)))
    · exact .inr e
/-- j.Task(id), and nothing is left behind -/
theorem task0 {H : AHeap} {pj s bl k : Nat} {o : Tb} {ts : List Tk} (h : JS H pj s bl k o ts) (id : Int) : ∃ r, Pt (kn G base w0) 14 [.ptr (.own pj) 0, .int .i64 id] H r H ∧ ((tf ts id = none ∧ r = .tuple [.agg (encT tk0), .bool false]) ∨ ∃ t, tf ts id = some t ∧ r = .tuple [.agg (encT t), .bool true]) := by
  obtain ⟨f, gs, hx⟩ := h
  obtain ⟨r, H', hp, ⟨u, rfl⟩, hr⟩ := task_ok (G := G) (base := base) (w0 := w0) hx id
  refine ⟨r, hp.shrink ?_ (by simp [hnew]), hr⟩
  rcases hr with ⟨_, rfl⟩ | ⟨t, _, rfl⟩ <;> rfl
def tval (ts : List Tk) (id : Int) : AV := .tuple [.agg (encT ((tf ts id).getD tk0)), .bool (tf ts id).isSome]
theorem task1 {H : AHeap} {pj s bl k : Nat} {o : Tb} {ts : List Tk} (h : JS H pj s bl k o ts) (id : Int) : ∃ r H', Pt (kn G base w0) 14 [.ptr (.own pj) 0, .int .i64 id] H r H' ∧ (r = tval ts id ∧ H' = H) := by
  obtain ⟨r, hp, hr⟩ := task0 (G := G) (base := base) (w0 := w0) h id
  refine ⟨r, H, hp, ?_, rfl⟩
  rcases hr with ⟨hn, rfl⟩ | ⟨t, ht, rfl⟩
  · simp [tval, hn]
  · simp [tval, ht]
theorem ld_box {H : AHeap} {b : Nat} {t : Tk} (h : hat H b = some (.row 35 11 (encT t))) : aload (kn G base w0).c H 35 (.ptr (.own b) 0) = some (.agg (encT t)) := by
  simp only [aload, kn_P, ag35, sz35, Option.bind_some, if_true, rd, rowOf, h]
  rw [if_pos (by simp [encT])]; rfl
end Go.Proofs.Ytecfofmndpgnjaa.sy
