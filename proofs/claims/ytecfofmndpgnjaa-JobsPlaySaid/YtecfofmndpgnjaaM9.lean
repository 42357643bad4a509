/- Texts of the proof in one file (own work): Jw3, Jn, Jb, AmFrame0, AmArgs, AmArgs2, AmArgs3, Ht, Mm, Pl. -/
import Derived.Test.YtecfofmndpgnjaaM6
import Derived.Test.YtecfofmndpgnjaaM7
import Derived.Test.YtecfofmndpgnjaaM5
import Derived.Test.YtecfofmndpgnjaaM3
import Derived.Deep.Slices
import Derived.Deep.Fields
import Derived.ChangeShapes
import Derived.WideShapes
import Derived.SizedLaws
import Derived.ChangeSlices
import Derived.ChangeSame
import Derived.OpenShut
import Derived.Test.YtecfofmndpgnjaaM8
/- jobs.Jobs (own work): Leave, Arrive, Finish, Give walked. -/
namespace Go.Proofs.Ytecfofmndpgnjaa.sy
open Go.AM Go.AM.Hp Go.AM.Jb
set_option linter.unusedSimpArgs false
set_option linter.unusedVariables false
variable {G : List Nat → Option (List AV)} {base : Nat} {w0 : World}
set_option maxRecDepth 100000
set_option maxHeartbeats 8000000
variable {H : AHeap} {pj s bl k : Nat} {o : Tb} {f : Int → Option Int} {gs ts : List Tk}
theorem set_deed (h : Jx H pj s bl k o f gs ts) {t t' : Tk} (ht : tf ts t.id = some t) (he : t'.id = t.id) {n : Nat} (hf : f t.id = some (n : Int)) (hg : gs[n]? = some t) : ∃ o', JS (hz H bl n gs t') pj s bl k o' (tset ts t') ∧ Kp H (hz H bl n gs t') bl o o' :=
  ⟨o, ⟨_, _, h.set ht he hf hg⟩, Kp.hz⟩
theorem arrive_ok (h : Jx H pj s bl k o f gs ts) (id : Int) : ∃ r H', Pt (kn G base w0) 16 [.ptr (.own pj) 0, .int .i64 id] H r H' ∧ DeedS (tarrive ts id) H pj s bl k o r H' := by
  refine Pt.fn (n := 39) (rs := [.tmp 4]) Try.func16 (b := _) rfl rfl rfl (by decide) ?_
  repeat (first | with_reducible refine D.sq ?_ | with_reducible refine D.bl ?_ | with_reducible refine D.skip ?_ | with_reducible refine D.rg (T := none_) (by kernel_rfl) (by simp (maxSteps := 1000000) (disch := omega) only [rulesA, rulesB, numbered, ayield, mapO, constAV, scAV, optval, abin, aint, acmp, aconv, aun, aeq, aminmax, afieldAddr, abuild, anew, fieldPlaces, afill, setSeg, kn_P, Nat.reduceAdd, Nat.reduceMul, Nat.reducePow, Nat.reduceSub, Nat.reduceEqDiff, Nat.reduceLT, Nat.reduceLeDiff, Int.reduceEq, Int.reduceNe, Int.reduceLT, Int.reduceLE, Int.reduceAdd, Int.reduceSub, Int.reduceToNat, Int.reduceBNe, Int.reduceBEq, tyR, rulesC]; with_reducible rfl) ?_ | with_reducible refine D.ct2 (by simp (maxSteps := 1000000) (disch := omega) only [rulesV, numbered, constAV, scAV, Nat.reduceEqDiff, Nat.reduceLT, Nat.reduceLeDiff, rulesC]; with_reducible rfl) (by with_reducible rfl) ?_ | with_reducible refine D.cf2 (by simp (maxSteps := 1000000) (disch := omega) only [rulesV, numbered, constAV, scAV, Nat.reduceEqDiff, Nat.reduceLT, Nat.reduceLeDiff, rulesC]; with_reducible rfl) (by with_reducible rfl) ?_ | with_reducible refine D.exit ?_ | with_reducible refine D.ret ?_ | simp only [rulesK, Nat.reduceEqDiff])
  obtain ⟨r1, H2, hc, rfl, hg⟩ := call_only (κ := kn G base w0) (f := 30) (args := [.ptr (.own pj) 0, .int .i64 id]) (H := H) (fun _ H r H' => GetS ts f gs bl id H r H') (get_okJ h id)
  rcases hg with ⟨ht, rfl⟩ | ⟨t, n, ht, hf, hn, hg, rfl⟩
  · refine D.rgC hc (by kernel_rfl) (by simp (maxSteps := 1000000) (disch := omega) only [rulesA, rulesB, numbered, ayield, mapO, constAV, scAV, optval, abin, aint, acmp, aconv, aun, aeq, aminmax, afieldAddr, abuild, anew, fieldPlaces, afill, setSeg, kn_P, Nat.reduceAdd, Nat.reduceMul, Nat.reducePow, Nat.reduceSub, Nat.reduceEqDiff, Nat.reduceLT, Nat.reduceLeDiff, Int.reduceEq, Int.reduceNe, Int.reduceLT, Int.reduceLE, Int.reduceAdd, Int.reduceSub, Int.reduceToNat, Int.reduceBNe, Int.reduceBEq, tyR, rulesC, hc, hJ30]; with_reducible rfl) ?_
    repeat (first | with_reducible refine D.sq ?_ | with_reducible refine D.bl ?_ | with_reducible refine D.skip ?_ | with_reducible refine D.rg (T := none_) (by kernel_rfl) (by simp (maxSteps := 1000000) (disch := omega) only [rulesA, rulesB, numbered, ayield, mapO, constAV, scAV, optval, abin, aint, acmp, aconv, aun, aeq, aminmax, afieldAddr, abuild, anew, fieldPlaces, afill, setSeg, kn_P, Nat.reduceAdd, Nat.reduceMul, Nat.reducePow, Nat.reduceSub, Nat.reduceEqDiff, Nat.reduceLT, Nat.reduceLeDiff, Int.reduceEq, Int.reduceNe, Int.reduceLT, Int.reduceLE, Int.reduceAdd, Int.reduceSub, Int.reduceToNat, Int.reduceBNe, Int.reduceBEq, tyR, rulesC]; with_reducible rfl) ?_ | with_reducible refine D.ct2 (by simp (maxSteps := 1000000) (disch := omega) only [rulesV, numbered, constAV, scAV, Nat.reduceEqDiff, Nat.reduceLT, Nat.reduceLeDiff, rulesC]; with_reducible rfl) (by with_reducible rfl) ?_ | with_reducible refine D.cf2 (by simp (maxSteps := 1000000) (disch := omega) only [rulesV, numbered, constAV, scAV, Nat.reduceEqDiff, Nat.reduceLT, Nat.reduceLeDiff, rulesC]; with_reducible rfl) (by with_reducible rfl) ?_ | with_reducible refine D.exit ?_ | with_reducible refine D.ret ?_ | simp only [rulesK, Nat.reduceEqDiff])
    refine ⟨_, by simp only [resOf, aresult, rulesA, rulesB, numbered, ayield, mapO, constAV, scAV, optval, abin, aint, acmp, aconv, aun, aeq, aminmax, afieldAddr, abuild, anew, fieldPlaces, afill, setSeg, kn_P, Nat.reduceAdd, Nat.reduceMul, Nat.reducePow, Nat.reduceSub, Nat.reduceEqDiff, Nat.reduceLT, Nat.reduceLeDiff, Int.reduceEq, Int.reduceNe, Int.reduceLT, Int.reduceLE, Int.reduceAdd, Int.reduceSub, Int.reduceToNat, Int.reduceBNe, Int.reduceBEq, tyR]; with_reducible rfl, ?_⟩
    simp only [tarrive, ht]
    exact ⟨rfl, o, ⟨f, gs, h⟩, Kp.refl⟩
  obtain rfl := (tf_some ht).2
  have F := cel (G := G) (base := base) (w0 := w0) h.cells hg
  have P := put1 h.cells hg
  refine D.rgC hc (by kernel_rfl) (by simp (maxSteps := 1000000) (disch := omega) only [rulesA, rulesB, numbered, ayield, mapO, constAV, scAV, optval, abin, aint, acmp, aconv, aun, aeq, aminmax, afieldAddr, abuild, anew, fieldPlaces, afill, setSeg, kn_P, Nat.reduceAdd, Nat.reduceMul, Nat.reducePow, Nat.reduceSub, Nat.reduceEqDiff, Nat.reduceLT, Nat.reduceLeDiff, Int.reduceEq, Int.reduceNe, Int.reduceLT, Int.reduceLE, Int.reduceAdd, Int.reduceSub, Int.reduceToNat, Int.reduceBNe, Int.reduceBEq, tyR, rulesC, hc, hJ30]; with_reducible rfl) ?_
  cases h3 : t.sp with
  | false =>
    repeat (first | with_reducible refine D.sq ?_ | with_reducible refine D.bl ?_ | with_reducible refine D.skip ?_ | with_reducible refine D.rg (T := none_) (by kernel_rfl) (by simp (maxSteps := 1000000) (disch := omega) only [rulesA, rulesB, numbered, ayield, mapO, constAV, scAV, optval, abin, aint, acmp, aconv, aun, aeq, aminmax, afieldAddr, abuild, anew, fieldPlaces, afill, setSeg, kn_P, Nat.reduceAdd, Nat.reduceMul, Nat.reducePow, Nat.reduceSub, Nat.reduceEqDiff, Nat.reduceLT, Nat.reduceLeDiff, Int.reduceEq, Int.reduceNe, Int.reduceLT, Int.reduceLE, Int.reduceAdd, Int.reduceSub, Int.reduceToNat, Int.reduceBNe, Int.reduceBEq, tyR, rulesC, (h3 ▸ F.f3)]; with_reducible rfl) ?_ | with_reducible refine D.ct2 (by simp (maxSteps := 1000000) (disch := omega) only [rulesV, numbered, constAV, scAV, Nat.reduceEqDiff, Nat.reduceLT, Nat.reduceLeDiff, rulesC, (h3 ▸ F.f3)]; with_reducible rfl) (by with_reducible rfl) ?_ | with_reducible refine D.cf2 (by simp (maxSteps := 1000000) (disch := omega) only [rulesV, numbered, constAV, scAV, Nat.reduceEqDiff, Nat.reduceLT, Nat.reduceLeDiff, rulesC, (h3 ▸ F.f3)]; with_reducible rfl) (by with_reducible rfl) ?_ | with_reducible refine D.exit ?_ | with_reducible refine D.ret ?_ | simp only [rulesK, Nat.reduceEqDiff])
    refine ⟨_, by simp only [resOf, aresult, rulesA, rulesB, numbered, ayield, mapO, constAV, scAV, optval, abin, aint, acmp, aconv, aun, aeq, aminmax, afieldAddr, abuild, anew, fieldPlaces, afill, setSeg, kn_P, Nat.reduceAdd, Nat.reduceMul, Nat.reducePow, Nat.reduceSub, Nat.reduceEqDiff, Nat.reduceLT, Nat.reduceLeDiff, Int.reduceEq, Int.reduceNe, Int.reduceLT, Int.reduceLE, Int.reduceAdd, Int.reduceSub, Int.reduceToNat, Int.reduceBNe, Int.reduceBEq, tyR]; with_reducible rfl, ?_⟩
    simp only [tarrive, ht, h3]
    exact ⟨rfl, o, ⟨f, gs, h⟩, Kp.refl⟩
  | true =>
  cases h4 : t.lv with
  | true =>
    repeat (first | with_reducible refine D.sq ?_ | with_reducible refine D.bl ?_ | with_reducible refine D.skip ?_ | with_reducible refine D.rg (T := none_) (by kernel_rfl) (by simp (maxSteps := 1000000) (disch := omega) only [rulesA, rulesB, numbered, ayield, mapO, constAV, scAV, optval, abin, aint, acmp, aconv, aun, aeq, aminmax, afieldAddr, abuild, anew, fieldPlaces, afill, setSeg, kn_P, Nat.reduceAdd, Nat.reduceMul, Nat.reducePow, Nat.reduceSub, Nat.reduceEqDiff, Nat.reduceLT, Nat.reduceLeDiff, Int.reduceEq, Int.reduceNe, Int.reduceLT, Int.reduceLE, Int.reduceAdd, Int.reduceSub, Int.reduceToNat, Int.reduceBNe, Int.reduceBEq, tyR, rulesC, (h3 ▸ F.f3), (h4 ▸ F.f4)]; with_reducible rfl) ?_ | with_reducible refine D.ct2 (by simp (maxSteps := 1000000) (disch := omega) only [rulesV, numbered, constAV, scAV, Nat.reduceEqDiff, Nat.reduceLT, Nat.reduceLeDiff, rulesC, (h3 ▸ F.f3), (h4 ▸ F.f4)]; with_reducible rfl) (by with_reducible rfl) ?_ | with_reducible refine D.cf2 (by simp (maxSteps := 1000000) (disch := omega) only [rulesV, numbered, constAV, scAV, Nat.reduceEqDiff, Nat.reduceLT, Nat.reduceLeDiff, rulesC, (h3 ▸ F.f3), (h4 ▸ F.f4)]; with_reducible rfl) (by with_reducible rfl) ?_ | with_reducible refine D.exit ?_ | with_reducible refine D.ret ?_ | simp only [rulesK, Nat.reduceEqDiff])
    refine ⟨_, by simp only [resOf, aresult, rulesA, rulesB, numbered, ayield, mapO, constAV, scAV, optval, abin, aint, acmp, aconv, aun, aeq, aminmax, afieldAddr, abuild, anew, fieldPlaces, afill, setSeg, kn_P, Nat.reduceAdd, Nat.reduceMul, Nat.reducePow, Nat.reduceSub, Nat.reduceEqDiff, Nat.reduceLT, Nat.reduceLeDiff, Int.reduceEq, Int.reduceNe, Int.reduceLT, Int.reduceLE, Int.reduceAdd, Int.reduceSub, Int.reduceToNat, Int.reduceBNe, Int.reduceBEq, tyR]; with_reducible rfl, ?_⟩
    simp only [tarrive, ht, h3, h4]
    exact ⟨rfl, o, ⟨f, gs, h⟩, Kp.refl⟩
  | false =>
  cases h6 : t.ac with
  | true =>
    repeat (first | with_reducible refine D.sq ?_ | with_reducible refine D.bl ?_ | with_reducible refine D.skip ?_ | with_reducible refine D.rg (T := none_) (by kernel_rfl) (by simp (maxSteps := 1000000) (disch := omega) only [rulesA, rulesB, numbered, ayield, mapO, constAV, scAV, optval, abin, aint, acmp, aconv, aun, aeq, aminmax, afieldAddr, abuild, anew, fieldPlaces, afill, setSeg, kn_P, Nat.reduceAdd, Nat.reduceMul, Nat.reducePow, Nat.reduceSub, Nat.reduceEqDiff, Nat.reduceLT, Nat.reduceLeDiff, Int.reduceEq, Int.reduceNe, Int.reduceLT, Int.reduceLE, Int.reduceAdd, Int.reduceSub, Int.reduceToNat, Int.reduceBNe, Int.reduceBEq, tyR, rulesC, (h3 ▸ F.f3), (h4 ▸ F.f4), (h6 ▸ F.f6)]; with_reducible rfl) ?_ | with_reducible refine D.ct2 (by simp (maxSteps := 1000000) (disch := omega) only [rulesV, numbered, constAV, scAV, Nat.reduceEqDiff, Nat.reduceLT, Nat.reduceLeDiff, rulesC, (h3 ▸ F.f3), (h4 ▸ F.f4), (h6 ▸ F.f6)]; with_reducible rfl) (by with_reducible rfl) ?_ | with_reducible refine D.cf2 (by simp (maxSteps := 1000000) (disch := omega) only [rulesV, numbered, constAV, scAV, Nat.reduceEqDiff, Nat.reduceLT, Nat.reduceLeDiff, rulesC, (h3 ▸ F.f3), (h4 ▸ F.f4), (h6 ▸ F.f6)]; with_reducible rfl) (by with_reducible rfl) ?_ | with_reducible refine D.exit ?_ | with_reducible refine D.ret ?_ | simp only [rulesK, Nat.reduceEqDiff])
    refine ⟨_, by simp only [resOf, aresult, rulesA, rulesB, numbered, ayield, mapO, constAV, scAV, optval, abin, aint, acmp, aconv, aun, aeq, aminmax, afieldAddr, abuild, anew, fieldPlaces, afill, setSeg, kn_P, Nat.reduceAdd, Nat.reduceMul, Nat.reducePow, Nat.reduceSub, Nat.reduceEqDiff, Nat.reduceLT, Nat.reduceLeDiff, Int.reduceEq, Int.reduceNe, Int.reduceLT, Int.reduceLE, Int.reduceAdd, Int.reduceSub, Int.reduceToNat, Int.reduceBNe, Int.reduceBEq, tyR]; with_reducible rfl, ?_⟩
    simp only [tarrive, ht, h3, h4, h6]
    exact ⟨rfl, o, ⟨f, gs, h⟩, Kp.refl⟩
  | false =>
  cases h5 : t.wt with
  | true =>
    repeat (first | with_reducible refine D.sq ?_ | with_reducible refine D.bl ?_ | with_reducible refine D.skip ?_ | with_reducible refine D.rg (T := none_) (by kernel_rfl) (by simp (maxSteps := 1000000) (disch := omega) only [rulesA, rulesB, numbered, ayield, mapO, constAV, scAV, optval, abin, aint, acmp, aconv, aun, aeq, aminmax, afieldAddr, abuild, anew, fieldPlaces, afill, setSeg, kn_P, Nat.reduceAdd, Nat.reduceMul, Nat.reducePow, Nat.reduceSub, Nat.reduceEqDiff, Nat.reduceLT, Nat.reduceLeDiff, Int.reduceEq, Int.reduceNe, Int.reduceLT, Int.reduceLE, Int.reduceAdd, Int.reduceSub, Int.reduceToNat, Int.reduceBNe, Int.reduceBEq, tyR, rulesC, (h3 ▸ F.f3), (h4 ▸ F.f4), (h6 ▸ F.f6), (h5 ▸ F.f5)]; with_reducible rfl) ?_ | with_reducible refine D.ct2 (by simp (maxSteps := 1000000) (disch := omega) only [rulesV, numbered, constAV, scAV, Nat.reduceEqDiff, Nat.reduceLT, Nat.reduceLeDiff, rulesC, (h3 ▸ F.f3), (h4 ▸ F.f4), (h6 ▸ F.f6), (h5 ▸ F.f5)]; with_reducible rfl) (by with_reducible rfl) ?_ | with_reducible refine D.cf2 (by simp (maxSteps := 1000000) (disch := omega) only [rulesV, numbered, constAV, scAV, Nat.reduceEqDiff, Nat.reduceLT, Nat.reduceLeDiff, rulesC, (h3 ▸ F.f3), (h4 ▸ F.f4), (h6 ▸ F.f6), (h5 ▸ F.f5)]; with_reducible rfl) (by with_reducible rfl) ?_ | with_reducible refine D.exit ?_ | with_reducible refine D.ret ?_ | simp only [rulesK, Nat.reduceEqDiff])
    refine ⟨_, by simp only [resOf, aresult, rulesA, rulesB, numbered, ayield, mapO, constAV, scAV, optval, abin, aint, acmp, aconv, aun, aeq, aminmax, afieldAddr, abuild, anew, fieldPlaces, afill, setSeg, kn_P, Nat.reduceAdd, Nat.reduceMul, Nat.reducePow, Nat.reduceSub, Nat.reduceEqDiff, Nat.reduceLT, Nat.reduceLeDiff, Int.reduceEq, Int.reduceNe, Int.reduceLT, Int.reduceLE, Int.reduceAdd, Int.reduceSub, Int.reduceToNat, Int.reduceBNe, Int.reduceBEq, tyR]; with_reducible rfl, ?_⟩
    simp only [tarrive, ht, h3, h4, h6, h5]
    exact ⟨rfl, o, ⟨f, gs, h⟩, Kp.refl⟩
  | false =>
    repeat (first | with_reducible refine D.sq ?_ | with_reducible refine D.bl ?_ | with_reducible refine D.skip ?_ | with_reducible refine D.rg (T := none_) (by kernel_rfl) (by simp (maxSteps := 1000000) (disch := omega) only [rulesA, rulesB, numbered, ayield, mapO, constAV, scAV, optval, abin, aint, acmp, aconv, aun, aeq, aminmax, afieldAddr, abuild, anew, fieldPlaces, afill, setSeg, kn_P, Nat.reduceAdd, Nat.reduceMul, Nat.reducePow, Nat.reduceSub, Nat.reduceEqDiff, Nat.reduceLT, Nat.reduceLeDiff, Int.reduceEq, Int.reduceNe, Int.reduceLT, Int.reduceLE, Int.reduceAdd, Int.reduceSub, Int.reduceToNat, Int.reduceBNe, Int.reduceBEq, tyR, rulesC, (h3 ▸ F.f3), (h4 ▸ F.f4), (h6 ▸ F.f6), (h5 ▸ F.f5), astore, P.s5]; with_reducible rfl) ?_ | with_reducible refine D.ct2 (by simp (maxSteps := 1000000) (disch := omega) only [rulesV, numbered, constAV, scAV, Nat.reduceEqDiff, Nat.reduceLT, Nat.reduceLeDiff, rulesC, (h3 ▸ F.f3), (h4 ▸ F.f4), (h6 ▸ F.f6), (h5 ▸ F.f5), astore, P.s5]; with_reducible rfl) (by with_reducible rfl) ?_ | with_reducible refine D.cf2 (by simp (maxSteps := 1000000) (disch := omega) only [rulesV, numbered, constAV, scAV, Nat.reduceEqDiff, Nat.reduceLT, Nat.reduceLeDiff, rulesC, (h3 ▸ F.f3), (h4 ▸ F.f4), (h6 ▸ F.f6), (h5 ▸ F.f5), astore, P.s5]; with_reducible rfl) (by with_reducible rfl) ?_ | with_reducible refine D.exit ?_ | with_reducible refine D.ret ?_ | simp only [rulesK, Nat.reduceEqDiff])
    refine ⟨_, by simp only [resOf, aresult, rulesA, rulesB, numbered, ayield, mapO, constAV, scAV, optval, abin, aint, acmp, aconv, aun, aeq, aminmax, afieldAddr, abuild, anew, fieldPlaces, afill, setSeg, kn_P, Nat.reduceAdd, Nat.reduceMul, Nat.reducePow, Nat.reduceSub, Nat.reduceEqDiff, Nat.reduceLT, Nat.reduceLeDiff, Int.reduceEq, Int.reduceNe, Int.reduceLT, Int.reduceLE, Int.reduceAdd, Int.reduceSub, Int.reduceToNat, Int.reduceBNe, Int.reduceBEq, tyR]; with_reducible rfl, ?_⟩
    rw [show tarrive ts t.id = (tset ts { t with wt := true }, 0) by simp [tarrive, ht, h3, h4, h6, h5]]
    exact ⟨rfl, set_deed (t' := { t with wt := true }) h ht rfl hf hg⟩
theorem finish_ok (h : Jx H pj s bl k o f gs ts) (id : Int) : ∃ r H', Pt (kn G base w0) 20 [.ptr (.own pj) 0, .int .i64 id] H r H' ∧ DeedS (tfinish ts id) H pj s bl k o r H' := by
  refine Pt.fn (n := 39) (rs := [.tmp 4]) Try.func20 (b := _) rfl rfl rfl (by decide) ?_
  repeat (first | with_reducible refine D.sq ?_ | with_reducible refine D.bl ?_ | with_reducible refine D.skip ?_ | with_reducible refine D.rg (T := none_) (by kernel_rfl) (by simp (maxSteps := 1000000) (disch := omega) only [rulesA, rulesB, numbered, ayield, mapO, constAV, scAV, optval, abin, aint, acmp, aconv, aun, aeq, aminmax, afieldAddr, abuild, anew, fieldPlaces, afill, setSeg, kn_P, Nat.reduceAdd, Nat.reduceMul, Nat.reducePow, Nat.reduceSub, Nat.reduceEqDiff, Nat.reduceLT, Nat.reduceLeDiff, Int.reduceEq, Int.reduceNe, Int.reduceLT, Int.reduceLE, Int.reduceAdd, Int.reduceSub, Int.reduceToNat, Int.reduceBNe, Int.reduceBEq, tyR, rulesC]; with_reducible rfl) ?_ | with_reducible refine D.ct2 (by simp (maxSteps := 1000000) (disch := omega) only [rulesV, numbered, constAV, scAV, Nat.reduceEqDiff, Nat.reduceLT, Nat.reduceLeDiff, rulesC]; with_reducible rfl) (by with_reducible rfl) ?_ | with_reducible refine D.cf2 (by simp (maxSteps := 1000000) (disch := omega) only [rulesV, numbered, constAV, scAV, Nat.reduceEqDiff, Nat.reduceLT, Nat.reduceLeDiff, rulesC]; with_reducible rfl) (by with_reducible rfl) ?_ | with_reducible refine D.exit ?_ | with_reducible refine D.ret ?_ | simp only [rulesK, Nat.reduceEqDiff])
  obtain ⟨r1, H2, hc, rfl, hg⟩ := call_only (κ := kn G base w0) (f := 30) (args := [.ptr (.own pj) 0, .int .i64 id]) (H := H) (fun _ H r H' => GetS ts f gs bl id H r H') (get_okJ h id)
  rcases hg with ⟨ht, rfl⟩ | ⟨t, n, ht, hf, hn, hg, rfl⟩
  · refine D.rgC hc (by kernel_rfl) (by simp (maxSteps := 1000000) (disch := omega) only [rulesA, rulesB, numbered, ayield, mapO, constAV, scAV, optval, abin, aint, acmp, aconv, aun, aeq, aminmax, afieldAddr, abuild, anew, fieldPlaces, afill, setSeg, kn_P, Nat.reduceAdd, Nat.reduceMul, Nat.reducePow, Nat.reduceSub, Nat.reduceEqDiff, Nat.reduceLT, Nat.reduceLeDiff, Int.reduceEq, Int.reduceNe, Int.reduceLT, Int.reduceLE, Int.reduceAdd, Int.reduceSub, Int.reduceToNat, Int.reduceBNe, Int.reduceBEq, tyR, rulesC, hc, hJ30]; with_reducible rfl) ?_
    repeat (first | with_reducible refine D.sq ?_ | with_reducible refine D.bl ?_ | with_reducible refine D.skip ?_ | with_reducible refine D.rg (T := none_) (by kernel_rfl) (by simp (maxSteps := 1000000) (disch := omega) only [rulesA, rulesB, numbered, ayield, mapO, constAV, scAV, optval, abin, aint, acmp, aconv, aun, aeq, aminmax, afieldAddr, abuild, anew, fieldPlaces, afill, setSeg, kn_P, Nat.reduceAdd, Nat.reduceMul, Nat.reducePow, Nat.reduceSub, Nat.reduceEqDiff, Nat.reduceLT, Nat.reduceLeDiff, Int.reduceEq, Int.reduceNe, Int.reduceLT, Int.reduceLE, Int.reduceAdd, Int.reduceSub, Int.reduceToNat, Int.reduceBNe, Int.reduceBEq, tyR, rulesC]; with_reducible rfl) ?_ | with_reducible refine D.ct2 (by simp (maxSteps := 1000000) (disch := omega) only [rulesV, numbered, constAV, scAV, Nat.reduceEqDiff, Nat.reduceLT, Nat.reduceLeDiff, rulesC]; with_reducible rfl) (by with_reducible rfl) ?_ | with_reducible refine D.cf2 (by simp (maxSteps := 1000000) (disch := omega) only [rulesV, numbered, constAV, scAV, Nat.reduceEqDiff, Nat.reduceLT, Nat.reduceLeDiff, rulesC]; with_reducible rfl) (by with_reducible rfl) ?_ | with_reducible refine D.exit ?_ | with_reducible refine D.ret ?_ | simp only [rulesK, Nat.reduceEqDiff])
    refine ⟨_, by simp only [resOf, aresult, rulesA, rulesB, numbered, ayield, mapO, constAV, scAV, optval, abin, aint, acmp, aconv, aun, aeq, aminmax, afieldAddr, abuild, anew, fieldPlaces, afill, setSeg, kn_P, Nat.reduceAdd, Nat.reduceMul, Nat.reducePow, Nat.reduceSub, Nat.reduceEqDiff, Nat.reduceLT, Nat.reduceLeDiff, Int.reduceEq, Int.reduceNe, Int.reduceLT, Int.reduceLE, Int.reduceAdd, Int.reduceSub, Int.reduceToNat, Int.reduceBNe, Int.reduceBEq, tyR]; with_reducible rfl, ?_⟩
    simp only [tfinish, ht]
    exact ⟨rfl, o, ⟨f, gs, h⟩, Kp.refl⟩
  obtain rfl := (tf_some ht).2
  have F := cel (G := G) (base := base) (w0 := w0) h.cells hg
  have P := put1 h.cells hg
  refine D.rgC hc (by kernel_rfl) (by simp (maxSteps := 1000000) (disch := omega) only [rulesA, rulesB, numbered, ayield, mapO, constAV, scAV, optval, abin, aint, acmp, aconv, aun, aeq, aminmax, afieldAddr, abuild, anew, fieldPlaces, afill, setSeg, kn_P, Nat.reduceAdd, Nat.reduceMul, Nat.reducePow, Nat.reduceSub, Nat.reduceEqDiff, Nat.reduceLT, Nat.reduceLeDiff, Int.reduceEq, Int.reduceNe, Int.reduceLT, Int.reduceLE, Int.reduceAdd, Int.reduceSub, Int.reduceToNat, Int.reduceBNe, Int.reduceBEq, tyR, rulesC, hc, hJ30]; with_reducible rfl) ?_
  cases h6 : t.ac with
  | false =>
    repeat (first | with_reducible refine D.sq ?_ | with_reducible refine D.bl ?_ | with_reducible refine D.skip ?_ | with_reducible refine D.rg (T := none_) (by kernel_rfl) (by simp (maxSteps := 1000000) (disch := omega) only [rulesA, rulesB, numbered, ayield, mapO, constAV, scAV, optval, abin, aint, acmp, aconv, aun, aeq, aminmax, afieldAddr, abuild, anew, fieldPlaces, afill, setSeg, kn_P, Nat.reduceAdd, Nat.reduceMul, Nat.reducePow, Nat.reduceSub, Nat.reduceEqDiff, Nat.reduceLT, Nat.reduceLeDiff, Int.reduceEq, Int.reduceNe, Int.reduceLT, Int.reduceLE, Int.reduceAdd, Int.reduceSub, Int.reduceToNat, Int.reduceBNe, Int.reduceBEq, tyR, rulesC, (h6 ▸ F.f6)]; with_reducible rfl) ?_ | with_reducible refine D.ct2 (by simp (maxSteps := 1000000) (disch := omega) only [rulesV, numbered, constAV, scAV, Nat.reduceEqDiff, Nat.reduceLT, Nat.reduceLeDiff, rulesC, (h6 ▸ F.f6)]; with_reducible rfl) (by with_reducible rfl) ?_ | with_reducible refine D.cf2 (by simp (maxSteps := 1000000) (disch := omega) only [rulesV, numbered, constAV, scAV, Nat.reduceEqDiff, Nat.reduceLT, Nat.reduceLeDiff, rulesC, (h6 ▸ F.f6)]; with_reducible rfl) (by with_reducible rfl) ?_ | with_reducible refine D.exit ?_ | with_reducible refine D.ret ?_ | simp only [rulesK, Nat.reduceEqDiff])
    refine ⟨_, by simp only [resOf, aresult, rulesA, rulesB, numbered, ayield, mapO, constAV, scAV, optval, abin, aint, acmp, aconv, aun, aeq, aminmax, afieldAddr, abuild, anew, fieldPlaces, afill, setSeg, kn_P, Nat.reduceAdd, Nat.reduceMul, Nat.reducePow, Nat.reduceSub, Nat.reduceEqDiff, Nat.reduceLT, Nat.reduceLeDiff, Int.reduceEq, Int.reduceNe, Int.reduceLT, Int.reduceLE, Int.reduceAdd, Int.reduceSub, Int.reduceToNat, Int.reduceBNe, Int.reduceBEq, tyR]; with_reducible rfl, ?_⟩
    simp only [tfinish, ht, h6]
    exact ⟨rfl, o, ⟨f, gs, h⟩, Kp.refl⟩
  | true =>
  cases h9 : t.dn with
  | true =>
    repeat (first | with_reducible refine D.sq ?_ | with_reducible refine D.bl ?_ | with_reducible refine D.skip ?_ | with_reducible refine D.rg (T := none_) (by kernel_rfl) (by simp (maxSteps := 1000000) (disch := omega) only [rulesA, rulesB, numbered, ayield, mapO, constAV, scAV, optval, abin, aint, acmp, aconv, aun, aeq, aminmax, afieldAddr, abuild, anew, fieldPlaces, afill, setSeg, kn_P, Nat.reduceAdd, Nat.reduceMul, Nat.reducePow, Nat.reduceSub, Nat.reduceEqDiff, Nat.reduceLT, Nat.reduceLeDiff, Int.reduceEq, Int.reduceNe, Int.reduceLT, Int.reduceLE, Int.reduceAdd, Int.reduceSub, Int.reduceToNat, Int.reduceBNe, Int.reduceBEq, tyR, rulesC, (h6 ▸ F.f6), (h9 ▸ F.f9)]; with_reducible rfl) ?_ | with_reducible refine D.ct2 (by simp (maxSteps := 1000000) (disch := omega) only [rulesV, numbered, constAV, scAV, Nat.reduceEqDiff, Nat.reduceLT, Nat.reduceLeDiff, rulesC, (h6 ▸ F.f6), (h9 ▸ F.f9)]; with_reducible rfl) (by with_reducible rfl) ?_ | with_reducible refine D.cf2 (by simp (maxSteps := 1000000) (disch := omega) only [rulesV, numbered, constAV, scAV, Nat.reduceEqDiff, Nat.reduceLT, Nat.reduceLeDiff, rulesC, (h6 ▸ F.f6), (h9 ▸ F.f9)]; with_reducible rfl) (by with_reducible rfl) ?_ | with_reducible refine D.exit ?_ | with_reducible refine D.ret ?_ | simp only [rulesK, Nat.reduceEqDiff])
    refine ⟨_, by simp only [resOf, aresult, rulesA, rulesB, numbered, ayield, mapO, constAV, scAV, optval, abin, aint, acmp, aconv, aun, aeq, aminmax, afieldAddr, abuild, anew, fieldPlaces, afill, setSeg, kn_P, Nat.reduceAdd, Nat.reduceMul, Nat.reducePow, Nat.reduceSub, Nat.reduceEqDiff, Nat.reduceLT, Nat.reduceLeDiff, Int.reduceEq, Int.reduceNe, Int.reduceLT, Int.reduceLE, Int.reduceAdd, Int.reduceSub, Int.reduceToNat, Int.reduceBNe, Int.reduceBEq, tyR]; with_reducible rfl, ?_⟩
    simp only [tfinish, ht, h6, h9]
    exact ⟨rfl, o, ⟨f, gs, h⟩, Kp.refl⟩
  | false =>
  by_cases h8 : t.gt = t.e
  · repeat (first | with_reducible refine D.sq ?_ | with_reducible refine D.bl ?_ | with_reducible refine D.skip ?_ | with_reducible refine D.rg (T := none_) (by kernel_rfl) (by simp (maxSteps := 1000000) (disch := omega) only [rulesA, rulesB, numbered, ayield, mapO, constAV, scAV, optval, abin, aint, acmp, aconv, aun, aeq, aminmax, afieldAddr, abuild, anew, fieldPlaces, afill, setSeg, kn_P, Nat.reduceAdd, Nat.reduceMul, Nat.reducePow, Nat.reduceSub, Nat.reduceEqDiff, Nat.reduceLT, Nat.reduceLeDiff, Int.reduceEq, Int.reduceNe, Int.reduceLT, Int.reduceLE, Int.reduceAdd, Int.reduceSub, Int.reduceToNat, Int.reduceBNe, Int.reduceBEq, tyR, rulesC, (h6 ▸ F.f6), (h9 ▸ F.f9), F.f8, F.f1]; with_reducible rfl) ?_ | with_reducible refine D.ct2 (by simp (maxSteps := 1000000) (disch := omega) only [rulesV, numbered, constAV, scAV, Nat.reduceEqDiff, Nat.reduceLT, Nat.reduceLeDiff, rulesC, (h6 ▸ F.f6), (h9 ▸ F.f9), F.f8, F.f1]; with_reducible rfl) (by with_reducible rfl) ?_ | with_reducible refine D.cf2 (by simp (maxSteps := 1000000) (disch := omega) only [rulesV, numbered, constAV, scAV, Nat.reduceEqDiff, Nat.reduceLT, Nat.reduceLeDiff, rulesC, (h6 ▸ F.f6), (h9 ▸ F.f9), F.f8, F.f1]; with_reducible rfl) (by with_reducible rfl) ?_ | with_reducible refine D.exit ?_ | with_reducible refine D.ret ?_ | simp only [rulesK, Nat.reduceEqDiff])
    refine ⟨_, by simp only [resOf, aresult, rulesA, rulesB, numbered, ayield, mapO, constAV, scAV, optval, abin, aint, acmp, aconv, aun, aeq, aminmax, afieldAddr, abuild, anew, fieldPlaces, afill, setSeg, kn_P, Nat.reduceAdd, Nat.reduceMul, Nat.reducePow, Nat.reduceSub, Nat.reduceEqDiff, Nat.reduceLT, Nat.reduceLeDiff, Int.reduceEq, Int.reduceNe, Int.reduceLT, Int.reduceLE, Int.reduceAdd, Int.reduceSub, Int.reduceToNat, Int.reduceBNe, Int.reduceBEq, tyR]; with_reducible rfl, ?_⟩
    simp only [tfinish, ht, h6, h9, beq_yes h8]
    exact ⟨rfl, o, ⟨f, gs, h⟩, Kp.refl⟩
  · repeat (first | with_reducible refine D.sq ?_ | with_reducible refine D.bl ?_ | with_reducible refine D.skip ?_ | with_reducible refine D.rg (T := none_) (by kernel_rfl) (by simp (maxSteps := 1000000) (disch := omega) only [rulesA, rulesB, numbered, ayield, mapO, constAV, scAV, optval, abin, aint, acmp, aconv, aun, aeq, aminmax, afieldAddr, abuild, anew, fieldPlaces, afill, setSeg, kn_P, Nat.reduceAdd, Nat.reduceMul, Nat.reducePow, Nat.reduceSub, Nat.reduceEqDiff, Nat.reduceLT, Nat.reduceLeDiff, Int.reduceEq, Int.reduceNe, Int.reduceLT, Int.reduceLE, Int.reduceAdd, Int.reduceSub, Int.reduceToNat, Int.reduceBNe, Int.reduceBEq, tyR, rulesC, (h6 ▸ F.f6), (h9 ▸ F.f9), F.f8, F.f1, astore, P.s9]; with_reducible rfl) ?_ | with_reducible refine D.ct2 (by simp (maxSteps := 1000000) (disch := omega) only [rulesV, numbered, constAV, scAV, Nat.reduceEqDiff, Nat.reduceLT, Nat.reduceLeDiff, rulesC, (h6 ▸ F.f6), (h9 ▸ F.f9), F.f8, F.f1, astore, P.s9]; with_reducible rfl) (by with_reducible rfl) ?_ | with_reducible refine D.cf2 (by simp (maxSteps := 1000000) (disch := omega) only [rulesV, numbered, constAV, scAV, Nat.reduceEqDiff, Nat.reduceLT, Nat.reduceLeDiff, rulesC, (h6 ▸ F.f6), (h9 ▸ F.f9), F.f8, F.f1, astore, P.s9]; with_reducible rfl) (by with_reducible rfl) ?_ | with_reducible refine D.exit ?_ | with_reducible refine D.ret ?_ | simp only [rulesK, Nat.reduceEqDiff])
    refine ⟨_, by simp only [resOf, aresult, rulesA, rulesB, numbered, ayield, mapO, constAV, scAV, optval, abin, aint, acmp, aconv, aun, aeq, aminmax, afieldAddr, abuild, anew, fieldPlaces, afill, setSeg, kn_P, Nat.reduceAdd, Nat.reduceMul, Nat.reducePow, Nat.reduceSub, Nat.reduceEqDiff, Nat.reduceLT, Nat.reduceLeDiff, Int.reduceEq, Int.reduceNe, Int.reduceLT, Int.reduceLE, Int.reduceAdd, Int.reduceSub, Int.reduceToNat, Int.reduceBNe, Int.reduceBEq, tyR]; with_reducible rfl, ?_⟩
    rw [show tfinish ts t.id = (tset ts { t with dn := true }, 0) by simp [tfinish, ht, h6, h9, beq_no h8]]
    exact ⟨rfl, set_deed (t' := { t with dn := true }) h ht rfl hf hg⟩
def GiveS (q : List Tk × Bool) (H : AHeap) (pj s bl k : Nat) (o : Tb) : AV → AHeap → Prop := fun r H' => r = .bool q.2 ∧ ∃ o', JS H' pj s bl k o' q.1 ∧ Kp H H' bl o o'
theorem give_ok (h : Jx H pj s bl k o f gs ts) (id : Int) {m : Int} (hok : Ok m ts) : ∃ r H', Pt (kn G base w0) 25 [.ptr (.own pj) 0, .int .i64 id] H r H' ∧ GiveS (tgive ts id) H pj s bl k o r H' := by
  refine Pt.fn (n := 36) (rs := [.tmp 4]) Try.func25 (b := _) rfl rfl rfl (by decide) ?_
  repeat (first | with_reducible refine D.sq ?_ | with_reducible refine D.bl ?_ | with_reducible refine D.skip ?_ | with_reducible refine D.rg (T := none_) (by kernel_rfl) (by simp (maxSteps := 1000000) (disch := omega) only [rulesA, rulesB, numbered, ayield, mapO, constAV, scAV, optval, abin, aint, acmp, aconv, aun, aeq, aminmax, afieldAddr, abuild, anew, fieldPlaces, afill, setSeg, kn_P, Nat.reduceAdd, Nat.reduceMul, Nat.reducePow, Nat.reduceSub, Nat.reduceEqDiff, Nat.reduceLT, Nat.reduceLeDiff, Int.reduceEq, Int.reduceNe, Int.reduceLT, Int.reduceLE, Int.reduceAdd, Int.reduceSub, Int.reduceToNat, Int.reduceBNe, Int.reduceBEq, tyR, rulesC]; with_reducible rfl) ?_ | with_reducible refine D.ct2 (by simp (maxSteps := 1000000) (disch := omega) only [rulesV, numbered, constAV, scAV, Nat.reduceEqDiff, Nat.reduceLT, Nat.reduceLeDiff, rulesC]; with_reducible rfl) (by with_reducible rfl) ?_ | with_reducible refine D.cf2 (by simp (maxSteps := 1000000) (disch := omega) only [rulesV, numbered, constAV, scAV, Nat.reduceEqDiff, Nat.reduceLT, Nat.reduceLeDiff, rulesC]; with_reducible rfl) (by with_reducible rfl) ?_ | with_reducible refine D.exit ?_ | with_reducible refine D.ret ?_ | simp only [rulesK, Nat.reduceEqDiff])
  obtain ⟨r1, H2, hc, rfl, hg⟩ := call_only (κ := kn G base w0) (f := 30) (args := [.ptr (.own pj) 0, .int .i64 id]) (H := H) (fun _ H r H' => GetS ts f gs bl id H r H') (get_okJ h id)
  rcases hg with ⟨ht, rfl⟩ | ⟨t, n, ht, hf, hn, hg, rfl⟩
  · refine D.rgC hc (by kernel_rfl) (by simp (maxSteps := 1000000) (disch := omega) only [rulesA, rulesB, numbered, ayield, mapO, constAV, scAV, optval, abin, aint, acmp, aconv, aun, aeq, aminmax, afieldAddr, abuild, anew, fieldPlaces, afill, setSeg, kn_P, Nat.reduceAdd, Nat.reduceMul, Nat.reducePow, Nat.reduceSub, Nat.reduceEqDiff, Nat.reduceLT, Nat.reduceLeDiff, Int.reduceEq, Int.reduceNe, Int.reduceLT, Int.reduceLE, Int.reduceAdd, Int.reduceSub, Int.reduceToNat, Int.reduceBNe, Int.reduceBEq, tyR, rulesC, hc, hJ30]; with_reducible rfl) ?_
    repeat (first | with_reducible refine D.sq ?_ | with_reducible refine D.bl ?_ | with_reducible refine D.skip ?_ | with_reducible refine D.rg (T := none_) (by kernel_rfl) (by simp (maxSteps := 1000000) (disch := omega) only [rulesA, rulesB, numbered, ayield, mapO, constAV, scAV, optval, abin, aint, acmp, aconv, aun, aeq, aminmax, afieldAddr, abuild, anew, fieldPlaces, afill, setSeg, kn_P, Nat.reduceAdd, Nat.reduceMul, Nat.reducePow, Nat.reduceSub, Nat.reduceEqDiff, Nat.reduceLT, Nat.reduceLeDiff, Int.reduceEq, Int.reduceNe, Int.reduceLT, Int.reduceLE, Int.reduceAdd, Int.reduceSub, Int.reduceToNat, Int.reduceBNe, Int.reduceBEq, tyR, rulesC]; with_reducible rfl) ?_ | with_reducible refine D.ct2 (by simp (maxSteps := 1000000) (disch := omega) only [rulesV, numbered, constAV, scAV, Nat.reduceEqDiff, Nat.reduceLT, Nat.reduceLeDiff, rulesC]; with_reducible rfl) (by with_reducible rfl) ?_ | with_reducible refine D.cf2 (by simp (maxSteps := 1000000) (disch := omega) only [rulesV, numbered, constAV, scAV, Nat.reduceEqDiff, Nat.reduceLT, Nat.reduceLeDiff, rulesC]; with_reducible rfl) (by with_reducible rfl) ?_ | with_reducible refine D.exit ?_ | with_reducible refine D.ret ?_ | simp only [rulesK, Nat.reduceEqDiff])
    refine ⟨_, by simp only [resOf, aresult, rulesA, rulesB, numbered, ayield, mapO, constAV, scAV, optval, abin, aint, acmp, aconv, aun, aeq, aminmax, afieldAddr, abuild, anew, fieldPlaces, afill, setSeg, kn_P, Nat.reduceAdd, Nat.reduceMul, Nat.reducePow, Nat.reduceSub, Nat.reduceEqDiff, Nat.reduceLT, Nat.reduceLeDiff, Int.reduceEq, Int.reduceNe, Int.reduceLT, Int.reduceLE, Int.reduceAdd, Int.reduceSub, Int.reduceToNat, Int.reduceBNe, Int.reduceBEq, tyR]; with_reducible rfl, ?_⟩
    simp only [tgive, ht]
    exact ⟨rfl, o, ⟨f, gs, h⟩, Kp.refl⟩
  obtain ⟨hmem, rfl⟩ := tf_some ht
  obtain ⟨⟨m1, m2, m3⟩, g0, g1, _, _, _, _, _, _⟩ := hok t hmem
  have F := cel (G := G) (base := base) (w0 := w0) h.cells hg
  have P := put1 h.cells hg
  refine D.rgC hc (by kernel_rfl) (by simp (maxSteps := 1000000) (disch := omega) only [rulesA, rulesB, numbered, ayield, mapO, constAV, scAV, optval, abin, aint, acmp, aconv, aun, aeq, aminmax, afieldAddr, abuild, anew, fieldPlaces, afill, setSeg, kn_P, Nat.reduceAdd, Nat.reduceMul, Nat.reducePow, Nat.reduceSub, Nat.reduceEqDiff, Nat.reduceLT, Nat.reduceLeDiff, Int.reduceEq, Int.reduceNe, Int.reduceLT, Int.reduceLE, Int.reduceAdd, Int.reduceSub, Int.reduceToNat, Int.reduceBNe, Int.reduceBEq, tyR, rulesC, hc, hJ30]; with_reducible rfl) ?_
  cases h6 : t.ac with
  | false =>
    repeat (first | with_reducible refine D.sq ?_ | with_reducible refine D.bl ?_ | with_reducible refine D.skip ?_ | with_reducible refine D.rg (T := none_) (by kernel_rfl) (by simp (maxSteps := 1000000) (disch := omega) only [rulesA, rulesB, numbered, ayield, mapO, constAV, scAV, optval, abin, aint, acmp, aconv, aun, aeq, aminmax, afieldAddr, abuild, anew, fieldPlaces, afill, setSeg, kn_P, Nat.reduceAdd, Nat.reduceMul, Nat.reducePow, Nat.reduceSub, Nat.reduceEqDiff, Nat.reduceLT, Nat.reduceLeDiff, Int.reduceEq, Int.reduceNe, Int.reduceLT, Int.reduceLE, Int.reduceAdd, Int.reduceSub, Int.reduceToNat, Int.reduceBNe, Int.reduceBEq, tyR, rulesC, (h6 ▸ F.f6)]; with_reducible rfl) ?_ | with_reducible refine D.ct2 (by simp (maxSteps := 1000000) (disch := omega) only [rulesV, numbered, constAV, scAV, Nat.reduceEqDiff, Nat.reduceLT, Nat.reduceLeDiff, rulesC, (h6 ▸ F.f6)]; with_reducible rfl) (by with_reducible rfl) ?_ | with_reducible refine D.cf2 (by simp (maxSteps := 1000000) (disch := omega) only [rulesV, numbered, constAV, scAV, Nat.reduceEqDiff, Nat.reduceLT, Nat.reduceLeDiff, rulesC, (h6 ▸ F.f6)]; with_reducible rfl) (by with_reducible rfl) ?_ | with_reducible refine D.exit ?_ | with_reducible refine D.ret ?_ | simp only [rulesK, Nat.reduceEqDiff])
    refine ⟨_, by simp only [resOf, aresult, rulesA, rulesB, numbered, ayield, mapO, constAV, scAV, optval, abin, aint, acmp, aconv, aun, aeq, aminmax, afieldAddr, abuild, anew, fieldPlaces, afill, setSeg, kn_P, Nat.reduceAdd, Nat.reduceMul, Nat.reducePow, Nat.reduceSub, Nat.reduceEqDiff, Nat.reduceLT, Nat.reduceLeDiff, Int.reduceEq, Int.reduceNe, Int.reduceLT, Int.reduceLE, Int.reduceAdd, Int.reduceSub, Int.reduceToNat, Int.reduceBNe, Int.reduceBEq, tyR]; with_reducible rfl, ?_⟩
    simp only [tgive, ht, h6]
    exact ⟨rfl, o, ⟨f, gs, h⟩, Kp.refl⟩
  | true =>
  by_cases h8 : t.gt = t.e
  · repeat (first | with_reducible refine D.sq ?_ | with_reducible refine D.bl ?_ | with_reducible refine D.skip ?_ | with_reducible refine D.rg (T := none_) (by kernel_rfl) (by simp (maxSteps := 1000000) (disch := omega) only [rulesA, rulesB, numbered, ayield, mapO, constAV, scAV, optval, abin, aint, acmp, aconv, aun, aeq, aminmax, afieldAddr, abuild, anew, fieldPlaces, afill, setSeg, kn_P, Nat.reduceAdd, Nat.reduceMul, Nat.reducePow, Nat.reduceSub, Nat.reduceEqDiff, Nat.reduceLT, Nat.reduceLeDiff, Int.reduceEq, Int.reduceNe, Int.reduceLT, Int.reduceLE, Int.reduceAdd, Int.reduceSub, Int.reduceToNat, Int.reduceBNe, Int.reduceBEq, tyR, rulesC, (h6 ▸ F.f6), F.f8, F.f1]; with_reducible rfl) ?_ | with_reducible refine D.ct2 (by simp (maxSteps := 1000000) (disch := omega) only [rulesV, numbered, constAV, scAV, Nat.reduceEqDiff, Nat.reduceLT, Nat.reduceLeDiff, rulesC, (h6 ▸ F.f6), F.f8, F.f1]; with_reducible rfl) (by with_reducible rfl) ?_ | with_reducible refine D.cf2 (by simp (maxSteps := 1000000) (disch := omega) only [rulesV, numbered, constAV, scAV, Nat.reduceEqDiff, Nat.reduceLT, Nat.reduceLeDiff, rulesC, (h6 ▸ F.f6), F.f8, F.f1]; with_reducible rfl) (by with_reducible rfl) ?_ | with_reducible refine D.exit ?_ | with_reducible refine D.ret ?_ | simp only [rulesK, Nat.reduceEqDiff])
    refine ⟨_, by simp only [resOf, aresult, rulesA, rulesB, numbered, ayield, mapO, constAV, scAV, optval, abin, aint, acmp, aconv, aun, aeq, aminmax, afieldAddr, abuild, anew, fieldPlaces, afill, setSeg, kn_P, Nat.reduceAdd, Nat.reduceMul, Nat.reducePow, Nat.reduceSub, Nat.reduceEqDiff, Nat.reduceLT, Nat.reduceLeDiff, Int.reduceEq, Int.reduceNe, Int.reduceLT, Int.reduceLE, Int.reduceAdd, Int.reduceSub, Int.reduceToNat, Int.reduceBNe, Int.reduceBEq, tyR]; with_reducible rfl, ?_⟩
    simp only [tgive, ht, h6, beq_yes h8]
    exact ⟨rfl, o, ⟨f, gs, h⟩, Kp.refl⟩
  · repeat (first | with_reducible refine D.sq ?_ | with_reducible refine D.bl ?_ | with_reducible refine D.skip ?_ | with_reducible refine D.rg (T := none_) (by kernel_rfl) (by simp (maxSteps := 1000000) (disch := omega) only [rulesA, rulesB, numbered, ayield, mapO, constAV, scAV, optval, abin, aint, acmp, aconv, aun, aeq, aminmax, afieldAddr, abuild, anew, fieldPlaces, afill, setSeg, kn_P, Nat.reduceAdd, Nat.reduceMul, Nat.reducePow, Nat.reduceSub, Nat.reduceEqDiff, Nat.reduceLT, Nat.reduceLeDiff, Int.reduceEq, Int.reduceNe, Int.reduceLT, Int.reduceLE, Int.reduceAdd, Int.reduceSub, Int.reduceToNat, Int.reduceBNe, Int.reduceBEq, tyR, rulesC, (h6 ▸ F.f6), F.f8, F.f1, astore, P.s8]; with_reducible rfl) ?_ | with_reducible refine D.ct2 (by simp (maxSteps := 1000000) (disch := omega) only [rulesV, numbered, constAV, scAV, Nat.reduceEqDiff, Nat.reduceLT, Nat.reduceLeDiff, rulesC, (h6 ▸ F.f6), F.f8, F.f1, astore, P.s8]; with_reducible rfl) (by with_reducible rfl) ?_ | with_reducible refine D.cf2 (by simp (maxSteps := 1000000) (disch := omega) only [rulesV, numbered, constAV, scAV, Nat.reduceEqDiff, Nat.reduceLT, Nat.reduceLeDiff, rulesC, (h6 ▸ F.f6), F.f8, F.f1, astore, P.s8]; with_reducible rfl) (by with_reducible rfl) ?_ | with_reducible refine D.exit ?_ | with_reducible refine D.ret ?_ | simp only [rulesK, Nat.reduceEqDiff])
    refine ⟨_, by simp only [resOf, aresult, rulesA, rulesB, numbered, ayield, mapO, constAV, scAV, optval, abin, aint, acmp, aconv, aun, aeq, aminmax, afieldAddr, abuild, anew, fieldPlaces, afill, setSeg, kn_P, Nat.reduceAdd, Nat.reduceMul, Nat.reducePow, Nat.reduceSub, Nat.reduceEqDiff, Nat.reduceLT, Nat.reduceLeDiff, Int.reduceEq, Int.reduceNe, Int.reduceLT, Int.reduceLE, Int.reduceAdd, Int.reduceSub, Int.reduceToNat, Int.reduceBNe, Int.reduceBEq, tyR]; with_reducible rfl, ?_⟩
    rw [show tgive ts t.id = (tset ts { t with gt := t.gt + 1 }, true) by simp [tgive, ht, h6, beq_no h8]]
    exact ⟨rfl, set_deed (t' := { t with gt := t.gt + 1 }) h ht rfl hf hg⟩
def LeaveS (q : List Tk × Bool × Int) (H : AHeap) (pj s bl k : Nat) (o : Tb) : AV → AHeap → Prop := fun r H' => r = .tuple [.bool q.2.1, .int .i64 q.2.2] ∧ ∃ o', JS H' pj s bl k o' q.1 ∧ Kp H H' bl o o'
theorem leave_ok (h : Jx H pj s bl k o f gs ts) (id : Int) : ∃ r H', Pt (kn G base w0) 13 [.ptr (.own pj) 0, .int .i64 id] H r H' ∧ LeaveS (tleave ts id) H pj s bl k o r H' := by
  refine Pt.fn (n := 32) (rs := [.tmp 4, .tmp 5]) Try.func13 (b := _) rfl rfl rfl (by decide) ?_
  repeat (first | with_reducible refine D.sq ?_ | with_reducible refine D.bl ?_ | with_reducible refine D.skip ?_ | with_reducible refine D.rg (T := none_) (by kernel_rfl) (by simp (maxSteps := 1000000) (disch := omega) only [rulesA, rulesB, numbered, ayield, mapO, constAV, scAV, optval, abin, aint, acmp, aconv, aun, aeq, aminmax, afieldAddr, abuild, anew, fieldPlaces, afill, setSeg, kn_P, Nat.reduceAdd, Nat.reduceMul, Nat.reducePow, Nat.reduceSub, Nat.reduceEqDiff, Nat.reduceLT, Nat.reduceLeDiff, Int.reduceEq, Int.reduceNe, Int.reduceLT, Int.reduceLE, Int.reduceAdd, Int.reduceSub, Int.reduceToNat, Int.reduceBNe, Int.reduceBEq, tyR, rulesC]; with_reducible rfl) ?_ | with_reducible refine D.ct2 (by simp (maxSteps := 1000000) (disch := omega) only [rulesV, numbered, constAV, scAV, Nat.reduceEqDiff, Nat.reduceLT, Nat.reduceLeDiff, rulesC]; with_reducible rfl) (by with_reducible rfl) ?_ | with_reducible refine D.cf2 (by simp (maxSteps := 1000000) (disch := omega) only [rulesV, numbered, constAV, scAV, Nat.reduceEqDiff, Nat.reduceLT, Nat.reduceLeDiff, rulesC]; with_reducible rfl) (by with_reducible rfl) ?_ | with_reducible refine D.exit ?_ | with_reducible refine D.ret ?_ | simp only [rulesK, Nat.reduceEqDiff])
  obtain ⟨r1, H2, hc, rfl, hg⟩ := call_only (κ := kn G base w0) (f := 30) (args := [.ptr (.own pj) 0, .int .i64 id]) (H := H) (fun _ H r H' => GetS ts f gs bl id H r H') (get_okJ h id)
  rcases hg with ⟨ht, rfl⟩ | ⟨t, n, ht, hf, hn, hg, rfl⟩
  · refine D.rgC hc (by kernel_rfl) (by simp (maxSteps := 1000000) (disch := omega) only [rulesA, rulesB, numbered, ayield, mapO, constAV, scAV, optval, abin, aint, acmp, aconv, aun, aeq, aminmax, afieldAddr, abuild, anew, fieldPlaces, afill, setSeg, kn_P, Nat.reduceAdd, Nat.reduceMul, Nat.reducePow, Nat.reduceSub, Nat.reduceEqDiff, Nat.reduceLT, Nat.reduceLeDiff, Int.reduceEq, Int.reduceNe, Int.reduceLT, Int.reduceLE, Int.reduceAdd, Int.reduceSub, Int.reduceToNat, Int.reduceBNe, Int.reduceBEq, tyR, rulesC, hc, hJ30]; with_reducible rfl) ?_
    repeat (first | with_reducible refine D.sq ?_ | with_reducible refine D.bl ?_ | with_reducible refine D.skip ?_ | with_reducible refine D.rg (T := none_) (by kernel_rfl) (by simp (maxSteps := 1000000) (disch := omega) only [rulesA, rulesB, numbered, ayield, mapO, constAV, scAV, optval, abin, aint, acmp, aconv, aun, aeq, aminmax, afieldAddr, abuild, anew, fieldPlaces, afill, setSeg, kn_P, Nat.reduceAdd, Nat.reduceMul, Nat.reducePow, Nat.reduceSub, Nat.reduceEqDiff, Nat.reduceLT, Nat.reduceLeDiff, Int.reduceEq, Int.reduceNe, Int.reduceLT, Int.reduceLE, Int.reduceAdd, Int.reduceSub, Int.reduceToNat, Int.reduceBNe, Int.reduceBEq, tyR, rulesC]; with_reducible rfl) ?_ | with_reducible refine D.ct2 (by simp (maxSteps := 1000000) (disch := omega) only [rulesV, numbered, constAV, scAV, Nat.reduceEqDiff, Nat.reduceLT, Nat.reduceLeDiff, rulesC]; with_reducible rfl) (by with_reducible rfl) ?_ | with_reducible refine D.cf2 (by simp (maxSteps := 1000000) (disch := omega) only [rulesV, numbered, constAV, scAV, Nat.reduceEqDiff, Nat.reduceLT, Nat.reduceLeDiff, rulesC]; with_reducible rfl) (by with_reducible rfl) ?_ | with_reducible refine D.exit ?_ | with_reducible refine D.ret ?_ | simp only [rulesK, Nat.reduceEqDiff])
    refine ⟨_, by simp only [resOf, aresult, rulesA, rulesB, numbered, ayield, mapO, constAV, scAV, optval, abin, aint, acmp, aconv, aun, aeq, aminmax, afieldAddr, abuild, anew, fieldPlaces, afill, setSeg, kn_P, Nat.reduceAdd, Nat.reduceMul, Nat.reducePow, Nat.reduceSub, Nat.reduceEqDiff, Nat.reduceLT, Nat.reduceLeDiff, Int.reduceEq, Int.reduceNe, Int.reduceLT, Int.reduceLE, Int.reduceAdd, Int.reduceSub, Int.reduceToNat, Int.reduceBNe, Int.reduceBEq, tyR]; with_reducible rfl, ?_⟩
    simp only [tleave, ht]
    exact ⟨rfl, o, ⟨f, gs, h⟩, Kp.refl⟩
  obtain rfl := (tf_some ht).2
  have F := cel (G := G) (base := base) (w0 := w0) h.cells hg
  have P := put1 h.cells hg
  refine D.rgC hc (by kernel_rfl) (by simp (maxSteps := 1000000) (disch := omega) only [rulesA, rulesB, numbered, ayield, mapO, constAV, scAV, optval, abin, aint, acmp, aconv, aun, aeq, aminmax, afieldAddr, abuild, anew, fieldPlaces, afill, setSeg, kn_P, Nat.reduceAdd, Nat.reduceMul, Nat.reducePow, Nat.reduceSub, Nat.reduceEqDiff, Nat.reduceLT, Nat.reduceLeDiff, Int.reduceEq, Int.reduceNe, Int.reduceLT, Int.reduceLE, Int.reduceAdd, Int.reduceSub, Int.reduceToNat, Int.reduceBNe, Int.reduceBEq, tyR, rulesC, hc, hJ30]; with_reducible rfl) ?_
  cases h4 : t.lv with
  | true =>
    repeat (first | with_reducible refine D.sq ?_ | with_reducible refine D.bl ?_ | with_reducible refine D.skip ?_ | with_reducible refine D.rg (T := none_) (by kernel_rfl) (by simp (maxSteps := 1000000) (disch := omega) only [rulesA, rulesB, numbered, ayield, mapO, constAV, scAV, optval, abin, aint, acmp, aconv, aun, aeq, aminmax, afieldAddr, abuild, anew, fieldPlaces, afill, setSeg, kn_P, Nat.reduceAdd, Nat.reduceMul, Nat.reducePow, Nat.reduceSub, Nat.reduceEqDiff, Nat.reduceLT, Nat.reduceLeDiff, Int.reduceEq, Int.reduceNe, Int.reduceLT, Int.reduceLE, Int.reduceAdd, Int.reduceSub, Int.reduceToNat, Int.reduceBNe, Int.reduceBEq, tyR, rulesC, (h4 ▸ F.f4)]; with_reducible rfl) ?_ | with_reducible refine D.ct2 (by simp (maxSteps := 1000000) (disch := omega) only [rulesV, numbered, constAV, scAV, Nat.reduceEqDiff, Nat.reduceLT, Nat.reduceLeDiff, rulesC, (h4 ▸ F.f4)]; with_reducible rfl) (by with_reducible rfl) ?_ | with_reducible refine D.cf2 (by simp (maxSteps := 1000000) (disch := omega) only [rulesV, numbered, constAV, scAV, Nat.reduceEqDiff, Nat.reduceLT, Nat.reduceLeDiff, rulesC, (h4 ▸ F.f4)]; with_reducible rfl) (by with_reducible rfl) ?_ | with_reducible refine D.exit ?_ | with_reducible refine D.ret ?_ | simp only [rulesK, Nat.reduceEqDiff])
    refine ⟨_, by simp only [resOf, aresult, rulesA, rulesB, numbered, ayield, mapO, constAV, scAV, optval, abin, aint, acmp, aconv, aun, aeq, aminmax, afieldAddr, abuild, anew, fieldPlaces, afill, setSeg, kn_P, Nat.reduceAdd, Nat.reduceMul, Nat.reducePow, Nat.reduceSub, Nat.reduceEqDiff, Nat.reduceLT, Nat.reduceLeDiff, Int.reduceEq, Int.reduceNe, Int.reduceLT, Int.reduceLE, Int.reduceAdd, Int.reduceSub, Int.reduceToNat, Int.reduceBNe, Int.reduceBEq, tyR]; with_reducible rfl, ?_⟩
    simp only [tleave, ht, h4]
    exact ⟨rfl, o, ⟨f, gs, h⟩, Kp.refl⟩
  | false =>
  cases h6 : t.ac with
  | true =>
    repeat (first | with_reducible refine D.sq ?_ | with_reducible refine D.bl ?_ | with_reducible refine D.skip ?_ | with_reducible refine D.rg (T := none_) (by kernel_rfl) (by simp (maxSteps := 1000000) (disch := omega) only [rulesA, rulesB, numbered, ayield, mapO, constAV, scAV, optval, abin, aint, acmp, aconv, aun, aeq, aminmax, afieldAddr, abuild, anew, fieldPlaces, afill, setSeg, kn_P, Nat.reduceAdd, Nat.reduceMul, Nat.reducePow, Nat.reduceSub, Nat.reduceEqDiff, Nat.reduceLT, Nat.reduceLeDiff, Int.reduceEq, Int.reduceNe, Int.reduceLT, Int.reduceLE, Int.reduceAdd, Int.reduceSub, Int.reduceToNat, Int.reduceBNe, Int.reduceBEq, tyR, rulesC, (h4 ▸ F.f4), (h6 ▸ F.f6), astore, P.s4]; with_reducible rfl) ?_ | with_reducible refine D.ct2 (by simp (maxSteps := 1000000) (disch := omega) only [rulesV, numbered, constAV, scAV, Nat.reduceEqDiff, Nat.reduceLT, Nat.reduceLeDiff, rulesC, (h4 ▸ F.f4), (h6 ▸ F.f6), astore, P.s4]; with_reducible rfl) (by with_reducible rfl) ?_ | with_reducible refine D.cf2 (by simp (maxSteps := 1000000) (disch := omega) only [rulesV, numbered, constAV, scAV, Nat.reduceEqDiff, Nat.reduceLT, Nat.reduceLeDiff, rulesC, (h4 ▸ F.f4), (h6 ▸ F.f6), astore, P.s4]; with_reducible rfl) (by with_reducible rfl) ?_ | with_reducible refine D.exit ?_ | with_reducible refine D.ret ?_ | simp only [rulesK, Nat.reduceEqDiff])
    refine ⟨_, by simp only [resOf, aresult, rulesA, rulesB, numbered, ayield, mapO, constAV, scAV, optval, abin, aint, acmp, aconv, aun, aeq, aminmax, afieldAddr, abuild, anew, fieldPlaces, afill, setSeg, kn_P, Nat.reduceAdd, Nat.reduceMul, Nat.reducePow, Nat.reduceSub, Nat.reduceEqDiff, Nat.reduceLT, Nat.reduceLeDiff, Int.reduceEq, Int.reduceNe, Int.reduceLT, Int.reduceLE, Int.reduceAdd, Int.reduceSub, Int.reduceToNat, Int.reduceBNe, Int.reduceBEq, tyR]; with_reducible rfl, ?_⟩
    rw [show tleave ts t.id = (tset ts { t with lv := true }, false, 0) by simp [tleave, ht, h4, h6]]
    exact ⟨rfl, set_deed (t' := { t with lv := true }) h ht rfl hf hg⟩
  | false =>
    repeat (first | with_reducible refine D.sq ?_ | with_reducible refine D.bl ?_ | with_reducible refine D.skip ?_ | with_reducible refine D.rg (T := none_) (by kernel_rfl) (by simp (maxSteps := 1000000) (disch := omega) only [rulesA, rulesB, numbered, ayield, mapO, constAV, scAV, optval, abin, aint, acmp, aconv, aun, aeq, aminmax, afieldAddr, abuild, anew, fieldPlaces, afill, setSeg, kn_P, Nat.reduceAdd, Nat.reduceMul, Nat.reducePow, Nat.reduceSub, Nat.reduceEqDiff, Nat.reduceLT, Nat.reduceLeDiff, Int.reduceEq, Int.reduceNe, Int.reduceLT, Int.reduceLE, Int.reduceAdd, Int.reduceSub, Int.reduceToNat, Int.reduceBNe, Int.reduceBEq, tyR, rulesC, (h4 ▸ F.f4), (h6 ▸ F.f6)]; with_reducible rfl) ?_ | with_reducible refine D.ct2 (by simp (maxSteps := 1000000) (disch := omega) only [rulesV, numbered, constAV, scAV, Nat.reduceEqDiff, Nat.reduceLT, Nat.reduceLeDiff, rulesC, (h4 ▸ F.f4), (h6 ▸ F.f6)]; with_reducible rfl) (by with_reducible rfl) ?_ | with_reducible refine D.cf2 (by simp (maxSteps := 1000000) (disch := omega) only [rulesV, numbered, constAV, scAV, Nat.reduceEqDiff, Nat.reduceLT, Nat.reduceLeDiff, rulesC, (h4 ▸ F.f4), (h6 ▸ F.f6)]; with_reducible rfl) (by with_reducible rfl) ?_ | with_reducible refine D.exit ?_ | with_reducible refine D.ret ?_ | simp only [rulesK, Nat.reduceEqDiff])
    obtain ⟨r2, H3, hc2, rfl, hq⟩ := call_only (κ := kn G base w0) (f := 31) (args := [.ptr (.own pj) 0, .int .i64 t.id]) (H := H2) (fun _ H r H' => GoneS t H pj s bl k o ts r H') (gone_ok h ht)
    refine D.rgC hc2 (by kernel_rfl) (by simp (maxSteps := 1000000) (disch := omega) only [rulesA, rulesB, numbered, ayield, mapO, constAV, scAV, optval, abin, aint, acmp, aconv, aun, aeq, aminmax, afieldAddr, abuild, anew, fieldPlaces, afill, setSeg, kn_P, Nat.reduceAdd, Nat.reduceMul, Nat.reducePow, Nat.reduceSub, Nat.reduceEqDiff, Nat.reduceLT, Nat.reduceLeDiff, Int.reduceEq, Int.reduceNe, Int.reduceLT, Int.reduceLE, Int.reduceAdd, Int.reduceSub, Int.reduceToNat, Int.reduceBNe, Int.reduceBEq, tyR, rulesC, hc2, hJ31]; with_reducible rfl) ?_
    repeat (first | with_reducible refine D.sq ?_ | with_reducible refine D.bl ?_ | with_reducible refine D.skip ?_ | with_reducible refine D.rg (T := none_) (by kernel_rfl) (by simp (maxSteps := 1000000) (disch := omega) only [rulesA, rulesB, numbered, ayield, mapO, constAV, scAV, optval, abin, aint, acmp, aconv, aun, aeq, aminmax, afieldAddr, abuild, anew, fieldPlaces, afill, setSeg, kn_P, Nat.reduceAdd, Nat.reduceMul, Nat.reducePow, Nat.reduceSub, Nat.reduceEqDiff, Nat.reduceLT, Nat.reduceLeDiff, Int.reduceEq, Int.reduceNe, Int.reduceLT, Int.reduceLE, Int.reduceAdd, Int.reduceSub, Int.reduceToNat, Int.reduceBNe, Int.reduceBEq, tyR, rulesC]; with_reducible rfl) ?_ | with_reducible refine D.ct2 (by simp (maxSteps := 1000000) (disch := omega) only [rulesV, numbered, constAV, scAV, Nat.reduceEqDiff, Nat.reduceLT, Nat.reduceLeDiff, rulesC]; with_reducible rfl) (by with_reducible rfl) ?_ | with_reducible refine D.cf2 (by simp (maxSteps := 1000000) (disch := omega) only [rulesV, numbered, constAV, scAV, Nat.reduceEqDiff, Nat.reduceLT, Nat.reduceLeDiff, rulesC]; with_reducible rfl) (by with_reducible rfl) ?_ | with_reducible refine D.exit ?_ | with_reducible refine D.ret ?_ | simp only [rulesK, Nat.reduceEqDiff])
    refine ⟨_, by simp only [resOf, aresult, rulesA, rulesB, numbered, ayield, mapO, constAV, scAV, optval, abin, aint, acmp, aconv, aun, aeq, aminmax, afieldAddr, abuild, anew, fieldPlaces, afill, setSeg, kn_P, Nat.reduceAdd, Nat.reduceMul, Nat.reducePow, Nat.reduceSub, Nat.reduceEqDiff, Nat.reduceLT, Nat.reduceLeDiff, Int.reduceEq, Int.reduceNe, Int.reduceLT, Int.reduceLE, Int.reduceAdd, Int.reduceSub, Int.reduceToNat, Int.reduceBNe, Int.reduceBEq, tyR]; with_reducible rfl, ?_⟩
    simp only [tleave, ht, h4, h6]
    exact ⟨rfl, hq⟩
end Go.Proofs.Ytecfofmndpgnjaa.sy

/- jobs.New (own work), and the law's own small functions. -/
namespace Go.Proofs.Ytecfofmndpgnjaa.sy
open Go.AM Go.AM.Hp Go.AM.Jb
set_option linter.unusedSimpArgs false
set_option linter.unusedVariables false
variable {G : List Nat → Option (List AV)} {base : Nat} {w0 : World}
set_option maxRecDepth 100000
set_option maxHeartbeats 8000000
variable {H : AHeap}
theorem hJ28 : hasBody Try.prog 28 = true := by kernel_rfl
theorem reps_tk (n : Nat) : reps n (encT tk0) = wT.fl (List.replicate n tk0) := by
  induction n with
  | zero => rfl
  | succ n ih => rw [reps, ih, List.replicate_succ, Wd.fl_cons]; rfl
def NewJ (n : Nat) (H : AHeap) : AV → AHeap → Prop := fun r H' => ∃ pj s bl o, r = .ptr (.own pj) 0 ∧ JS H' pj s bl n o [] ∧ Keep H H' (fun _ => False) ∧ ∀ j, (j = pj ∨ j = s ∨ j = bl ∨ Own o j) → H.length ≤ j
theorem newJ_ok (n : Nat) (hn : n ≤ 4096) : ∃ r H', Pt (kn G base w0) 9 [.int .i64 n] H r H' ∧ NewJ n H r H' := by
  refine Pt.fn (n := 12) (rs := [.tmp 2]) Try.func9 (b := _) rfl rfl rfl (by decide) ?_
  have hi : ¬ ((n : Int) < 0) := by omega
  have hi2 : ¬ ((4096 : Int) < n) := by omega
  repeat (first | with_reducible refine D.sq ?_ | with_reducible refine D.bl ?_ | with_reducible refine D.skip ?_ | with_reducible refine D.rg (T := none_) (by kernel_rfl) (by simp (maxSteps := 1000000) (disch := omega) only [rulesA, rulesB, numbered, ayield, mapO, constAV, scAV, optval, abin, aint, acmp, aconv, aun, aeq, aminmax, afieldAddr, abuild, anew, fieldPlaces, afill, setSeg, kn_P, Nat.reduceAdd, Nat.reduceMul, Nat.reducePow, Nat.reduceSub, Nat.reduceEqDiff, Nat.reduceLT, Nat.reduceLeDiff, Int.reduceEq, Int.reduceNe, Int.reduceLT, Int.reduceLE, Int.reduceAdd, Int.reduceSub, Int.reduceToNat, Int.reduceBNe, Int.reduceBEq, tyR, rulesC, List.foldlM_cons, List.foldlM_nil, if_neg hi, if_neg hi2, Option.pure_def, bind]; with_reducible rfl) ?_ | with_reducible refine D.ct2 (by simp (maxSteps := 1000000) (disch := omega) only [rulesV, numbered, constAV, scAV, Nat.reduceEqDiff, Nat.reduceLT, Nat.reduceLeDiff, rulesC, List.foldlM_cons, List.foldlM_nil, if_neg hi, if_neg hi2, Option.pure_def, bind]; with_reducible rfl) (by with_reducible rfl) ?_ | with_reducible refine D.cf2 (by simp (maxSteps := 1000000) (disch := omega) only [rulesV, numbered, constAV, scAV, Nat.reduceEqDiff, Nat.reduceLT, Nat.reduceLeDiff, rulesC, List.foldlM_cons, List.foldlM_nil, if_neg hi, if_neg hi2, Option.pure_def, bind]; with_reducible rfl) (by with_reducible rfl) ?_ | with_reducible refine D.exit ?_ | with_reducible refine D.ret ?_ | simp only [rulesK, Nat.reduceEqDiff])
  obtain ⟨r1, H1, hc, n', s, o, hn', rfl, hT, hK, hloc⟩ := call_only (κ := kn G base w0) (f := 28) (args := [.int .i64 n]) (H := H) (fun _ H r H' => NewT n H r H') (newT n)
  obtain rfl : n' = n := by omega
  have hmk : ∀ K : AHeap, amakeSlice (kn G base w0).c K 64 (.int .i64 n') (.int .i64 n') = some (.slice (.own K.length) 11 0 n', hnew K (.row 35 11 (wT.fl (List.replicate n' tk0)))) := by
    intro K
    rw [amake_eq]
    simp only [amakeSlice2, kn_P, Try.underlying64, Option.bind_some, in35, zc35]
    rw [if_pos ⟨by omega, by omega, by omega, by omega, rfl, by decide, rfl⟩, e0, ← reps_tk]
    rfl
  refine D.oneCall (T := only 28 fun _ H r H' => NewT n' H r H') 1 (by kernel_rfl) (by simp only [rulesA, rulesB, numbered, ayield, mapO, constAV, scAV, optval, abin, aint, acmp, aconv, aun, aeq, aminmax, afieldAddr, abuild, anew, fieldPlaces, afill, setSeg, kn_P, Nat.reduceAdd, Nat.reduceMul, Nat.reducePow, Nat.reduceSub, Nat.reduceEqDiff, Nat.reduceLT, Nat.reduceLeDiff, Int.reduceEq, Int.reduceNe, Int.reduceLT, Int.reduceLE, Int.reduceAdd, Int.reduceSub, Int.reduceToNat, Int.reduceBNe, Int.reduceBEq, tyR, hc, hb8, hmk, fresh, len_new]; with_reducible rfl) ⟨_, by simp only [rulesA, rulesB, numbered, ayield, mapO, constAV, scAV, optval, abin, aint, acmp, aconv, aun, aeq, aminmax, afieldAddr, abuild, anew, fieldPlaces, afill, setSeg, kn_P, Nat.reduceAdd, Nat.reduceMul, Nat.reducePow, Nat.reduceSub, Nat.reduceEqDiff, Nat.reduceLT, Nat.reduceLeDiff, Int.reduceEq, Int.reduceNe, Int.reduceLT, Int.reduceLE, Int.reduceAdd, Int.reduceSub, Int.reduceToNat, Int.reduceBNe, Int.reduceBEq, tyR, hc, hb8]; with_reducible rfl⟩ hK ?_
  repeat (first | with_reducible refine D.sq ?_ | with_reducible refine D.bl ?_ | with_reducible refine D.skip ?_ | with_reducible refine D.rg (T := none_) (by kernel_rfl) (by simp (maxSteps := 1000000) (disch := omega) only [rulesA, rulesB, numbered, ayield, mapO, constAV, scAV, optval, abin, aint, acmp, aconv, aun, aeq, aminmax, afieldAddr, abuild, anew, fieldPlaces, afill, setSeg, kn_P, Nat.reduceAdd, Nat.reduceMul, Nat.reducePow, Nat.reduceSub, Nat.reduceEqDiff, Nat.reduceLT, Nat.reduceLeDiff, Int.reduceEq, Int.reduceNe, Int.reduceLT, Int.reduceLE, Int.reduceAdd, Int.reduceSub, Int.reduceToNat, Int.reduceBNe, Int.reduceBEq, tyR, rulesC]; with_reducible rfl) ?_ | with_reducible refine D.ct2 (by simp (maxSteps := 1000000) (disch := omega) only [rulesV, numbered, constAV, scAV, Nat.reduceEqDiff, Nat.reduceLT, Nat.reduceLeDiff, rulesC]; with_reducible rfl) (by with_reducible rfl) ?_ | with_reducible refine D.cf2 (by simp (maxSteps := 1000000) (disch := omega) only [rulesV, numbered, constAV, scAV, Nat.reduceEqDiff, Nat.reduceLT, Nat.reduceLeDiff, rulesC]; with_reducible rfl) (by with_reducible rfl) ?_ | with_reducible refine D.exit ?_ | with_reducible refine D.ret ?_ | simp only [rulesK, Nat.reduceEqDiff])
  refine ⟨_, by simp only [resOf, aresult, rulesA, rulesB, numbered, ayield, mapO, constAV, scAV, optval, abin, aint, acmp, aconv, aun, aeq, aminmax, afieldAddr, abuild, anew, fieldPlaces, afill, setSeg, kn_P, Nat.reduceAdd, Nat.reduceMul, Nat.reducePow, Nat.reduceSub, Nat.reduceEqDiff, Nat.reduceLT, Nat.reduceLeDiff, Int.reduceEq, Int.reduceNe, Int.reduceLT, Int.reduceLE, Int.reduceAdd, Int.reduceSub, Int.reduceToNat, Int.reduceBNe, Int.reduceBEq, tyR]; with_reducible rfl, ?_⟩
  have hlt := fun j hj => hT.own_lt (j := j) hj
  have hKn : Keep H1 (hnew (hnew H1 (.row 35 11 (wT.fl (List.replicate n' tk0)))) (.row 66 2 [.ptr (.own s) 0, .slice (.own H1.length) 11 0 n'])) (fun _ => False) := (Keep.new _ _).trans (Keep.new _ _)
  refine ⟨H1.length + 1, s, H1.length, o, rfl, ⟨fun _ => none, List.replicate n' tk0, ⟨?_, hT.keepF hKn, ?_, by simp, by simp, by simp, List.Pairwise.nil, by omega, ⟨fun e => ?_, fun e => ?_⟩, ⟨fun e => ?_, fun e => ?_⟩⟩⟩, hK.trans hKn, fun j hj => ?_⟩
  · have := hat_nn (H := hnew H1 (.row 35 11 (wT.fl (List.replicate n' tk0)))) (.row 66 2 [.ptr (.own s) 0, .slice (.own H1.length) 11 0 n'])
    rw [len_new] at this; exact this
  · show hat _ _ = _
    rw [hat_nw _ (by rw [len_new]; omega), hat_nn]; rfl
  · have := hlt s (.inl rfl); omega
  · have := hlt _ (.inr e); omega
  · have := hlt s (.inl rfl); omega
  · have := hlt _ (.inr e); omega
  · have := hK.1
    rcases hj with rfl | rfl | rfl | hj
    · omega
    · exact hloc _ (.inl rfl)
    · omega
    · exact hloc _ (.inr hj)
/-- two rows of whole numbers compared -/
def IntsS (a b : List Int) (H : AHeap) : AV → AHeap → Prop := fun r H' => r = .bool (a == b) ∧ H' = H
theorem ints_ok {u v : AV} {a b : List Int} (hu : Sl (kn G base w0).c H u (ints a)) (hv : Sl (kn G base w0).c H v (ints b)) (hl : a.length ≤ 1000000 ∧ b.length ≤ 1000000) : ∃ r H', Pt (kn G base w0) 15 [u, v] H r H' ∧ IntsS a b H r H' := by
  refine Pt.fn (n := 26) (rs := [.tmp 4]) Try.func15 (b := _) rfl rfl rfl (by decide) ?_
  have lu := hu.len Try.underlying28
  have lv := hv.len Try.underlying28
  rw [ints_len] at lu lv
  obtain ⟨l1, l2⟩ := hl
  by_cases hlen : a.length = b.length
  rotate_left
  · have hne : (a == b) = false := by simp; intro e; exact hlen (by rw [e])
    repeat (first | with_reducible refine D.sq ?_ | with_reducible refine D.bl ?_ | with_reducible refine D.skip ?_ | with_reducible refine D.rg (T := none_) (by kernel_rfl) (by simp (maxSteps := 1000000) (disch := omega) only [rulesA, rulesB, numbered, ayield, mapO, constAV, scAV, optval, abin, aint, acmp, aconv, aun, aeq, aminmax, afieldAddr, abuild, anew, fieldPlaces, afill, setSeg, kn_P, Nat.reduceAdd, Nat.reduceMul, Nat.reducePow, Nat.reduceSub, Nat.reduceEqDiff, Nat.reduceLT, Nat.reduceLeDiff, Int.reduceEq, Int.reduceNe, Int.reduceLT, Int.reduceLE, Int.reduceAdd, Int.reduceSub, Int.reduceToNat, Int.reduceBNe, Int.reduceBEq, tyR, rulesC, lu, lv]; with_reducible rfl) ?_ | with_reducible refine D.ct2 (by simp (maxSteps := 1000000) (disch := omega) only [rulesV, numbered, constAV, scAV, Nat.reduceEqDiff, Nat.reduceLT, Nat.reduceLeDiff, rulesC, lu, lv]; with_reducible rfl) (by with_reducible rfl) ?_ | with_reducible refine D.cf2 (by simp (maxSteps := 1000000) (disch := omega) only [rulesV, numbered, constAV, scAV, Nat.reduceEqDiff, Nat.reduceLT, Nat.reduceLeDiff, rulesC, lu, lv]; with_reducible rfl) (by with_reducible rfl) ?_ | with_reducible refine D.exit ?_ | with_reducible refine D.ret ?_ | simp only [rulesK, Nat.reduceEqDiff])
    refine ⟨_, by simp only [resOf, aresult, rulesA, rulesB, numbered, ayield, mapO, constAV, scAV, optval, abin, aint, acmp, aconv, aun, aeq, aminmax, afieldAddr, abuild, anew, fieldPlaces, afill, setSeg, kn_P, Nat.reduceAdd, Nat.reduceMul, Nat.reducePow, Nat.reduceSub, Nat.reduceEqDiff, Nat.reduceLT, Nat.reduceLeDiff, Int.reduceEq, Int.reduceNe, Int.reduceLT, Int.reduceLE, Int.reduceAdd, Int.reduceSub, Int.reduceToNat, Int.reduceBNe, Int.reduceBEq, tyR]; with_reducible rfl, ?_⟩
    exact ⟨by rw [hne], rfl⟩
  repeat (first | with_reducible refine D.sq ?_ | with_reducible refine D.bl ?_ | with_reducible refine D.skip ?_ | with_reducible refine D.rg (T := none_) (by kernel_rfl) (by simp (maxSteps := 1000000) (disch := omega) only [rulesA, rulesB, numbered, ayield, mapO, constAV, scAV, optval, abin, aint, acmp, aconv, aun, aeq, aminmax, afieldAddr, abuild, anew, fieldPlaces, afill, setSeg, kn_P, Nat.reduceAdd, Nat.reduceMul, Nat.reducePow, Nat.reduceSub, Nat.reduceEqDiff, Nat.reduceLT, Nat.reduceLeDiff, Int.reduceEq, Int.reduceNe, Int.reduceLT, Int.reduceLE, Int.reduceAdd, Int.reduceSub, Int.reduceToNat, Int.reduceBNe, Int.reduceBEq, tyR, rulesC, lu, lv]; with_reducible rfl) ?_ | with_reducible refine D.ct2 (by simp (maxSteps := 1000000) (disch := omega) only [rulesV, numbered, constAV, scAV, Nat.reduceEqDiff, Nat.reduceLT, Nat.reduceLeDiff, rulesC, lu, lv]; with_reducible rfl) (by with_reducible rfl) ?_ | with_reducible refine D.cf2 (by simp (maxSteps := 1000000) (disch := omega) only [rulesV, numbered, constAV, scAV, Nat.reduceEqDiff, Nat.reduceLT, Nat.reduceLeDiff, rulesC, lu, lv]; with_reducible rfl) (by with_reducible rfl) ?_ | with_reducible refine D.exit ?_ | with_reducible refine D.ret ?_ | simp only [rulesK, Nat.reduceEqDiff])
  refine D.lp (fun m env H' => ∃ i : Nat, m = a.length - i ∧ i ≤ a.length ∧ H' = H ∧ (∀ j (h1 : j < a.length) (h2 : j < b.length), j < i → a[j] = b[j]) ∧ ELe (E 26 [(5, .int .i64 i), (0, u), (1, v)]) env) a.length
    ⟨0, by omega, by omega, rfl, fun j h1 h2 h3 => by omega, by exact E_le (by decide) (E_size _ _) (by simp only [List.forall_mem_cons, List.not_mem_nil, false_implies, implies_true, and_true, E_get, Nat.reduceEqDiff, Nat.reduceLT, Nat.reduceLeDiff, if_true, if_false, and_self, true_and] <;> first | rfl | exact ⟨rfl, rfl⟩)⟩ ?_
  rintro m env H' ⟨i, rfl, hi, rfl, hno, he⟩
  refine D.forget he ?_
  clear he
  by_cases hin : i < a.length
  rotate_left
  · have heq : a = b := List.ext_getElem hlen fun j h1 h2 => hno j h1 h2 (by omega)
    repeat (first | with_reducible refine D.sq ?_ | with_reducible refine D.bl ?_ | with_reducible refine D.skip ?_ | with_reducible refine D.rg (T := none_) (by kernel_rfl) (by simp (maxSteps := 1000000) (disch := omega) only [rulesA, rulesB, numbered, ayield, mapO, constAV, scAV, optval, abin, aint, acmp, aconv, aun, aeq, aminmax, afieldAddr, abuild, anew, fieldPlaces, afill, setSeg, kn_P, Nat.reduceAdd, Nat.reduceMul, Nat.reducePow, Nat.reduceSub, Nat.reduceEqDiff, Nat.reduceLT, Nat.reduceLeDiff, Int.reduceEq, Int.reduceNe, Int.reduceLT, Int.reduceLE, Int.reduceAdd, Int.reduceSub, Int.reduceToNat, Int.reduceBNe, Int.reduceBEq, tyR, rulesC, lu, lv]; with_reducible rfl) ?_ | with_reducible refine D.ct2 (by simp (maxSteps := 1000000) (disch := omega) only [rulesV, numbered, constAV, scAV, Nat.reduceEqDiff, Nat.reduceLT, Nat.reduceLeDiff, rulesC, lu, lv]; with_reducible rfl) (by with_reducible rfl) ?_ | with_reducible refine D.cf2 (by simp (maxSteps := 1000000) (disch := omega) only [rulesV, numbered, constAV, scAV, Nat.reduceEqDiff, Nat.reduceLT, Nat.reduceLeDiff, rulesC, lu, lv]; with_reducible rfl) (by with_reducible rfl) ?_ | with_reducible refine D.exit ?_ | with_reducible refine D.ret ?_ | simp only [rulesK, Nat.reduceEqDiff])
    refine ⟨_, by simp only [resOf, aresult, rulesA, rulesB, numbered, ayield, mapO, constAV, scAV, optval, abin, aint, acmp, aconv, aun, aeq, aminmax, afieldAddr, abuild, anew, fieldPlaces, afill, setSeg, kn_P, Nat.reduceAdd, Nat.reduceMul, Nat.reducePow, Nat.reduceSub, Nat.reduceEqDiff, Nat.reduceLT, Nat.reduceLeDiff, Int.reduceEq, Int.reduceNe, Int.reduceLT, Int.reduceLE, Int.reduceAdd, Int.reduceSub, Int.reduceToNat, Int.reduceBNe, Int.reduceBEq, tyR]; with_reducible rfl, ?_⟩
    exact ⟨by rw [heq]; simp, rfl⟩
  have hib : i < b.length := by omega
  have ia := hu.ia Try.underlying28 sz3 (i := i) (by simpa using hin) .i64
  have ib := hv.ia Try.underlying28 sz3 (i := i) (by simpa using hib) .i64
  have da := hu.ld ag3 (i := i) (by simpa using hin)
  have db := hv.ld ag3 (i := i) (by simpa using hib)
  rw [List.getElem_map] at da db
  by_cases he : a[i] = b[i]
  · repeat (first | with_reducible refine D.sq ?_ | with_reducible refine D.bl ?_ | with_reducible refine D.skip ?_ | with_reducible refine D.rg (T := none_) (by kernel_rfl) (by simp (maxSteps := 1000000) (disch := omega) only [rulesA, rulesB, numbered, ayield, mapO, constAV, scAV, optval, abin, aint, acmp, aconv, aun, aeq, aminmax, afieldAddr, abuild, anew, fieldPlaces, afill, setSeg, kn_P, Nat.reduceAdd, Nat.reduceMul, Nat.reducePow, Nat.reduceSub, Nat.reduceEqDiff, Nat.reduceLT, Nat.reduceLeDiff, Int.reduceEq, Int.reduceNe, Int.reduceLT, Int.reduceLE, Int.reduceAdd, Int.reduceSub, Int.reduceToNat, Int.reduceBNe, Int.reduceBEq, tyR, rulesC, lu, lv, ia, ib, da, db]; with_reducible rfl) ?_ | with_reducible refine D.ct2 (by simp (maxSteps := 1000000) (disch := omega) only [rulesV, numbered, constAV, scAV, Nat.reduceEqDiff, Nat.reduceLT, Nat.reduceLeDiff, rulesC, lu, lv, ia, ib, da, db]; with_reducible rfl) (by with_reducible rfl) ?_ | with_reducible refine D.cf2 (by simp (maxSteps := 1000000) (disch := omega) only [rulesV, numbered, constAV, scAV, Nat.reduceEqDiff, Nat.reduceLT, Nat.reduceLeDiff, rulesC, lu, lv, ia, ib, da, db]; with_reducible rfl) (by with_reducible rfl) ?_ | with_reducible refine D.exit ?_ | with_reducible refine D.ret ?_ | simp only [rulesK, Nat.reduceEqDiff])
    refine ⟨a.length - (i + 1), by omega, i + 1, (by first | exact rfl | exact True.intro), by omega, (by first | exact rfl | exact True.intro), fun j h1 h2 h3 => ?_, by exact E_le (by decide) (E_size _ _) (by simp only [List.forall_mem_cons, List.not_mem_nil, false_implies, implies_true, and_true, E_get, Nat.reduceEqDiff, Nat.reduceLT, Nat.reduceLeDiff, if_true, if_false, and_self, true_and] <;> first | rfl | exact ⟨rfl, rfl⟩)⟩
    by_cases e : j = i
    · subst e; exact he
    · exact hno j h1 h2 (by omega)
  · have hne : (a == b) = false := by simp; intro e; subst e; exact he rfl
    repeat (first | with_reducible refine D.sq ?_ | with_reducible refine D.bl ?_ | with_reducible refine D.skip ?_ | with_reducible refine D.rg (T := none_) (by kernel_rfl) (by simp (maxSteps := 1000000) (disch := omega) only [rulesA, rulesB, numbered, ayield, mapO, constAV, scAV, optval, abin, aint, acmp, aconv, aun, aeq, aminmax, afieldAddr, abuild, anew, fieldPlaces, afill, setSeg, kn_P, Nat.reduceAdd, Nat.reduceMul, Nat.reducePow, Nat.reduceSub, Nat.reduceEqDiff, Nat.reduceLT, Nat.reduceLeDiff, Int.reduceEq, Int.reduceNe, Int.reduceLT, Int.reduceLE, Int.reduceAdd, Int.reduceSub, Int.reduceToNat, Int.reduceBNe, Int.reduceBEq, tyR, rulesC, lu, lv, ia, ib, da, db]; with_reducible rfl) ?_ | with_reducible refine D.ct2 (by simp (maxSteps := 1000000) (disch := omega) only [rulesV, numbered, constAV, scAV, Nat.reduceEqDiff, Nat.reduceLT, Nat.reduceLeDiff, rulesC, lu, lv, ia, ib, da, db]; with_reducible rfl) (by with_reducible rfl) ?_ | with_reducible refine D.cf2 (by simp (maxSteps := 1000000) (disch := omega) only [rulesV, numbered, constAV, scAV, Nat.reduceEqDiff, Nat.reduceLT, Nat.reduceLeDiff, rulesC, lu, lv, ia, ib, da, db]; with_reducible rfl) (by with_reducible rfl) ?_ | with_reducible refine D.exit ?_ | with_reducible refine D.ret ?_ | simp only [rulesK, Nat.reduceEqDiff])
    refine ⟨_, by simp only [resOf, aresult, rulesA, rulesB, numbered, ayield, mapO, constAV, scAV, optval, abin, aint, acmp, aconv, aun, aeq, aminmax, afieldAddr, abuild, anew, fieldPlaces, afill, setSeg, kn_P, Nat.reduceAdd, Nat.reduceMul, Nat.reducePow, Nat.reduceSub, Nat.reduceEqDiff, Nat.reduceLT, Nat.reduceLeDiff, Int.reduceEq, Int.reduceNe, Int.reduceLT, Int.reduceLE, Int.reduceAdd, Int.reduceSub, Int.reduceToNat, Int.reduceBNe, Int.reduceBEq, tyR]; with_reducible rfl, ?_⟩
    exact ⟨by rw [hne], rfl⟩
end Go.Proofs.Ytecfofmndpgnjaa.sy

/- jobs.Jobs (own work): deeds over a table that lies above a mark. -/
namespace Go.Proofs.Ytecfofmndpgnjaa.sy
open Go.AM Go.AM.Hp Go.AM.Jb
set_option linter.unusedSimpArgs false
set_option linter.unusedVariables false
variable {G : List Nat → Option (List AV)} {base : Nat} {w0 : World}
set_option maxRecDepth 100000
theorem hJ9 : hasBody Try.prog 9 = true := by kernel_rfl
theorem hJ10 : hasBody Try.prog 10 = true := by kernel_rfl
theorem hJ11 : hasBody Try.prog 11 = true := by kernel_rfl
theorem hJ12 : hasBody Try.prog 12 = true := by kernel_rfl
theorem hJ13 : hasBody Try.prog 13 = true := by kernel_rfl
theorem hJ15 : hasBody Try.prog 15 = true := by kernel_rfl
theorem hJ16 : hasBody Try.prog 16 = true := by kernel_rfl
theorem hJ20 : hasBody Try.prog 20 = true := by kernel_rfl
theorem hJ25 : hasBody Try.prog 25 = true := by kernel_rfl
theorem hJ8 : hasBody Try.prog 8 = true := by kernel_rfl
variable {H : AHeap} {pj s bl k lo : Nat} {o : Tb} {ts : List Tk}
def JB (H : AHeap) (pj s bl k lo : Nat) (ts : List Tk) : Prop := lo ≤ H.length ∧ ∃ o, JS H pj s bl k o ts ∧ ∀ j, (j = pj ∨ j = s ∨ j = bl ∨ Own o j) → lo ≤ j
def Low (lo : Nat) (H H' : AHeap) : Prop := ∀ j, j < lo → hat H' j = hat H j
theorem JB.step {H' : AHeap} {ts' : List Tk} {o o' : Tb} (hl : lo ≤ H.length) (hlo : ∀ j, (j = pj ∨ j = s ∨ j = bl ∨ Own o j) → lo ≤ j) (hs : JS H' pj s bl k o' ts') (hk : Kp H H' bl o o') : JB H' pj s bl k lo ts' ∧ Low lo H H' := by
  refine ⟨⟨Nat.le_trans hl hk.keep.1, o', hs, fun j hj => ?_⟩, fun j hj => hk.keep.2 j (by omega) fun e => ?_⟩
  · rcases hj with e | e | e | e
    · exact hlo j (.inl e)
    · exact hlo j (.inr (.inl e))
    · exact hlo j (.inr (.inr (.inl e)))
    · rcases hk.own j e with e | e
      · exact hlo j (.inr (.inr (.inr e)))
      · omega
  · rcases e with e | e
    · have := hlo j (.inr (.inr (.inl e))); omega
    · have := hlo j (.inr (.inr (.inr e))); omega
theorem JB.keepF (h : JB H pj s bl k lo ts) {H' : AHeap} (hk : Keep H H' (fun _ => False)) : JB H' pj s bl k lo ts := by
  obtain ⟨hl, o, hs, hlo⟩ := h
  exact ⟨Nat.le_trans hl hk.1, o, hs.keepF hk, hlo⟩
theorem JB.srt (h : JB H pj s bl k lo ts) : Srt ts := by obtain ⟨_, o, ⟨f, gs, hx⟩, _⟩ := h; exact hx.srt
theorem newB (n : Nat) (hn : n ≤ 4096) (H : AHeap) : ∃ r H', Pt (kn G base w0) 9 [.int .i64 n] H r H' ∧ (∃ pj s bl, r = .ptr (.own pj) 0 ∧ JB H' pj s bl n H.length [] ∧ Low H.length H H') := by
  obtain ⟨r, H', hp, pj, s, bl, o, rfl, hs, hk, hlo⟩ := newJ_ok (G := G) (base := base) (w0 := w0) (H := H) n hn
  exact ⟨_, H', hp, pj, s, bl, rfl, ⟨hk.1, o, hs, hlo⟩, fun j hj => hk.2 j hj fun e => e⟩
theorem joinB (h : JB H pj s bl k lo ts) {id e p : Int} (sp : Bool) (hid : -9223372036854775808 ≤ id ∧ id ≤ 9223372036854775807) : ∃ r H', Pt (kn G base w0) 10 [.ptr (.own pj) 0, .int .i64 id, .int .i64 e, .int .i64 p, .bool sp] H r H' ∧ (r = .int .i64 (tjoin k ts id e p sp).2 ∧ JB H' pj s bl k lo (tjoin k ts id e p sp).1 ∧ Low lo H H') := by
  obtain ⟨hl, o, ⟨f, gs, hx⟩, hlo⟩ := h
  obtain ⟨r, H', hp, rfl, o', hs, hk⟩ := join_ok (G := G) (base := base) (w0 := w0) hx sp hid (e := e) (p := p)
  exact ⟨_, H', hp, rfl, JB.step hl hlo hs hk⟩
theorem arriveB (h : JB H pj s bl k lo ts) (id : Int) : ∃ r H', Pt (kn G base w0) 16 [.ptr (.own pj) 0, .int .i64 id] H r H' ∧ (r = .int .i64 (tarrive ts id).2 ∧ JB H' pj s bl k lo (tarrive ts id).1 ∧ Low lo H H') := by
  obtain ⟨hl, o, ⟨f, gs, hx⟩, hlo⟩ := h
  obtain ⟨r, H', hp, rfl, o', hs, hk⟩ := arrive_ok (G := G) (base := base) (w0 := w0) hx id
  exact ⟨_, H', hp, rfl, JB.step hl hlo hs hk⟩
theorem leaveB (h : JB H pj s bl k lo ts) (id : Int) : ∃ r H', Pt (kn G base w0) 13 [.ptr (.own pj) 0, .int .i64 id] H r H' ∧ (r = .tuple [.bool (tleave ts id).2.1, .int .i64 (tleave ts id).2.2] ∧ JB H' pj s bl k lo (tleave ts id).1 ∧ Low lo H H') := by
  obtain ⟨hl, o, ⟨f, gs, hx⟩, hlo⟩ := h
  obtain ⟨r, H', hp, rfl, o', hs, hk⟩ := leave_ok (G := G) (base := base) (w0 := w0) hx id
  exact ⟨_, H', hp, rfl, JB.step hl hlo hs hk⟩
theorem releaseB (h : JB H pj s bl k lo ts) {m clock : Int} (hok : Ok m ts) (hm : 0 ≤ m ∧ m ≤ 1000000) : ∃ r H', Pt (kn G base w0) 11 [.ptr (.own pj) 0, .int .i64 clock] H r H' ∧ (Sl (kn G base w0).c H' r (ints (relIds ts)) ∧ (∀ b, r.at? = some b → H.length ≤ b) ∧ JB H' pj s bl k lo (trel clock ts) ∧ Low lo H H') := by
  obtain ⟨hl, o, ⟨f, gs, hx⟩, hlo⟩ := h
  obtain ⟨r, H', hp, hO, hb, hs, hk⟩ := release_ok (G := G) (base := base) (w0 := w0) hx (clock := clock) hok hm
  exact ⟨r, H', hp, hO.sl, fun b h => (hb b h).1, JB.step hl hlo hs ⟨hk, fun _ => .inl⟩⟩
theorem settleB (h : JB H pj s bl k lo ts) {m clock : Int} (hok : Ok m ts) : ∃ r H', Pt (kn G base w0) 12 [.ptr (.own pj) 0, .int .i64 clock] H r H' ∧ (∃ v, r = .tuple [v, .int .i64 (missN clock ts : Nat)] ∧ Sl (kn G base w0).c H' v (ints (goneIds clock ts)) ∧ JB H' pj s bl k lo (tsettle clock ts) ∧ Low lo H H') := by
  obtain ⟨hl, o, ⟨f, gs, hx⟩, hlo⟩ := h
  obtain ⟨r, H', hp, v, o', rfl, hO, hb, hs, hk⟩ := settle_ok (G := G) (base := base) (w0 := w0) hx (clock := clock) hok
  exact ⟨_, H', hp, v, rfl, hO.sl, JB.step hl hlo hs hk⟩
theorem taskB (h : JB H pj s bl k lo ts) (id : Int) : ∃ r H', Pt (kn G base w0) 14 [.ptr (.own pj) 0, .int .i64 id] H r H' ∧ (((tf ts id = none ∧ r = .tuple [.agg (encT tk0), .bool false]) ∨ ∃ t, tf ts id = some t ∧ r = .tuple [.agg (encT t), .bool true]) ∧ Keep H H' (fun _ => False)) := by
  obtain ⟨hl, o, ⟨f, gs, hx⟩, hlo⟩ := h
  obtain ⟨r, H', hp, ⟨u, rfl⟩, hr⟩ := task_ok (G := G) (base := base) (w0 := w0) hx id
  exact ⟨r, _, hp, hr, Keep.new _ _⟩
end Go.Proofs.Ytecfofmndpgnjaa.sy

/-
  WHAT IS KNOWN OVER PART OF A HEAP holds over all of it (own work): a call that turns nothing and tells nothing new.
-/
namespace Go.AM
open Go.RowKit
set_option linter.unusedVariables false
variable {κ : Kn} {H : AHeap} {f : FuncId} {args : List AV} {v : AV}
/-- what is made and not told is dropped -/
theorem Pt.shrink {H' : AHeap} (h : Pt κ f args H v H') (hv : v.low H.length = true) (hk : H'.take H.length = H) : Pt κ f args H v H := by
  intro ρ w xs hr hf hx
  refine (h ρ w xs hr hf hx).mono ?_
  rintro e w' ⟨ρ', x, rfl, hvr, hp⟩
  refine ⟨ρ, x, rfl, VR.restrict (fun l p hl hlow => ?_) hv hvr, hp.shrink hr hk⟩
  rcases hp.new l p hl with hl | ⟨i, rfl, hi, _⟩
  · exact hl
  · simp [Loc.low] at hlow; omega
theorem Pt.frame {V : AHeap} (h : Pt κ f args V v V) (hV : V.length = H.length) (hsub : ∀ i o, hat V i = some o → hat H i = some o) (hl : heapLow H.length V = true) (ha : AV.lows H.length args = true) (hv : v.low H.length = true) : Pt κ f args H v H := by
  intro ρ w xs hr hf hx
  have hrel := rel_part hr hf (Ext.refl ρ) (Nat.le_refl _) hr hsub hl hV
  have hfr : Fresh (AM.cut H.length ρ) V := fun i hi => by
    unfold AM.cut
    rw [if_neg]
    simp [Loc.low]; omega
  refine (h _ w xs hrel hfr (VRs.restrict (n := H.length) (fun l p e hlow => by simp [AM.cut, hlow, e]) ha hx)).mono ?_
  rintro e w' ⟨ρ', x, rfl, hvr, hp⟩
  obtain ⟨p1, p2, p3⟩ := post_part (A' := H) hr hf (Nat.le_refl _) (Post.refl hr) hsub hl hV hp (by rw [List.take_of_length_le (by omega)]) (fun i h1 h2 => by omega) (fun i o => ⟨.inl, fun e => by
    rcases e with e | ⟨h1, e⟩
    · exact e
    · exact hsub i o e⟩) rfl (by omega)
  exact ⟨_, x, rfl, hvr.mono p3, p1⟩
/-- a run by the kernel over places of which nothing is known -/
def trueOver (n : Nat) : Option (AV × AHeap) → Bool
  | some (.bool b, H) => b && heapEq (H.take n) (List.replicate n none)
  | _ => false
theorem Pt.over {n k : Nat} {pr : Prims} (hp : PrimsOK κ.c κ.base κ.w0 pr) (h : trueOver n (acall κ.c drawRunB gcCall pr k f [] (List.replicate n none)) = true) (hn : H.length = n) : Pt κ f [] H (.bool true) H := by
  unfold trueOver at h
  split at h
  · rename_i b H' he
    simp only [Bool.and_eq_true] at h
    obtain ⟨rfl, h2⟩ := h
    have p1 := Pt.run (κ := κ) hp he
    have p2 := p1.shrink rfl (by rw [List.length_replicate]; exact heapEq_eq h2)
    refine p2.frame (by simp [hn]) (fun i o e => ?_) (heapLow_iff.2 fun o ho => ?_) rfl rfl
    · unfold hat at e
      rw [List.getElem?_replicate] at e
      split at e
      · rename_i hh; split at hh <;> cases hh; cases e
      · cases e
    · simp at ho
  · cases h
end Go.AM

/-
  WHAT CAME IN (own work): the abstract machine's view of the memory ahead of a call: each slice that came in is a row told by its address; what reads as a type is a row of the machine's values.
-/
namespace Go.AM
open Go.RowKit Go.ChangeShapes Go.WideShapes Go.Deep
set_option linter.unusedVariables false
set_option linter.unusedSimpArgs false

/-- the types of an element's cells -/
def ctys (P : Program) : Nat → TypeId → List TypeId
  | 0, t => [t]
  | k + 1, t => match P.underlying t with
    | some (.struct fs) => fs.toList.flatMap fun f => ctys P k f.type
    | _ => [t]

/-- one cell, by its type -/
def cellAV (P : Program) (t : TypeId) (x : Value) : Option AV := match P.underlying t with
  | some (.slice e) => match x with
    | .slice none 0 0 => some .nilslice
    | .slice (some a) len cap => if cap = 0 then (if len = 0 then some (.odd a) else none) else if len ≤ cap ∧ a.spot = none then some (.slice (.ext [1, a.block, a.off, cap, e]) (ctys P 8 e).length 0 len) else none
    | _ => none
  | _ => scAV x

def cellsFrom (P : Program) (w : World) (b off : Nat) (ts : List TypeId) : Nat → Nat → List AV
  | 0, _ => []
  | k + 1, j => match (w.cell? ⟨b, off + j, none⟩).bind (cellAV P (ts.getD (j % ts.length) 0)) with
    | some v => if v.one then v :: cellsFrom P w b off ts k (j + 1) else []
    | none => []

def decG (P : Program) (w : World) : List Nat → Option (List AV)
  | [1, b, off, cap, e] => if b < w.heap.size then some (cellsFrom P w b off (ctys P 8 e) (cap * (ctys P 8 e).length) 0) else none
  | _ => none

def plA : Pl := fun l => match l with
  | .ext [0, g] => some ⟨g, 0, 0⟩
  | .ext [1, b, off, cap, _] => some ⟨b, off, cap⟩
  | _ => none

theorem cellAV_VR {P : Program} {t : TypeId} {x : Value} {v : AV} (h : cellAV P t x = some v) : VR plA v x := by
  unfold cellAV at h
  split at h
  · split at h
    · cases h; rfl
    · split at h
      · split at h
        · rename_i h0 h1; cases h; subst h0; subst h1; rfl
        · cases h
      · split at h
        · rename_i a len cap hc hl
          cases h
          refine ⟨⟨a.block, a.off, cap⟩, rfl, by simpa using hl.1, ?_⟩
          obtain ⟨b, o, s⟩ := a
          simp only at hl
          rw [hl.2]
          simp
        · cases h
    · cases h
  · exact scAV_sound h

theorem cellsFrom_get {P : Program} {w : World} {b off : Nat} {ts : List TypeId} : ∀ (k j0 j : Nat) (v : AV), (cellsFrom P w b off ts k j0)[j]? = some v → ∃ x, w.cell? ⟨b, off + (j0 + j), none⟩ = some x ∧ VR plA v x ∧ v.one = true
  | 0, j0, j, v, h => by simp [cellsFrom] at h
  | k + 1, j0, j, v, h => by
    unfold cellsFrom at h
    split at h
    · rename_i u hu
      split at h
      · rename_i h1
        cases j with
        | zero =>
          simp at h; subst h
          obtain ⟨x, hx, hv⟩ := Option.bind_eq_some_iff.1 hu
          exact ⟨x, hx, cellAV_VR hv, h1⟩
        | succ j =>
          simp at h
          have := cellsFrom_get k (j0 + 1) j v h
          rw [show j0 + (j + 1) = j0 + 1 + j by omega]
          exact this
      · simp at h
    · simp at h

theorem cellsFrom_all {P : Program} {w : World} {b off : Nat} {ts : List TypeId} {vs : List AV} : ∀ (k j0 : Nat), vs.length ≤ k → (∀ j (h : j < vs.length), ∃ x, w.cell? ⟨b, off + (j0 + j), none⟩ = some x ∧ cellAV P (ts.getD ((j0 + j) % ts.length) 0) x = some vs[j] ∧ vs[j].one = true) → (cellsFrom P w b off ts k j0).take vs.length = vs := by
  induction vs with
  | nil => intro k j0 _ _; rfl
  | cons v r ih =>
    intro k j0 hk h
    cases k with
    | zero => simp at hk
    | succ k =>
      obtain ⟨x, h1, h2, h3⟩ := h 0 (by simp)
      simp only [Nat.add_zero, List.getElem_cons_zero] at h1 h2 h3
      have : cellsFrom P w b off ts (k + 1) j0 = v :: cellsFrom P w b off ts k (j0 + 1) := by
        rw [cellsFrom, h1, Option.bind_some, h2]
        simp [h3]
      rw [this]
      simp only [List.length_cons, List.take_succ_cons, List.cons.injEq, true_and]
      refine ih k (j0 + 1) (by simpa using hk) fun j hj => ?_
      have := h (j + 1) (by simp; omega)
      simp only [List.getElem_cons_succ] at this
      rw [show j0 + 1 + j = j0 + (j + 1) by omega]
      exact this

def argC (P : Program) (w : World) : Ctx := { P, G := decG P w }
theorem relA (P : Program) (w : World) : Rel (argC P w) w.heap.size w plA [] w where
  below := Below.refl _ _
  size := Nat.le_refl _
  own := fun i o h => by simp [hat] at h
  inj := fun i j o o' p q h => by simp [hat] at h
  ext := fun path cells h => by
    change decG P w path = some cells at h
    unfold decG at h
    split at h
    · rename_i b off cap e
      split at h
      · rename_i hb
        cases h
        refine ⟨⟨b, off, cap⟩, rfl, hb, fun j v hj => ?_⟩
        have := cellsFrom_get _ _ _ _ hj
        simpa using this
      · cases h
    · cases h
  glob := fun g => ⟨0, rfl⟩
theorem freshA : Fresh plA [] := fun _ _ => rfl

section
variable {H : Type} {enc : TypeId × Value → H} {P : Program} {w : World} {base : Nat} {spare : Nat → Bool} {held : Bool}

/-- what reads as the type t is these cells, and they are as told -/
def OpA (enc : TypeId × Value → H) (P : Program) (w : World) (base : Nat) (spare : Nat → Bool) (held : Bool) (t : TypeId) (Good : List AV → Prop) : Prop :=
  ∀ fuel cs x, DataW.trod enc P w base spare held fuel t cs = some x → ∃ vs, vs.length = (ctys P 8 t).length ∧ cs.length = (ctys P 8 t).length ∧ Good vs ∧
    ∀ j (h : j < vs.length), ∃ y, cs[j]? = some y ∧ cellAV P ((ctys P 8 t).getD j 0) y = some vs[j] ∧ vs[j].one = true

theorem ctys_one {t : TypeId} {d : TypeDesc} (ht : P.underlying t = some d) (hn : ∀ fs, d ≠ .struct fs) : ctys P 8 t = [t] := by
  unfold ctys
  rw [ht]
  cases d <;> first | rfl | exact absurd rfl (hn _)

theorem opA_int {t : TypeId} {k : IntKind} (ht : P.underlying t = some (.int k)) : OpA enc P w base spare held t (fun vs => ∃ n, vs = [.int k n] ∧ (Lit.int k n).wf = true) := by
  intro fuel cs x h
  obtain ⟨n, rfl, _, hw⟩ := DataW.trod_int ht h
  rw [ctys_one ht (by simp)]
  refine ⟨[.int k n], rfl, rfl, ⟨n, rfl, hw⟩, fun j hj => ?_⟩
  obtain rfl : j = 0 := by simp at hj; omega
  exact ⟨_, rfl, by simp [cellAV, ht, scAV], rfl⟩
theorem opA_bool {t : TypeId} (ht : P.underlying t = some .bool) : OpA enc P w base spare held t (fun vs => ∃ b, vs = [.bool b]) := by
  intro fuel cs x h
  obtain ⟨n, rfl, _⟩ := DataW.trod_bool ht h
  rw [ctys_one ht (by simp)]
  refine ⟨[.bool n], rfl, rfl, ⟨n, rfl⟩, fun j hj => ?_⟩
  obtain rfl : j = 0 := by simp at hj; omega
  exact ⟨_, rfl, by simp [cellAV, ht, scAV], rfl⟩

/-- a slice that came in: its elements -/
def SlG (P : Program) (w : World) (v : AV) (k n : Nat) (Good : List AV → Prop) : Prop :=
  ((v = .nilslice ∨ ∃ a, v = .odd a) ∧ n = 0) ∨ ∃ path cs, v = .slice (.ext path) k 0 n ∧ decG P w path = some cs ∧ n * k ≤ cs.length ∧ ∀ i, i < n → Good ((cs.drop (i * k)).take k)

theorem opA_slice {t e : TypeId} {GoodE : List AV → Prop} (ht : P.underlying t = some (.slice e)) (hc : P.cellsOf e = (ctys P 8 e).length) (hk : 0 < (ctys P 8 e).length) (hsp : ∀ k, spare k = true) (he : OpA enc P w base spare held e GoodE) :
    OpA enc P w base spare held t (fun vs => ∃ v n, vs = [v] ∧ SlG P w v (ctys P 8 e).length n GoodE) := by
  intro fuel cs x h
  rw [ctys_one ht (by simp)]
  rcases open_slice ht h with ⟨rfl, _⟩ | ⟨a, len, cap, m, n, D, Pl, rfl, hb, hl, hm, hmm, hx, hi⟩
  · refine ⟨[.nilslice], rfl, rfl, ⟨_, 0, rfl, .inl ⟨.inl rfl, rfl⟩⟩, fun j hj => ?_⟩
    obtain rfl : j = 0 := by simp at hj; omega
    exact ⟨_, rfl, by simp [cellAV, ht], rfl⟩
  · rw [hsp, if_pos rfl] at hmm
    subst hmm
    rcases Nat.eq_zero_or_pos m with h0 | h0
    · subst h0
      obtain rfl : len = 0 := by omega
      refine ⟨[.odd a], rfl, rfl, ⟨_, 0, rfl, .inl ⟨.inr ⟨a, rfl⟩, rfl⟩⟩, fun j hj => ?_⟩
      obtain rfl : j = 0 := by simp at hj; omega
      exact ⟨_, rfl, by simp [cellAV, ht], rfl⟩
    · rw [hc] at hi
      generalize hK : (ctys P 8 e).length = K at hk hi he
      have hel : ∀ i, i < m → ∃ vs : List AV, vs.length = K ∧ GoodE vs ∧ ∀ j (h : j < vs.length), ∃ y, w.cell? (a.add (i * K + j)) = some y ∧ cellAV P ((ctys P 8 e).getD j 0) y = some vs[j] ∧ vs[j].one = true := by
        intro i him
        obtain ⟨cs', hcs, ht'⟩ := hi i him
        obtain ⟨_, hcl, hat⟩ := World.cells?_some hcs
        obtain ⟨vs, g1, g2, g3, g4⟩ := he _ _ _ ht'
        rw [hK] at g1 g2
        refine ⟨vs, g1, g3, fun j hj => ?_⟩
        obtain ⟨y, hy, hcy, ho⟩ := g4 j hj
        exact ⟨y, by rw [← Go.Deep.add_add, hat j (by omega), hy], hcy, ho⟩
      have hspot : a.spot = none ∧ a.block < w.heap.size := by
        obtain ⟨vs, g1, _, g4⟩ := hel 0 h0
        obtain ⟨y, hy, _⟩ := g4 0 (by omega)
        have hy' : w.cell? a = some y := by simpa [Addr.add] using hy
        have hlt := World.block_lt_of_cell? w a hy'
        refine ⟨?_, hlt⟩
        cases hs : a.spot with
        | none => rfl
        | some s =>
          unfold World.cell? at hy'
          split at hy'
          · simp [hs] at hy'
          · cases hy'
      obtain ⟨ab, ao, asp⟩ := a
      simp only at hspot
      obtain ⟨rfl, hblt⟩ := hspot
      have hadd : ∀ k, (⟨ab, ao, none⟩ : Addr).add k = ⟨ab, ao + k, none⟩ := by
        intro k
        unfold Addr.add
        split
        · rename_i hk0; subst hk0; rfl
        · rfl
      have hall : ∀ q, q ≤ m → ∃ vs : List AV, vs.length = q * K ∧ (∀ i, i < q → GoodE ((vs.drop (i * K)).take K)) ∧ ∀ j (h : j < vs.length), ∃ y, w.cell? ⟨ab, ao + j, none⟩ = some y ∧ cellAV P ((ctys P 8 e).getD (j % K) 0) y = some vs[j] ∧ vs[j].one = true := by
        intro q
        induction q with
        | zero => intro _; exact ⟨[], by simp, fun i h => by omega, fun j h => by simp at h⟩
        | succ q ih =>
          intro hq
          obtain ⟨vs, v1, v2, v3⟩ := ih (by omega)
          obtain ⟨us, u1, u2, u3⟩ := hel q (by omega)
          refine ⟨vs ++ us, by rw [List.length_append, v1, u1, Nat.succ_mul], fun i hi => ?_, fun j hj => ?_⟩
          · rcases Nat.lt_or_ge i q with h | h
            · have h2 : i * K + K ≤ q * K := by rw [← Nat.succ_mul]; exact Nat.mul_le_mul_right _ h
              rw [List.drop_append_of_le_length (by omega), List.take_append_of_le_length (by simp; omega)]
              exact v2 i h
            · obtain rfl : i = q := by omega
              rw [List.drop_append, ← v1]
              simp only [List.drop_length, Nat.sub_self, List.nil_append, List.drop_zero]
              rw [← u1, List.take_length]
              exact u2
          · rcases Nat.lt_or_ge j vs.length with h | h
            · obtain ⟨y, y1, y2, y3⟩ := v3 j h
              refine ⟨y, y1, ?_, ?_⟩
              · rw [List.getElem_append_left h]; exact y2
              · rw [List.getElem_append_left h]; exact y3
            · have hjl : j - vs.length < us.length := by simp at hj; omega
              obtain ⟨y, y1, y2, y3⟩ := u3 (j - vs.length) hjl
              rw [hadd] at y1
              have e1 : q * K + (j - vs.length) = j := by omega
              rw [e1] at y1
              have e2 : j % K = j - vs.length := by
                have e3 : (q * K + (j - vs.length)) % K = j - vs.length := by rw [Nat.mul_comm, Nat.mul_add_mod, Nat.mod_eq_of_lt (by omega)]
                rwa [e1] at e3
              refine ⟨y, y1, ?_, ?_⟩
              · rw [List.getElem_append_right h, e2]; exact y2
              · rw [List.getElem_append_right h]; exact y3
      obtain ⟨vs, v1, v2, v3⟩ := hall len hl
      refine ⟨[.slice (.ext [1, ab, ao, m, e]) K 0 len], rfl, rfl, ⟨_, len, rfl, .inr ⟨_, _, rfl, by simp only [decG]; rw [if_pos hblt], ?_, ?_⟩⟩, fun j hj => ?_⟩
      · have ht' := cellsFrom_all (P := P) (w := w) (b := ab) (off := ao) (ts := ctys P 8 e) (vs := vs) (m * K) 0 (by rw [v1]; exact Nat.mul_le_mul_right _ hl) (fun j h => by
          obtain ⟨y, y1, y2, y3⟩ := v3 j h
          rw [hK]
          simp only [Nat.zero_add]
          exact ⟨y, y1, y2, y3⟩)
        have := congrArg List.length ht'
        rw [List.length_take, v1] at this
        rw [hK]
        omega
      · intro i hi'
        have ht' := cellsFrom_all (P := P) (w := w) (b := ab) (off := ao) (ts := ctys P 8 e) (vs := vs) (m * K) 0 (by rw [v1]; exact Nat.mul_le_mul_right _ hl) (fun j h => by
          obtain ⟨y, y1, y2, y3⟩ := v3 j h
          rw [hK]
          simp only [Nat.zero_add]
          exact ⟨y, y1, y2, y3⟩)
        have h3 := v2 i hi'
        rw [hK]
        rw [← ht', v1, List.drop_take, List.take_take] at h3
        have h2 : i * K + K ≤ len * K := by rw [← Nat.succ_mul]; exact Nat.mul_le_mul_right _ hi'
        rw [Nat.min_eq_left (by omega)] at h3
        exact h3
      · obtain rfl : j = 0 := by simp at hj; omega
        refine ⟨_, rfl, ?_, rfl⟩
        simp only [List.getD_cons_zero, cellAV, ht]
        rw [if_neg (by omega), if_pos ⟨hl, by trivial⟩, hK]
        rfl

/-- a slice that came in, as a list of its elements' values (one cell each) -/
theorem SlG.sl {v : AV} {n : Nat} {Good : List AV → Prop} (h : SlG P w v 1 n Good) : ∃ xs : List AV, xs.length = n ∧ v.at? = none ∧ (∀ K : AHeap, Sl (argC P w) K v xs) ∧ ∀ x ∈ xs, Good [x] := by
  rcases h with ⟨hv, rfl⟩ | ⟨path, cs, rfl, hG, hl, hg⟩
  · refine ⟨[], rfl, ?_, fun K => .inl ⟨hv, rfl⟩, by simp⟩
    rcases hv with rfl | ⟨a, rfl⟩ <;> rfl
  · refine ⟨cs.take n, by simp; omega, rfl, fun K => .inr ⟨.ext path, 0, by simp; omega, fun _ => ⟨cs, hG, by simp⟩⟩, fun x hx => ?_⟩
    obtain ⟨i, hi, rfl⟩ := List.getElem_of_mem hx
    have hin : i < n := by simp at hi; omega
    have := hg i hin
    have e : (cs.drop i).take 1 = [cs[i]] := by rw [List.drop_eq_getElem_cons (by omega)]; rfl
    rw [Nat.mul_one, e] at this
    simpa using this
theorem SlG.ints {v : AV} {n : Nat} {k : IntKind} {ok : Int → Prop} (h : SlG P w v 1 n (fun vs => ∃ n, vs = [AV.int k n] ∧ ok n)) : ∃ zs : List Int, zs.length = n ∧ v.at? = none ∧ (∀ K : AHeap, Sl (argC P w) K v (zs.map (AV.int k))) ∧ ∀ z ∈ zs, ok z := by
  obtain ⟨xs, h1, h2, h3, h4⟩ := h.sl
  have : ∃ zs : List Int, xs = zs.map (AV.int k) ∧ ∀ z ∈ zs, ok z := by
    clear h1 h3
    induction xs with
    | nil => exact ⟨[], rfl, by simp⟩
    | cons x r ih =>
      obtain ⟨zs, rfl, hz⟩ := ih (fun y hy => h4 y (by simp [hy]))
      obtain ⟨n, hn, hok⟩ := h4 x (by simp)
      simp at hn
      exact ⟨n :: zs, by simp [hn], by intro z hz'; rcases List.mem_cons.1 hz' with rfl | e; exact hok; exact hz z e⟩
  obtain ⟨zs, rfl, hz⟩ := this
  exact ⟨zs, by simpa using h1, h2, h3, hz⟩

/-- an argument of one cell -/
theorem argA {t : TypeId} {Good : List AV → Prop} (ho : OpA enc P w base spare held t Good) (h1 : ctys P 8 t = [t]) {v : Value} {dd : DataW H} {ps : List MemPlace} (h : DataW.Trod enc P w base spare held t v dd ps) (hc : v.cells = #[v]) : ∃ u, VR plA u v ∧ Good [u] := by
  obtain ⟨fuel, hf⟩ := h
  obtain ⟨vs, g1, g2, g3, g4⟩ := ho _ _ _ hf
  rw [h1] at g1
  match vs, g1 with
  | [u], _ =>
    obtain ⟨y, hy, hcy, _⟩ := g4 0 (by simp)
    rw [hc] at hy
    simp at hy
    subst hy
    exact ⟨u, cellAV_VR hcy, g3⟩
end
end Go.AM

/-
  WHAT CAME IN, MORE (own work): structs of two whole numbers, and slices of them.
-/
namespace Go.AM
open Go.RowKit Go.ChangeShapes Go.WideShapes Go.Deep
set_option linter.unusedVariables false
set_option linter.unusedSimpArgs false
section
variable {H : Type} {enc : TypeId × Value → H} {P : Program} {w : World} {base : Nat} {spare : Nat → Bool} {held : Bool}
theorem opA_pair {t : TypeId} {f0 f1 : Field} {k0 k1 : IntKind} (ht : P.underlying t = some (.struct #[f0, f1])) (h0 : P.underlying f0.type = some (.int k0)) (h1 : P.underlying f1.type = some (.int k1))
    (c2 : P.cellsOf t = 2) (c0 : P.cellsOf f0.type = 1) (c1 : P.cellsOf f1.type = 1) (o0 : f0.offset = 0) (o1 : f1.offset = 1) (hct : ctys P 8 t = [f0.type, f1.type]) :
    OpA enc P w base spare held t (fun vs => ∃ a b, vs = [.int k0 a, .int k1 b] ∧ (Lit.int k0 a).wf = true ∧ (Lit.int k1 b).wf = true) := by
  intro fuel cs x h
  obtain ⟨y0, y1, n, _, hl, g0, g1⟩ := trod_struct2 ht h
  obtain ⟨a, ha, _, wa⟩ := DataW.trod_int h0 g0
  obtain ⟨b, hb, _, wb⟩ := DataW.trod_int h1 g1
  rw [o0, c0, List.drop_zero] at ha
  rw [o1, c1] at hb
  rw [c2] at hl
  rw [hct]
  match cs, hl with
  | [u, v], _ =>
    simp at ha hb
    subst ha hb
    refine ⟨[.int k0 a, .int k1 b], rfl, rfl, ⟨a, b, rfl, wa, wb⟩, fun j hj => ?_⟩
    match j, hj with
    | 0, _ => exact ⟨_, rfl, by simp [cellAV, h0, scAV], rfl⟩
    | 1, _ => exact ⟨_, rfl, by simp [cellAV, h1, scAV], rfl⟩
/-- a slice of pairs that came in -/
theorem SlG.pairs {v : AV} {n : Nat} {k0 k1 : IntKind} {p0 p1 : Int → Prop} (h : SlG P w v 2 n (fun vs => ∃ a b, vs = [AV.int k0 a, AV.int k1 b] ∧ p0 a ∧ p1 b)) :
    ∃ zs : List (Int × Int), zs.length = n ∧ v.at? = none ∧ (∀ z ∈ zs, p0 z.1 ∧ p1 z.2) ∧ ((n = 0 ∧ (v = .nilslice ∨ ∃ a, v = .odd a)) ∨ ∃ path cs, v = .slice (.ext path) 2 0 n ∧ decG P w path = some cs ∧ ∀ i (hi : i < zs.length), i * 2 + 2 ≤ cs.length ∧ (cs.drop (i * 2)).take 2 = [AV.int k0 zs[i].1, AV.int k1 zs[i].2]) := by
  rcases h with ⟨hv, rfl⟩ | ⟨path, cs, rfl, hG, hl, hg⟩
  · refine ⟨[], rfl, ?_, by simp, .inl ⟨rfl, hv⟩⟩
    rcases hv with rfl | ⟨a, rfl⟩ <;> rfl
  · have : ∀ m, m ≤ n → ∃ zs : List (Int × Int), zs.length = m ∧ (∀ z ∈ zs, p0 z.1 ∧ p1 z.2) ∧ ∀ i (hi : i < zs.length), (cs.drop (i * 2)).take 2 = [AV.int k0 zs[i].1, AV.int k1 zs[i].2] := by
      intro m
      induction m with
      | zero => intro _; exact ⟨[], rfl, by simp, fun i hi => by simp at hi⟩
      | succ m ih =>
        intro hm
        obtain ⟨zs, z1, z2, z3⟩ := ih (by omega)
        obtain ⟨a, b, e, ha, hb⟩ := hg m (by omega)
        refine ⟨zs ++ [(a, b)], by simp [z1], fun z hz => ?_, fun i hi => ?_⟩
        · rcases List.mem_append.1 hz with h | h
          · exact z2 z h
          · simp at h; subst h; exact ⟨ha, hb⟩
        · by_cases h : i < zs.length
          · rw [List.getElem_append_left h]; exact z3 i h
          · have : i = m := by simp at hi; omega
            subst this
            rw [e, List.getElem_append_right (by omega)]
            simp [z1]
    obtain ⟨zs, z1, z2, z3⟩ := this n (Nat.le_refl _)
    exact ⟨zs, z1, rfl, z2, .inr ⟨path, cs, rfl, hG, fun i hi => ⟨by omega, z3 i hi⟩⟩⟩
end
end Go.AM

/-
  WHAT CAME IN, MORE (own work): an array of two whole numbers by value; structs of five; slices of bools.
-/
namespace Go.AM
open Go.RowKit Go.ChangeShapes Go.WideShapes Go.Deep
set_option linter.unusedVariables false
set_option linter.unusedSimpArgs false
section
variable {H : Type} {enc : TypeId × Value → H} {P : Program} {w : World} {base : Nat} {spare : Nat → Bool} {held : Bool}
theorem open_arr2 {r : Reach} {b0 : Nat} {t e : TypeId} {k : IntKind} {v : Value} {d : DataW H} {ps : List MemPlace} (ht : P.underlying t = some (.array 2 e)) (he : P.underlying e = some (.int k)) (ct : P.cellsOf t = 2) (ce : P.cellsOf e = 1)
    (hval : Value.okWide P w r b0 t v) (hd : DataW.Trod enc P w base spare held t v d ps) : ∃ a b, v = .agg #[.int k a, .int k b] ∧ d = .agg [.lit (.int k a), .lit (.int k b)] ∧ ps = [] ∧ (Lit.int k a).wf = true ∧ (Lit.int k b).wf = true := by
  obtain ⟨cs, rfl, hsz, _⟩ : ∃ cs, v = .agg cs ∧ cs.size = P.cellsOf t ∧ Row.okWide P w r b0 t cs := by
    simpa [Value.okWide, ht] using hval
  rw [ct] at hsz
  obtain ⟨l⟩ := cs
  match l, hsz with
  | [c0, c1], _ =>
    obtain ⟨fuel, hf⟩ := hd
    obtain ⟨xs, m, _, hx, _, hl, hel⟩ := DataW.trod_array ht hf
    match xs, hl with
    | [y0, y1], _ =>
      have h0 := hel 0 (by decide)
      have h1 := hel 1 (by decide)
      simp only [ce, Nat.zero_mul, List.drop_zero, List.getElem?_cons_zero, List.getElem?_cons_succ, Nat.one_mul] at h0 h1
      obtain ⟨a, ha, rfl, wa⟩ := DataW.trod_int he h0
      obtain ⟨b, hb, rfl, wb⟩ := DataW.trod_int he h1
      simp [Value.cells] at ha hb
      subst ha hb
      simp only [Prod.mk.injEq] at hx
      obtain ⟨rfl, rfl⟩ := hx
      exact ⟨a, b, rfl, rfl, rfl, wa, wb⟩
theorem shut_arr2 {t e : TypeId} {k : IntKind} {a b : Int} (ht : P.underlying t = some (.array 2 e)) (he : P.underlying e = some (.int k)) (ct : P.cellsOf t = 2) (ce : P.cellsOf e = 1) (wa : (Lit.int k a).wf = true) (wb : (Lit.int k b).wf = true) :
    DataW.Trod enc P w base spare held t (.agg #[.int k a, .int k b]) (.agg [.lit (.int k a), .lit (.int k b)]) [] :=
  ⟨2, by simp [DataW.trod, Value.cells, ht, he, ct, ce, wa, wb, show List.range 2 = [0, 1] from rfl]⟩
/-- a slice of bools that came in -/
theorem SlG.bools {v : AV} {n : Nat} (h : SlG P w v 1 n (fun vs => ∃ b, vs = [AV.bool b])) : ∃ bs : List Bool, bs.length = n ∧ v.at? = none ∧ (∀ K : AHeap, Sl (argC P w) K v (bs.map AV.bool)) := by
  obtain ⟨xs, h1, h2, h3, h4⟩ := h.sl
  have : ∃ bs : List Bool, xs = bs.map AV.bool := by
    clear h1 h3
    induction xs with
    | nil => exact ⟨[], rfl⟩
    | cons x r ih =>
      obtain ⟨bs, rfl⟩ := ih (fun y hy => h4 y (by simp [hy]))
      obtain ⟨b, hb⟩ := h4 x (by simp)
      simp at hb
      exact ⟨b :: bs, by simp [hb]⟩
  obtain ⟨bs, rfl⟩ := this
  exact ⟨bs, by simpa using h1, h2, h3⟩
/-- a struct of four whole numbers and a bool -/
theorem opA_deed {t : TypeId} {f0 f1 f2 f3 f4 : Field} {k : IntKind} (ht : P.underlying t = some (.struct #[f0, f1, f2, f3, f4])) (h0 : P.underlying f0.type = some (.int k)) (h1 : P.underlying f1.type = some (.int k)) (h2 : P.underlying f2.type = some (.int k)) (h3 : P.underlying f3.type = some (.int k)) (h4 : P.underlying f4.type = some .bool)
    (c5 : P.cellsOf t = 5) (c0 : P.cellsOf f0.type = 1) (c1 : P.cellsOf f1.type = 1) (c2 : P.cellsOf f2.type = 1) (c3 : P.cellsOf f3.type = 1) (c4 : P.cellsOf f4.type = 1) (o0 : f0.offset = 0) (o1 : f1.offset = 1) (o2 : f2.offset = 2) (o3 : f3.offset = 3) (o4 : f4.offset = 4) (hct : ctys P 8 t = [f0.type, f1.type, f2.type, f3.type, f4.type]) :
    OpA enc P w base spare held t (fun vs => ∃ a b c d e, vs = [.int k a, .int k b, .int k c, .int k d, .bool e] ∧ (Lit.int k a).wf = true ∧ (Lit.int k b).wf = true ∧ (Lit.int k c).wf = true ∧ (Lit.int k d).wf = true) := by
  intro fuel cs x h
  obtain ⟨xs, m, _, hx, hlen, hn, hel⟩ := DataW.trod_struct ht h
  have hxl : xs.length = 5 := by simpa using hn
  match xs, hxl with
  | [y0, y1, y2, y3, y4], _ =>
    have g0 := hel 0 f0 rfl
    have g1 := hel 1 f1 rfl
    have g2 := hel 2 f2 rfl
    have g3 := hel 3 f3 rfl
    have g4 := hel 4 f4 rfl
    simp only [List.getElem?_cons_zero, List.getElem?_cons_succ] at g0 g1 g2 g3 g4
    obtain ⟨a, ha, _, wa⟩ := DataW.trod_int h0 g0
    obtain ⟨b, hb, _, wb⟩ := DataW.trod_int h1 g1
    obtain ⟨c, hc, _, wc⟩ := DataW.trod_int h2 g2
    obtain ⟨d, hd, _, wd⟩ := DataW.trod_int h3 g3
    obtain ⟨e, he, _⟩ := DataW.trod_bool h4 g4
    rw [o0, c0, List.drop_zero] at ha
    rw [o1, c1] at hb
    rw [o2, c2] at hc
    rw [o3, c3] at hd
    rw [o4, c4] at he
    rw [c5] at hlen
    rw [hct]
    match cs, hlen with
    | [u0, u1, u2, u3, u4], _ =>
      simp at ha hb hc hd he
      subst ha hb hc hd he
      refine ⟨[.int k a, .int k b, .int k c, .int k d, .bool e], rfl, rfl, ⟨a, b, c, d, e, rfl, wa, wb, wc, wd⟩, fun j hj => ?_⟩
      match j, hj with
      | 0, _ => exact ⟨_, rfl, by simp [cellAV, h0, scAV], rfl⟩
      | 1, _ => exact ⟨_, rfl, by simp [cellAV, h1, scAV], rfl⟩
      | 2, _ => exact ⟨_, rfl, by simp [cellAV, h2, scAV], rfl⟩
      | 3, _ => exact ⟨_, rfl, by simp [cellAV, h3, scAV], rfl⟩
      | 4, _ => exact ⟨_, rfl, by simp [cellAV, h4, scAV], rfl⟩
end
end Go.AM

/- jobs.Jobs (own work): two tables beside each other; deeds that come in. -/
namespace Go.Proofs.Ytecfofmndpgnjaa.sy
open Go.AM Go.AM.Hp Go.AM.Jb
set_option linter.unusedSimpArgs false
set_option linter.unusedVariables false
variable {G : List Nat → Option (List AV)} {base : Nat} {w0 : World}
set_option maxRecDepth 100000
set_option maxHeartbeats 8000000
/-- a deed -/
structure Dd where
  do_ : Int
  id : Int
  e : Int
  p : Int
  sp : Bool
def encD (d : Dd) : List AV := [.int .i64 d.do_, .int .i64 d.id, .int .i64 d.e, .int .i64 d.p, .bool d.sp]
def wD : Wd Dd := ⟨5, encD, by decide, fun _ => rfl, fun _ => rfl⟩
def inI (x : Int) : Prop := -9223372036854775808 ≤ x ∧ x ≤ 9223372036854775807
/-- deeds that came in -/
structure Deeds5 (G : List Nat → Option (List AV)) (base : Nat) (w0 : World) (v : AV) (ds : List Dd) : Prop where
  out : ∀ H, SlF (kn G base w0).c H wD v ds
  rng : ∀ d ∈ ds, inI d.do_ ∧ inI d.id ∧ inI d.e ∧ inI d.p
theorem fl_of {α : Type} {w : Wd α} {Good : List AV → Prop} {ok : α → Prop} (hg : ∀ vs, Good vs → ∃ d, vs = w.enc d ∧ ok d) {cs : List AV} : ∀ n, n * w.W ≤ cs.length → (∀ i, i < n → Good ((cs.drop (i * w.W)).take w.W)) → ∃ ds : List α, ds.length = n ∧ w.fl ds = cs.take (n * w.W) ∧ ∀ d ∈ ds, ok d
  | 0, _, _ => ⟨[], rfl, by simp [Wd.fl], by simp⟩
  | n + 1, hl, h => by
    rw [Nat.succ_mul] at hl
    obtain ⟨ds, h1, h2, h3⟩ := fl_of hg n (by omega) (fun i hi => h i (by omega))
    obtain ⟨d, hd, hok⟩ := hg _ (h n (by omega))
    refine ⟨ds ++ [d], by simp [h1], ?_, fun x hx => ?_⟩
    · rw [Wd.fl_app, h2, Nat.succ_mul, List.take_add]
      congr 1
      rw [hd]; simp [Wd.fl]
    · rcases List.mem_append.1 hx with hx | hx
      · exact h3 x hx
      · simp at hx; subst hx; exact hok
theorem inI_of {n : Int} (h : (Lit.int .i64 n).wf = true) : inI n := by
  simp only [Lit.wf, IntKind.min, IntKind.max, IntKind.signed, IntKind.bits, Bool.and_eq_true, decide_eq_true_eq] at h
  simp at h
  unfold inI; omega
theorem deeds5_of {W : World} {u : AV} (g : ∃ v n, [u] = [v] ∧ SlG Try.prog W v 5 n (fun vs => ∃ a b c d e, vs = [AV.int .i64 a, AV.int .i64 b, AV.int .i64 c, AV.int .i64 d, AV.bool e] ∧ (Lit.int .i64 a).wf = true ∧ (Lit.int .i64 b).wf = true ∧ (Lit.int .i64 c).wf = true ∧ (Lit.int .i64 d).wf = true)) : ∃ ds, Deeds5 (decG Try.prog W) base w0 u ds := by
  obtain ⟨v, n, hv, h⟩ := g
  simp at hv
  subst hv
  rcases h with ⟨h, rfl⟩ | ⟨path, cs, rfl, hG, hl, hi⟩
  · exact ⟨[], fun H => .inl ⟨h, rfl⟩, by simp⟩
  · obtain ⟨ds, h1, h2, h3⟩ := fl_of (w := wD) (Good := fun vs => ∃ a b c d e, vs = [AV.int .i64 a, AV.int .i64 b, AV.int .i64 c, AV.int .i64 d, AV.bool e] ∧ (Lit.int .i64 a).wf = true ∧ (Lit.int .i64 b).wf = true ∧ (Lit.int .i64 c).wf = true ∧ (Lit.int .i64 d).wf = true) (ok := fun d => inI d.do_ ∧ inI d.id ∧ inI d.e ∧ inI d.p) (fun vs hq => by
      obtain ⟨a, b, c, d, e, rfl, w1, w2, w3, w4⟩ := hq
      exact ⟨⟨a, b, c, d, e⟩, rfl, inI_of w1, inI_of w2, inI_of w3, inI_of w4⟩) n hl hi
    exact ⟨ds, fun H => .inr ⟨.ext path, 0, by rw [h1]; rfl, fun _ => ⟨cs, hG, by rw [Nat.zero_mul, List.drop_zero, h1, h2]⟩⟩, h3⟩
/-- what a deed does to the tasks -/
def deed (k : Nat) (clock : Int) (d : Dd) (ts : List Tk) : List Tk :=
  if d.do_ = 0 ∨ d.do_ = 1 then (tjoin k ts d.id d.e d.p d.sp).1 else if d.do_ = 2 then (tleave ts d.id).1 else if d.do_ = 3 then (tarrive ts d.id).1 else if d.do_ = 4 then (tfinish ts d.id).1
  else if d.do_ = 5 ∨ d.do_ = 6 then trel clock ts else if d.do_ = 7 ∨ d.do_ = 8 then tsettle clock ts else (tgive ts d.id).1
theorem Ok.deed {n : Int} {ts : List Tk} (h : Ok n ts) (hn : 0 ≤ n) {k : Nat} {clock : Int} (h0 : 0 ≤ clock) (h1 : clock ≤ 100000) {d : Dd} (hd : inI d.id) : Ok (n + 1) (deed k clock d ts) := by
  unfold sy.deed
  have hm : n ≤ n + 1 := by omega
  split
  · exact (h.join hn hd).mono hm
  split
  · exact (h.leave _).mono hm
  split
  · exact (h.arrive _).mono hm
  split
  · exact (h.finish _).mono hm
  split
  · exact h.rel h0 h1
  split
  · exact (h.settle _).mono hm
  · exact (h.give _).mono hm
def Blk (pj s bl : Nat) (o : Tb) (j : Nat) : Prop := j = pj ∨ j = s ∨ j = bl ∨ Own o j
theorem Kp.blk {H H' : AHeap} {bl : Nat} {o o' : Tb} (h : Kp H H' bl o o') {pj s : Nat} {j : Nat} (hj : Blk pj s bl o' j) : Blk pj s bl o j ∨ H.length ≤ j := by
  rcases hj with e | e | e | e
  · exact .inl (.inl e)
  · exact .inl (.inr (.inl e))
  · exact .inl (.inr (.inr (.inl e)))
  · rcases h.own j e with e | e
    · exact .inl (.inr (.inr (.inr e)))
    · exact .inr e
/-- j.Task(id), and nothing is left behind -/
theorem task0 {H : AHeap} {pj s bl k : Nat} {o : Tb} {ts : List Tk} (h : JS H pj s bl k o ts) (id : Int) : ∃ r, Pt (kn G base w0) 14 [.ptr (.own pj) 0, .int .i64 id] H r H ∧ ((tf ts id = none ∧ r = .tuple [.agg (encT tk0), .bool false]) ∨ ∃ t, tf ts id = some t ∧ r = .tuple [.agg (encT t), .bool true]) := by
  obtain ⟨f, gs, hx⟩ := h
  obtain ⟨r, H', hp, ⟨u, rfl⟩, hr⟩ := task_ok (G := G) (base := base) (w0 := w0) hx id
  refine ⟨r, hp.shrink ?_ (by simp [hnew]), hr⟩
  rcases hr with ⟨_, rfl⟩ | ⟨t, _, rfl⟩ <;> rfl
def tval (ts : List Tk) (id : Int) : AV := .tuple [.agg (encT ((tf ts id).getD tk0)), .bool (tf ts id).isSome]
theorem task1 {H : AHeap} {pj s bl k : Nat} {o : Tb} {ts : List Tk} (h : JS H pj s bl k o ts) (id : Int) : ∃ r H', Pt (kn G base w0) 14 [.ptr (.own pj) 0, .int .i64 id] H r H' ∧ (r = tval ts id ∧ H' = H) := by
  obtain ⟨r, hp, hr⟩ := task0 (G := G) (base := base) (w0 := w0) h id
  refine ⟨r, H, hp, ?_, rfl⟩
  rcases hr with ⟨hn, rfl⟩ | ⟨t, ht, rfl⟩
  · simp [tval, hn]
  · simp [tval, ht]
theorem ld_box {H : AHeap} {b : Nat} {t : Tk} (h : hat H b = some (.row 35 11 (encT t))) : aload (kn G base w0).c H 35 (.ptr (.own b) 0) = some (.agg (encT t)) := by
  simp only [aload, kn_P, ag35, sz35, Option.bind_some, if_true, rd, rowOf, h]
  rw [if_pos (by simp [encT])]; rfl
end Go.Proofs.Ytecfofmndpgnjaa.sy

/- the document's own answer to jobs (own work): Made and Same walked. -/
namespace Go.Proofs.Ytecfofmndpgnjaa.sy
open Go.AM Go.AM.Hp Go.AM.Jb
set_option linter.unusedSimpArgs false
set_option linter.unusedVariables false
variable {G : List Nat → Option (List AV)} {base : Nat} {w0 : World}
set_option maxRecDepth 100000
set_option maxHeartbeats 8000000
variable {H : AHeap} {pm : Nat} {N : Int} {v : AV} {ts : List Tk}
theorem hP27 : hasBody Try.prog 27 = true := by kernel_rfl
theorem hP34 : hasBody Try.prog 34 = true := by kernel_rfl
theorem eg35p : Try.prog.eqGuardType Try.prog.depth 35 = false := by kernel_rfl
theorem aq35p (t : Tk) : aeqT (kn G base w0).c 9 35 (.agg (encT t)) (.agg (encT t)) = some true := by
  have h3 : ∀ (n : Nat) (x : Int), aeqT (kn G base w0).c (n + 1) 3 (.int .i64 x) (.int .i64 x) = some true := fun n x => by
    simp [aeqT, kn_P, Try.underlying3]
  have h4 : ∀ (n : Nat) (x : Bool), aeqT (kn G base w0).c (n + 1) 4 (.bool x) (.bool x) = some true := fun n x => by
    simp [aeqT, kn_P, Try.underlying4, aeq]
  unfold aeqT
  simp [aeqF, kn_P, Try.underlying35, apart, ag3, ag4, encT, h3, h4]
theorem made0 (t : Tk) : ∃ r H', Pt (kn G base w0) 34 [.agg (encT t)] H r H' ∧ (r = .agg (encT t) ∧ ∃ a b, H' = hnew (hnew H a) b) := by
  refine Pt.fn (n := 26) (rs := [.cell 2 35]) Try.func34 (b := _) rfl rfl rfl (by decide) ?_
  have hK : hat (hnew (hnew H (.row 54 11 (encT t))) (.row 35 11 [.int .i64 0, .int .i64 0, .int .i64 0, .bool false, .bool false, .bool false, .bool false, .int .i64 0, .int .i64 0, .bool false, .int .i64 0])) H.length = some (.row 54 11 (encT t)) := by
    rw [hat_nw _ (by rw [len_new]; omega), hat_nn]
  have f0 := ld_own (c := (kn G base w0).c) (off := 0) (v := .int .i64 t.id) hK rfl ag3
  have f1 := ld_own (c := (kn G base w0).c) (off := 1) (v := .int .i64 t.e) hK rfl ag3
  have f2 := ld_own (c := (kn G base w0).c) (off := 2) (v := .int .i64 t.p) hK rfl ag3
  have f3 := ld_own (c := (kn G base w0).c) (off := 3) (v := .bool t.sp) hK rfl ag4
  have f4 := ld_own (c := (kn G base w0).c) (off := 4) (v := .bool t.lv) hK rfl ag4
  have f5 := ld_own (c := (kn G base w0).c) (off := 5) (v := .bool t.wt) hK rfl ag4
  have f6 := ld_own (c := (kn G base w0).c) (off := 6) (v := .bool t.ac) hK rfl ag4
  have f7 := ld_own (c := (kn G base w0).c) (off := 7) (v := .int .i64 t.rl) hK rfl ag3
  have f8 := ld_own (c := (kn G base w0).c) (off := 8) (v := .int .i64 t.gt) hK rfl ag3
  have f9 := ld_own (c := (kn G base w0).c) (off := 9) (v := .bool t.dn) hK rfl ag4
  have f10 := ld_own (c := (kn G base w0).c) (off := 10) (v := .int .i64 t.ct) hK rfl ag3
  have hbld : abuild (kn G base w0).c 35 [(0, .int .i64 t.id), (1, .int .i64 t.e), (2, .int .i64 t.p), (3, .bool t.sp), (4, .bool t.lv), (5, .bool t.wt), (6, .bool t.ac), (7, .int .i64 t.rl), (8, .int .i64 t.gt), (9, .bool t.dn), (10, .int .i64 t.ct)] = some (.agg (encT t)) := by kernel_rfl
  have hst : wr (hnew (hnew H (.row 54 11 (encT t))) (.row 35 11 [.int .i64 0, .int .i64 0, .int .i64 0, .bool false, .bool false, .bool false, .bool false, .int .i64 0, .int .i64 0, .bool false, .int .i64 0])) (.own (hnew H (.row 54 11 (encT t))).length) 0 (encT t) = some (hnew (hnew H (.row 54 11 (encT t))) (.row 35 11 (encT t))) := bx_st tk0 t
  have hld : aload (kn G base w0).c (hnew (hnew H (.row 54 11 (encT t))) (.row 35 11 (encT t))) 35 (.ptr (.own (hnew H (.row 54 11 (encT t))).length) 0) = some (.agg (encT t)) := ld_box (hat_nn _)
  have hend : ∃ a b, hnew (hnew H (.row 54 11 (encT t))) (.row 35 11 (encT t)) = hnew (hnew H a) b := ⟨_, _, rfl⟩
  refine D.sq ?_
  refine D.rg (T := none_) (by kernel_rfl) (by simp (maxSteps := 1000000) (disch := omega) only [rulesA, rulesB, numbered, ayield, mapO, constAV, scAV, optval, abin, aint, acmp, aconv, aun, aeq, aminmax, afieldAddr, abuild, anew, fieldPlaces, afill, setSeg, kn_P, Nat.reduceAdd, Nat.reduceMul, Nat.reducePow, Nat.reduceSub, Nat.reduceEqDiff, Nat.reduceLT, Nat.reduceLeDiff, Int.reduceEq, Int.reduceNe, Int.reduceLT, Int.reduceLE, Int.reduceAdd, Int.reduceSub, Int.reduceToNat, Int.reduceBNe, Int.reduceBEq, tyR, rulesC, fresh, encT_len, encT_one]; with_reducible rfl) ?_
  simp only [rulesK, Nat.reduceEqDiff]
  clear hK
  generalize hnew (hnew H (.row 54 11 (encT t))) (.row 35 11 [.int .i64 0, .int .i64 0, .int .i64 0, .bool false, .bool false, .bool false, .bool false, .int .i64 0, .int .i64 0, .bool false, .int .i64 0]) = K at *
  generalize hnew (hnew H (.row 54 11 (encT t))) (.row 35 11 (encT t)) = K2 at *
  generalize (hnew H (.row 54 11 (encT t))).length = z at *
  repeat (first | with_reducible refine D.sq ?_ | with_reducible refine D.bl ?_ | with_reducible refine D.skip ?_ | with_reducible refine D.rg (T := none_) (by kernel_rfl) (by simp (maxSteps := 1000000) (disch := omega) only [rulesA, rulesB, numbered, ayield, mapO, constAV, scAV, optval, abin, aint, acmp, aconv, aun, aeq, aminmax, afieldAddr, anew, fieldPlaces, afill, setSeg, kn_P, Nat.reduceAdd, Nat.reduceMul, Nat.reducePow, Nat.reduceSub, Nat.reduceEqDiff, Nat.reduceLT, Nat.reduceLeDiff, Int.reduceEq, Int.reduceNe, Int.reduceLT, Int.reduceLE, Int.reduceAdd, Int.reduceSub, Int.reduceToNat, Int.reduceBNe, Int.reduceBEq, tyR, rulesC, f0, f1, f2, f3, f4, f5, f6, f7, f8, f9, f10, hbld, as35, hst]; with_reducible rfl) ?_ | with_reducible refine D.ct2 (by simp (maxSteps := 1000000) (disch := omega) only [rulesV, numbered, constAV, scAV, Nat.reduceEqDiff, Nat.reduceLT, Nat.reduceLeDiff, rulesC, f0, f1, f2, f3, f4, f5, f6, f7, f8, f9, f10, hbld, as35, hst]; with_reducible rfl) (by with_reducible rfl) ?_ | with_reducible refine D.cf2 (by simp (maxSteps := 1000000) (disch := omega) only [rulesV, numbered, constAV, scAV, Nat.reduceEqDiff, Nat.reduceLT, Nat.reduceLeDiff, rulesC, f0, f1, f2, f3, f4, f5, f6, f7, f8, f9, f10, hbld, as35, hst]; with_reducible rfl) (by with_reducible rfl) ?_ | with_reducible refine D.exit ?_ | with_reducible refine D.ret ?_ | simp only [rulesK, Nat.reduceEqDiff])
  refine ⟨_, by simp only [resOf, aresult, rulesA, rulesB, numbered, ayield, mapO, constAV, scAV, optval, abin, aint, acmp, aconv, aun, aeq, aminmax, afieldAddr, abuild, anew, fieldPlaces, afill, setSeg, kn_P, Nat.reduceAdd, Nat.reduceMul, Nat.reducePow, Nat.reduceSub, Nat.reduceEqDiff, Nat.reduceLT, Nat.reduceLeDiff, Int.reduceEq, Int.reduceNe, Int.reduceLT, Int.reduceLE, Int.reduceAdd, Int.reduceSub, Int.reduceToNat, Int.reduceBNe, Int.reduceBEq, tyR, hld]; with_reducible rfl, ?_⟩
  exact ⟨rfl, hend⟩
theorem made_ok (t : Tk) : ∃ r H', Pt (kn G base w0) 34 [.agg (encT t)] H r H' ∧ (r = .agg (encT t) ∧ H' = H) := by
  obtain ⟨r, H', h, rfl, a, b, rfl⟩ := made0 (G := G) (base := base) (w0 := w0) (H := H) t
  exact ⟨_, H, h.shrink (by simp [AV.low, encT, AV.lows]) (by simp [hnew]), rfl, rfl⟩
def SameS (H : AHeap) : AV → AHeap → Prop := fun r H' => r = .bool true ∧ Keep H H' (fun _ => False)
theorem same_ok {pj s bl k : Nat} {o : Tb} (hJ : JS H pj s bl k o ts) (hM : Mx H pm N v ts) (hl : ts.length ≤ 10000) : ∃ r H', Pt (kn G base w0) 26 [.ptr (.own pj) 0, .ptr (.own pm) 0] H r H' ∧ SameS H r H' := by
  refine Pt.fn (n := 48) (rs := [.tmp 4]) Try.func26 (b := _) rfl rfl rfl (by decide) ?_
  repeat (first | with_reducible refine D.sq ?_ | with_reducible refine D.bl ?_ | with_reducible refine D.skip ?_ | with_reducible refine D.rg (T := none_) (by kernel_rfl) (by simp (maxSteps := 1000000) (disch := omega) only [rulesA, rulesB, numbered, ayield, mapO, constAV, scAV, optval, abin, aint, acmp, aconv, aun, aeq, aminmax, afieldAddr, abuild, anew, fieldPlaces, afill, setSeg, kn_P, Nat.reduceAdd, Nat.reduceMul, Nat.reducePow, Nat.reduceSub, Nat.reduceEqDiff, Nat.reduceLT, Nat.reduceLeDiff, Int.reduceEq, Int.reduceNe, Int.reduceLT, Int.reduceLE, Int.reduceAdd, Int.reduceSub, Int.reduceToNat, Int.reduceBNe, Int.reduceBEq, tyR, rulesC]; with_reducible rfl) ?_ | with_reducible refine D.ct2 (by simp (maxSteps := 1000000) (disch := omega) only [rulesV, numbered, constAV, scAV, Nat.reduceEqDiff, Nat.reduceLT, Nat.reduceLeDiff, rulesC]; with_reducible rfl) (by with_reducible rfl) ?_ | with_reducible refine D.cf2 (by simp (maxSteps := 1000000) (disch := omega) only [rulesV, numbered, constAV, scAV, Nat.reduceEqDiff, Nat.reduceLT, Nat.reduceLeDiff, rulesC]; with_reducible rfl) (by with_reducible rfl) ?_ | with_reducible refine D.exit ?_ | with_reducible refine D.ret ?_ | simp only [rulesK, Nat.reduceEqDiff])
  obtain ⟨r1, H1, hc27, hO, hk, hf⟩ := call_only (κ := kn G base w0) (f := 27) (args := [.ptr (.own pj) 0]) (H := H) (fun _ H r H' => IdsO ts H r H') (by obtain ⟨f8, g8, hx8⟩ := hJ; exact ids_own (G := G) (base := base) (w0 := w0) hx8)
  have hsrt := hM.srt
  have hidl : (ids ts).length = ts.length := by simp [ids]
  have hJ1 := hJ.keepF hk
  have hM1 := hM.keep fun j hj => hk.2 j (hM.lt hj) (fun e => e)
  have e1 := m1 (G := G) (base := base) (w0 := w0) hM1
  have el := hM1.own.sl.len (c := (kn G base w0).c) (H := H1) Try.underlying45
  have hs1 : ∀ H', Keep H1 H' (fun _ => False) → Sl (kn G base w0).c H' r1 (ints (ids ts)) := fun H' hk => (hO.keep fun b hb => hk.2 b (hO.lt hb) (fun e => e)).sl
  have hrl := (hs1 H1 (Keep.refl _)).len Try.underlying28
  rw [ints_len, hidl] at hrl
  refine D.rgC hc27 (by kernel_rfl) (by simp (maxSteps := 1000000) (disch := omega) only [rulesA, rulesB, numbered, ayield, mapO, constAV, scAV, optval, abin, aint, acmp, aconv, aun, aeq, aminmax, afieldAddr, abuild, anew, fieldPlaces, afill, setSeg, kn_P, Nat.reduceAdd, Nat.reduceMul, Nat.reducePow, Nat.reduceSub, Nat.reduceEqDiff, Nat.reduceLT, Nat.reduceLeDiff, Int.reduceEq, Int.reduceNe, Int.reduceLT, Int.reduceLE, Int.reduceAdd, Int.reduceSub, Int.reduceToNat, Int.reduceBNe, Int.reduceBEq, tyR, rulesC, hc27, hP27]; with_reducible rfl) ?_
  repeat (first | with_reducible refine D.sq ?_ | with_reducible refine D.bl ?_ | with_reducible refine D.skip ?_ | with_reducible refine D.rg (T := none_) (by kernel_rfl) (by simp (maxSteps := 1000000) (disch := omega) only [rulesA, rulesB, numbered, ayield, mapO, constAV, scAV, optval, abin, aint, acmp, aconv, aun, aeq, aminmax, afieldAddr, abuild, anew, fieldPlaces, afill, setSeg, kn_P, Nat.reduceAdd, Nat.reduceMul, Nat.reducePow, Nat.reduceSub, Nat.reduceEqDiff, Nat.reduceLT, Nat.reduceLeDiff, Int.reduceEq, Int.reduceNe, Int.reduceLT, Int.reduceLE, Int.reduceAdd, Int.reduceSub, Int.reduceToNat, Int.reduceBNe, Int.reduceBEq, tyR, rulesC, hrl, e1, el]; with_reducible rfl) ?_ | with_reducible refine D.ct2 (by simp (maxSteps := 1000000) (disch := omega) only [rulesV, numbered, constAV, scAV, Nat.reduceEqDiff, Nat.reduceLT, Nat.reduceLeDiff, rulesC, hrl, e1, el]; with_reducible rfl) (by with_reducible rfl) ?_ | with_reducible refine D.cf2 (by simp (maxSteps := 1000000) (disch := omega) only [rulesV, numbered, constAV, scAV, Nat.reduceEqDiff, Nat.reduceLT, Nat.reduceLeDiff, rulesC, hrl, e1, el]; with_reducible rfl) (by with_reducible rfl) ?_ | with_reducible refine D.exit ?_ | with_reducible refine D.ret ?_ | simp only [rulesK, Nat.reduceEqDiff])
  refine D.lp (fun m env H' => ∃ (j : Nat), m = ts.length - j ∧ j ≤ ts.length ∧ Keep H1 H' (fun _ => False) ∧ ELe (E 48 [(6, .int .i64 j), (5, r1), (1, .ptr (.own pm) 0), (0, .ptr (.own pj) 0)]) env) ts.length
    ⟨0, by omega, by omega, Keep.refl _, by exact E_le (by decide) (E_size _ _) (by simp only [List.forall_mem_cons, List.not_mem_nil, false_implies, implies_true, and_true, E_get, Nat.reduceEqDiff, Nat.reduceLT, Nat.reduceLeDiff, if_true, if_false, and_self, true_and] <;> first | rfl | exact ⟨rfl, rfl⟩)⟩ ?_
  rintro mj env7 H7 ⟨j, rfl, hj, hk7, he7⟩
  refine D.forget he7 ?_
  clear he7 e1 el hrl
  have hs7 := hs1 H7 hk7
  have hrl := hs7.len Try.underlying28
  rw [ints_len, hidl] at hrl
  have hJ7 := hJ1.keepF hk7
  by_cases hjn : j < ts.length
  rotate_left
  · obtain rfl : j = ts.length := by omega
    repeat (first | with_reducible refine D.sq ?_ | with_reducible refine D.bl ?_ | with_reducible refine D.skip ?_ | with_reducible refine D.rg (T := none_) (by kernel_rfl) (by simp (maxSteps := 1000000) (disch := omega) only [rulesA, rulesB, numbered, ayield, mapO, constAV, scAV, optval, abin, aint, acmp, aconv, aun, aeq, aminmax, afieldAddr, abuild, anew, fieldPlaces, afill, setSeg, kn_P, Nat.reduceAdd, Nat.reduceMul, Nat.reducePow, Nat.reduceSub, Nat.reduceEqDiff, Nat.reduceLT, Nat.reduceLeDiff, Int.reduceEq, Int.reduceNe, Int.reduceLT, Int.reduceLE, Int.reduceAdd, Int.reduceSub, Int.reduceToNat, Int.reduceBNe, Int.reduceBEq, tyR, rulesC, hrl]; with_reducible rfl) ?_ | with_reducible refine D.ct2 (by simp (maxSteps := 1000000) (disch := omega) only [rulesV, numbered, constAV, scAV, Nat.reduceEqDiff, Nat.reduceLT, Nat.reduceLeDiff, rulesC, hrl]; with_reducible rfl) (by with_reducible rfl) ?_ | with_reducible refine D.cf2 (by simp (maxSteps := 1000000) (disch := omega) only [rulesV, numbered, constAV, scAV, Nat.reduceEqDiff, Nat.reduceLT, Nat.reduceLeDiff, rulesC, hrl]; with_reducible rfl) (by with_reducible rfl) ?_ | with_reducible refine D.exit ?_ | with_reducible refine D.ret ?_ | simp only [rulesK, Nat.reduceEqDiff])
    refine ⟨_, by simp only [resOf, aresult, rulesA, rulesB, numbered, ayield, mapO, constAV, scAV, optval, abin, aint, acmp, aconv, aun, aeq, aminmax, afieldAddr, abuild, anew, fieldPlaces, afill, setSeg, kn_P, Nat.reduceAdd, Nat.reduceMul, Nat.reducePow, Nat.reduceSub, Nat.reduceEqDiff, Nat.reduceLT, Nat.reduceLeDiff, Int.reduceEq, Int.reduceNe, Int.reduceLT, Int.reduceLE, Int.reduceAdd, Int.reduceSub, Int.reduceToNat, Int.reduceBNe, Int.reduceBEq, tyR]; with_reducible rfl, ?_⟩
    exact ⟨rfl, hk.trans hk7⟩
  obtain ⟨bm, rfl, _, _⟩ := hM1.blk (by rintro rfl; simp at hjn)
  have hjl : j < (ids ts).length := by rw [hidl]; exact hjn
  have hidj : (ids ts)[j] = ts[j].id := by simp [ids]
  have ia7 := hs7.ia Try.underlying28 sz3 (i := j) (by simpa using hjl) .i64
  have ld7 : aload (kn G base w0).c H7 3 (ptrAt r1 j) = some (.int .i64 ts[j].id) := by
    have := hs7.ld ag3 (i := j) (by simpa using hjl)
    rw [List.getElem_map, hidj] at this; exact this
  have htv : tval ts ts[j].id = .tuple [.agg (encT ts[j]), .bool true] := by rw [tval, hsrt.tf (List.getElem_mem hjn)]; rfl
  have hg : ts[j]? = some ts[j] := List.getElem?_eq_getElem hjn
  generalize ts[j] = t at *
  obtain ⟨r8, H8, hc14, rfl, rfl⟩ := call_only (κ := kn G base w0) (f := 14) (args := [.ptr (.own pj) 0, .int .i64 t.id]) (H := H7) (fun _ H r H' => r = tval ts t.id ∧ H' = H) (task1 (G := G) (base := base) (w0 := w0) hJ7 t.id)
  rw [htv] at hc14
  have hst : wr (Go.AM.hnew H8 (.row 35 11 (encT tk0))) (.own H8.length) 0 (encT t) = some (Go.AM.hnew H8 (.row 35 11 (encT t))) := bx_st tk0 t
  repeat (first | with_reducible refine D.sq ?_ | with_reducible refine D.bl ?_ | with_reducible refine D.skip ?_ | with_reducible refine D.rg (T := none_) (by kernel_rfl) (by simp (maxSteps := 1000000) (disch := omega) only [rulesA, rulesB, numbered, ayield, mapO, constAV, scAV, optval, abin, aint, acmp, aconv, aun, aeq, aminmax, afieldAddr, abuild, anew, fieldPlaces, afill, setSeg, kn_P, Nat.reduceAdd, Nat.reduceMul, Nat.reducePow, Nat.reduceSub, Nat.reduceEqDiff, Nat.reduceLT, Nat.reduceLeDiff, Int.reduceEq, Int.reduceNe, Int.reduceLT, Int.reduceLE, Int.reduceAdd, Int.reduceSub, Int.reduceToNat, Int.reduceBNe, Int.reduceBEq, tyR, rulesC, hrl]; with_reducible rfl) ?_ | with_reducible refine D.ct2 (by simp (maxSteps := 1000000) (disch := omega) only [rulesV, numbered, constAV, scAV, Nat.reduceEqDiff, Nat.reduceLT, Nat.reduceLeDiff, rulesC, hrl]; with_reducible rfl) (by with_reducible rfl) ?_ | with_reducible refine D.cf2 (by simp (maxSteps := 1000000) (disch := omega) only [rulesV, numbered, constAV, scAV, Nat.reduceEqDiff, Nat.reduceLT, Nat.reduceLeDiff, rulesC, hrl]; with_reducible rfl) (by with_reducible rfl) ?_ | with_reducible refine D.exit ?_ | with_reducible refine D.ret ?_ | simp only [rulesK, Nat.reduceEqDiff])
  refine D.rgC hc14 (by kernel_rfl) (by simp (maxSteps := 1000000) (disch := omega) only [rulesA, rulesB, numbered, ayield, mapO, constAV, scAV, optval, abin, aint, acmp, aconv, aun, aeq, aminmax, afieldAddr, abuild, anew, fieldPlaces, afill, setSeg, kn_P, Nat.reduceAdd, Nat.reduceMul, Nat.reducePow, Nat.reduceSub, Nat.reduceEqDiff, Nat.reduceLT, Nat.reduceLeDiff, Int.reduceEq, Int.reduceNe, Int.reduceLT, Int.reduceLE, Int.reduceAdd, Int.reduceSub, Int.reduceToNat, Int.reduceBNe, Int.reduceBEq, tyR, rulesC, hc14, hJ14, ia7, ld7, fresh, e0, as35, hst, encT_len, encT_one]; with_reducible rfl) ?_
  have hk8 : Keep H8 (Go.AM.hnew H8 (.row 35 11 (encT t))) (fun _ => False) := Keep.new _ _
  have hk9 := hk7.trans hk8
  have la := ld_box (G := G) (base := base) (w0 := w0) (hat_nn (H := H8) (.row 35 11 (encT t)))
  have hM9 := hM1.keep fun j hj => hk9.2 j (hM1.lt hj) (fun e => e)
  have e1 := m1 (G := G) (base := base) (w0 := w0) hM9
  have ex := ix45 (G := G) (base := base) (w0 := w0) (bm := bm) hjn
  have hr9 : RowF (Go.AM.hnew H8 (.row 35 11 (encT t))) bm 54 wT ts := by
    obtain ⟨b', eb, h', _⟩ := hM9.blk (by rintro rfl; simp at hjn)
    cases eb; exact h'
  have F := celM (G := G) (base := base) (w0 := w0) hr9 hg
  have Fa := F.all
  have hwj : IntKind.i64.wrap ((j : Int) + 1) = ((j + 1 : Nat) : Int) := wrapN _ (by omega) (by omega)
  have hnq := aq35p (G := G) (base := base) (w0 := w0) t
  clear F hr9 hM9 hst hc14 ia7 ld7
  generalize H8.length = z1 at *
  generalize Go.AM.hnew H8 (.row 35 11 (encT t)) = H9 at *
  obtain ⟨r10, H10, hc34, rfl, rfl⟩ := call_only (κ := kn G base w0) (f := 34) (args := [.agg (encT t)]) (H := H9) (fun _ H r H' => r = .agg (encT t) ∧ H' = H) (made_ok (G := G) (base := base) (w0 := w0) t)
  repeat (first | with_reducible refine D.sq ?_ | with_reducible refine D.bl ?_ | with_reducible refine D.skip ?_ | with_reducible refine D.rg (T := none_) (by kernel_rfl) (by simp (maxSteps := 1000000) (disch := omega) only [rulesA, rulesB, numbered, ayield, mapO, constAV, scAV, optval, abin, aint, acmp, aconv, aun, aeq, aminmax, afieldAddr, abuild, anew, fieldPlaces, afill, setSeg, kn_P, Nat.reduceAdd, Nat.reduceMul, Nat.reducePow, Nat.reduceSub, Nat.reduceEqDiff, Nat.reduceLT, Nat.reduceLeDiff, Int.reduceEq, Int.reduceNe, Int.reduceLT, Int.reduceLE, Int.reduceAdd, Int.reduceSub, Int.reduceToNat, Int.reduceBNe, Int.reduceBEq, tyR, rulesC]; with_reducible rfl) ?_ | with_reducible refine D.ct2 (by simp (maxSteps := 1000000) (disch := omega) only [rulesV, numbered, constAV, scAV, Nat.reduceEqDiff, Nat.reduceLT, Nat.reduceLeDiff, rulesC]; with_reducible rfl) (by with_reducible rfl) ?_ | with_reducible refine D.cf2 (by simp (maxSteps := 1000000) (disch := omega) only [rulesV, numbered, constAV, scAV, Nat.reduceEqDiff, Nat.reduceLT, Nat.reduceLeDiff, rulesC]; with_reducible rfl) (by with_reducible rfl) ?_ | with_reducible refine D.exit ?_ | with_reducible refine D.ret ?_ | simp only [rulesK, Nat.reduceEqDiff])
  refine D.calm (T := only 34 (fun _ H r H' => r = .agg (encT t) ∧ H' = H)) [11] (by kernel_rfl) (by simp (maxSteps := 1000000) (disch := omega) only [rulesA, rulesB, numbered, ayield, mapO, constAV, scAV, optval, abin, aint, acmp, aconv, aun, aeq, aminmax, afieldAddr, abuild, anew, fieldPlaces, afill, setSeg, kn_P, Nat.reduceAdd, Nat.reduceMul, Nat.reducePow, Nat.reduceSub, Nat.reduceEqDiff, Nat.reduceLT, Nat.reduceLeDiff, Int.reduceEq, Int.reduceNe, Int.reduceLT, Int.reduceLE, Int.reduceAdd, Int.reduceSub, Int.reduceToNat, Int.reduceBNe, Int.reduceBEq, tyR, la, e1, ex, Fa, hc34, hP34, hnq, eg35p]; with_reducible rfl) ?_ ?_
  · intro q hq
    simp only [List.mem_cons, List.not_mem_nil, or_false] at hq
    subst hq
    exact ⟨_, by simp (maxSteps := 1000000) only [rulesA, rulesB, numbered, ayield, mapO, constAV, scAV, optval, abin, aint, acmp, aconv, aun, aeq, aminmax, afieldAddr, abuild, anew, fieldPlaces, afill, setSeg, kn_P, Nat.reduceAdd, Nat.reduceMul, Nat.reducePow, Nat.reduceSub, Nat.reduceEqDiff, Nat.reduceLT, Nat.reduceLeDiff, Int.reduceEq, Int.reduceNe, Int.reduceLT, Int.reduceLE, Int.reduceAdd, Int.reduceSub, Int.reduceToNat, Int.reduceBNe, Int.reduceBEq, tyR, la, e1, ex, Fa, hc34, hP34]; with_reducible rfl⟩
  repeat (first | with_reducible refine D.sq ?_ | with_reducible refine D.bl ?_ | with_reducible refine D.skip ?_ | with_reducible refine D.rg (T := none_) (by kernel_rfl) (by simp (maxSteps := 1000000) (disch := omega) only [rulesA, rulesB, numbered, ayield, mapO, constAV, scAV, optval, abin, aint, acmp, aconv, aun, aeq, aminmax, afieldAddr, abuild, anew, fieldPlaces, afill, setSeg, kn_P, Nat.reduceAdd, Nat.reduceMul, Nat.reducePow, Nat.reduceSub, Nat.reduceEqDiff, Nat.reduceLT, Nat.reduceLeDiff, Int.reduceEq, Int.reduceNe, Int.reduceLT, Int.reduceLE, Int.reduceAdd, Int.reduceSub, Int.reduceToNat, Int.reduceBNe, Int.reduceBEq, tyR, rulesC, hwj]; with_reducible rfl) ?_ | with_reducible refine D.ct2 (by simp (maxSteps := 1000000) (disch := omega) only [rulesV, numbered, constAV, scAV, Nat.reduceEqDiff, Nat.reduceLT, Nat.reduceLeDiff, rulesC, hwj]; with_reducible rfl) (by with_reducible rfl) ?_ | with_reducible refine D.cf2 (by simp (maxSteps := 1000000) (disch := omega) only [rulesV, numbered, constAV, scAV, Nat.reduceEqDiff, Nat.reduceLT, Nat.reduceLeDiff, rulesC, hwj]; with_reducible rfl) (by with_reducible rfl) ?_ | with_reducible refine D.exit ?_ | with_reducible refine D.ret ?_ | simp only [rulesK, Nat.reduceEqDiff])
  exact ⟨ts.length - (j + 1), by omega, j + 1, (by first | exact rfl | exact True.intro), by omega, hk9, by exact E_le (by decide) (E_size _ _) (by simp only [List.forall_mem_cons, List.not_mem_nil, false_implies, implies_true, and_true, E_get, Nat.reduceEqDiff, Nat.reduceLT, Nat.reduceLeDiff, if_true, if_false, and_self, true_and] <;> first | rfl | exact ⟨rfl, rfl⟩)⟩
end Go.Proofs.Ytecfofmndpgnjaa.sy

/- JobsPlay (own work): the two tables beside each other. -/
namespace Go.Proofs.Ytecfofmndpgnjaa.sy
open Go.AM Go.AM.Hp Go.AM.Jb
set_option linter.unusedSimpArgs false
set_option linter.unusedVariables false
variable {G : List Nat → Option (List AV)} {base : Nat} {w0 : World}
theorem encDl (d : Dd) : (encD d).length = 5 := rfl
theorem encD1 (d : Dd) : (encD d).all AV.one = true := rfl
theorem e0Dd : [AV.int .i64 0, .int .i64 0, .int .i64 0, .int .i64 0, .bool false] = encD ⟨0, 0, 0, 0, false⟩ := rfl
theorem as49d {l : Go.AM.Loc} {off : Nat} {d : Dd} {H : AHeap} : astore (kn G base w0).c H 49 (.ptr l off) (.agg (encD d)) = wr H l off (encD d) := by simp [astore, kn_P, sz49, cells_agg, encDl]
theorem bdD {H : AHeap} (a d : Dd) : wr (hnew H (.row 49 5 (encD a))) (.own H.length) 0 (encD d) = some (hnew H (.row 49 5 (encD d))) := by
  simp only [wr, hat_nn]
  rw [if_pos ⟨by simp [encD], rfl⟩]
  simp [setSeg, encD, hnew]
/-- both tables, apart, and the deed's box -/
structure St (H : AHeap) (pj s bl k : Nat) (o : Tb) (pm : Nat) (v : AV) (bd : Nat) (d : Dd) (tj tm : List Tk) : Prop where
  j : JS H pj s bl k o tj
  m : Mx H pm k v tm
  dis : ∀ j, Blk pj s bl o j → ¬ MOwn pm v j
  box : hat H bd = some (.row 49 5 (encD d))
  nj : ∀ j, Blk pj s bl o j → j ≠ bd
  nm : ∀ j, MOwn pm v j → j ≠ bd
variable {H H1 : AHeap} {pj s bl k : Nat} {o o' : Tb} {pm : Nat} {v v' : AV} {bd : Nat} {d : Dd} {tj tm t1 : List Tk}
theorem St.toJ (h : St H pj s bl k o pm v bd d tj tm) (hJ : JS H1 pj s bl k o' t1) (hk : Kp H H1 bl o o') : St H1 pj s bl k o' pm v bd d t1 tm := by
  have hbl := hat_lt h.box
  have hB : ∀ j, JOwn bl o j → Blk pj s bl o j := fun j e => by
    rcases e with e | e
    · exact .inr (.inr (.inl e))
    · exact .inr (.inr (.inr e))
  refine ⟨hJ, h.m.keep fun j hj => hk.keep.2 j (h.m.lt hj) fun e => h.dis j (hB j e) hj, fun j hj hm => ?_, ?_, fun j hj => ?_, h.nm⟩
  · rcases hk.blk hj with e | e
    · exact h.dis j e hm
    · have := h.m.lt hm; omega
  · rw [hk.keep.2 bd hbl fun e => h.nj bd (hB _ e) rfl]; exact h.box
  · rcases hk.blk hj with e | e
    · exact h.nj j e
    · omega
theorem St.toM (h : St H pj s bl k o pm v bd d tj tm) (hM : Mx H1 pm k v' t1) (hk : Mk H H1 pm v v') : St H1 pj s bl k o pm v' bd d tj t1 := by
  have hbl := hat_lt h.box
  have hO : ∀ j, MOwn pm v' j → MOwn pm v j ∨ H.length ≤ j := fun j hj => by
    rcases hj with e | e
    · exact .inl (.inl e)
    · rcases hk.own j e with e | e
      · exact .inl (.inr e)
      · exact .inr e
  refine ⟨h.j.keep fun j hj => hk.keep.2 j (h.j.lt hj) fun e => h.dis j hj e, hM, fun j hj hm => ?_, ?_, h.nj, fun j hj => ?_⟩
  · rcases hO j hm with e | e
    · exact h.dis j hj e
    · have := h.j.lt hj; omega
  · rw [hk.keep.2 bd hbl fun e => h.nm bd e rfl]; exact h.box
  · rcases hO j hj with e | e
    · exact h.nm j e
    · omega
theorem St.keep (h : St H pj s bl k o pm v bd d tj tm) (hk : Keep H H1 (fun _ => False)) : St H1 pj s bl k o pm v bd d tj tm :=
  ⟨h.j.keepF hk, h.m.keep fun j hj => hk.2 j (h.m.lt hj) (fun e => e), h.dis, by rw [hk.2 bd (hat_lt h.box) (fun e => e)]; exact h.box, h.nj, h.nm⟩
structure Bd (c : Ctx) (H : AHeap) (bd : Nat) (d : Dd) : Prop where
  f0 : aload c H 3 (.ptr (.own bd) 0) = some (.int .i64 d.do_)
  f1 : aload c H 3 (.ptr (.own bd) 1) = some (.int .i64 d.id)
  f2 : aload c H 3 (.ptr (.own bd) 2) = some (.int .i64 d.e)
  f3 : aload c H 3 (.ptr (.own bd) 3) = some (.int .i64 d.p)
  f4 : aload c H 4 (.ptr (.own bd) 4) = some (.bool d.sp)
theorem St.ld (h : St H pj s bl k o pm v bd d tj tm) : Bd (kn G base w0).c H bd d :=
  ⟨ld_own h.box rfl ag3, ld_own h.box rfl ag3, ld_own h.box rfl ag3, ld_own h.box rfl ag3, ld_own h.box rfl ag4⟩
end Go.Proofs.Ytecfofmndpgnjaa.sy
