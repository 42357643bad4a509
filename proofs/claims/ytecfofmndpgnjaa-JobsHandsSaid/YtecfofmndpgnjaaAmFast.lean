/-
  REGIONS THAT DRAW THEIR ORDER, THE PLAIN ONES (own work): where the text alone tells that whatever may turn the heap is ordered against whatever looks at it, the text's order is run, and no more.
-/
import Derived.Test.YtecfofmndpgnjaaAmRow
namespace Go.AM
open Go.RowKit

variable {c : Ctx} {base : Nat} {w0 w : World} {ρ : Pl} {H : AHeap}

def staticOk (ops : List Oper) : Bool :=
  edgesOk ops && (apartOk ops && (List.range ops.length).all fun i => quiet (opsOf ops i).op || (List.range ops.length).all fun j => Nat.beq i j || (inOrder (Region.before ops.toArray) i j || isP (opsOf ops j).op))

theorem moves_quiet : ∀ (ops : List Oper) (H : AHeap) (t : List (Option AV × AHeap)) (i : Nat), quiet (opsOf ops i).op = true → (moves ops H t).getD i false = false
  | [], H, t, i, h => by cases t <;> simp [moves]
  | o :: r, H, [], i, h => by simp [moves]
  | o :: r, H, p :: t, 0, h => by
    have h' : quiet o.op = true := h
    simp [moves, mvOf, h']
  | o :: r, H, p :: t, i + 1, h => by
    have h' : quiet (opsOf r i).op = true := by simpa [opsOf] using h
    simpa [moves] using moves_quiet r p.2 t i h'

theorem isP_quiet {o : Op} (h : isP o = true) : quiet o = true := by cases o <;> simp_all [isP, quiet]

theorem static_reg {call : Callee} {ops : List Oper} {env : AEnv} {t : List (Option AV × AHeap)} (h : staticOk ops = true) : regOk ops (moves ops H t) (still c call ops env H t) = true := by
  simp only [staticOk, Bool.and_eq_true] at h
  obtain ⟨h1, h2, h3⟩ := h
  simp only [regOk, Bool.and_eq_true]
  refine ⟨h1, h2, List.all_eq_true.2 fun i hi => ?_⟩
  have hi' := List.all_eq_true.1 h3 i hi
  simp only [Bool.or_eq_true] at hi' ⊢
  rcases hi' with hq | ha
  · exact .inl (by rw [moves_quiet ops H t i hq]; rfl)
  · refine .inr (List.all_eq_true.2 fun j hj => ?_)
    have hj' := List.all_eq_true.1 ha j hj
    simp only [Bool.or_eq_true] at hj' ⊢
    rcases hj' with e | e | e
    · exact .inl e
    · exact .inr (.inl e)
    · refine .inr (.inr ?_)
      simp only [still, moves_quiet ops H t j (isP_quiet e), e, Bool.not_false, Bool.true_or, Bool.true_and]

theorem trace_of_steps {call : Callee} {ops : List Oper} : ∀ {r : List Oper} {env env' : AEnv} {H H' : AHeap}, asteps c call ops r env H = some (env', H') → ∃ t, trace c call ops r env H = some t
  | [], env, env', H, H', e => ⟨[], rfl⟩
  | o :: r, env, env', H, H', e => by
    simp only [asteps, astep_stepV, Option.bind_eq_some_iff] at e
    obtain ⟨⟨env1, H1⟩, h1, h2⟩ := e
    simp only [Option.map_eq_some_iff] at h1
    obtain ⟨p, hp, hq⟩ := h1
    cases hq
    obtain ⟨t, ht⟩ := trace_of_steps h2
    exact ⟨p :: t, by simp only [trace, hp, Option.bind_some, ht]⟩

def drawRunB : DrawOk := fun c call ops env H => match staticOk ops with
  | true => asteps c call ops ops env H
  | false => drawRunA c call ops env H

theorem drawB_sound (hm : c.P.follows .mixedOrders = true) (call : Callee) (hc : CallOK c base w0 call) : DrawOKs c base w0 drawRunB call := by
  intro id ops env env' H H' e ρ w a h hf he
  simp only [drawRunB] at e
  split at e
  · rename_i hs
    refine order_sound hm call hc id ops env env' H H' ?_ e ρ w a h hf he
    obtain ⟨t, ht⟩ := trace_of_steps e
    simp only [drawOk, ht]
    exact static_reg hs
  · exact drawA_sound hm call hc id ops env env' H H' e ρ w a h hf he
end Go.AM
