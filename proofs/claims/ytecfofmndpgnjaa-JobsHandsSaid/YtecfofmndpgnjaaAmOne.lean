/-
  A REGION THAT DRAWS ITS ORDER with one call that only adds, and new things behind it in the text (own work).
-/
import Derived.Test.YtecfofmndpgnjaaAmRows
namespace Go.AM
open Go.RowKit
set_option linter.unusedSimpArgs false
set_option linter.unusedVariables false

variable {c : Ctx} {base : Nat} {w0 w : World} {ρ : Pl} {H : AHeap}

def oneCallOk (ops : List Oper) (q : Nat) : Bool := edgesOk ops && (apartOk ops && (Nat.blt q ops.length && (List.range ops.length).all fun j => if Nat.beq j q then true else plainOper (opsOf ops j) && (!Nat.blt j q || isP (opsOf ops j).op)))

variable {κ : Kn} {T : FuncId → Spec} {env : AEnv} {K : AExit → AEnv → AHeap → Prop}
theorem D.oneCall {id : Nat} {ops : Array Oper} {env' : AEnv} {H' H1 : AHeap} (q : Nat) (hs : oneCallOk ops.toList q = true) (h : asteps κ.c (callT κ T) ops.toList ops.toList env H = some (env', H'))
    (hq : ∃ e, asteps κ.c (callT κ T) ops.toList (ops.toList.take (q + 1)) env H = some (e, H1)) (hk : Keep H H1 (fun _ => False)) (k : K .normal env' H') : D κ (.region id ops true) env H K := by
  refine ⟨.normal, env', H', k, fun ρ w a hr hf he => ?_⟩
  obtain ⟨t, ht⟩ := trace_of_steps h
  have h2 := endOf_steps ht
  rw [h, Option.some.injEq] at h2
  refine free_sound κ.mixed _ (callT_ok T) id ops env env' H H' t ht ?_ h2.symm ρ w a hr hf he
  have low := trace_low (callT_ok T) ht hr hf he
  have hst := trace_at ht
  generalize ops.toList = ops at *
  simp only [oneCallOk, Bool.and_eq_true, List.all_eq_true, List.mem_range] at hs
  obtain ⟨h1, h2', h3, h4⟩ := hs
  rw [Nat.blt_eq] at h3
  have h4' : ∀ j, j < ops.length → j ≠ q → plainOper (opsOf ops j) = true ∧ (j < q → isP (opsOf ops j).op = true) := by
    intro j hj hne
    have := h4 j hj
    rw [if_neg (fun e => hne (Nat.eq_of_beq_eq_true e))] at this
    simp only [Bool.and_eq_true, Bool.or_eq_true, Bool.not_eq_true'] at this
    refine ⟨this.1, fun hlt => ?_⟩
    rcases this.2 with g | g
    · have : Nat.blt j q = true := by rw [Nat.blt_eq]; exact hlt
      rw [this] at g; cases g
    · exact g
  have hat' : ∀ j, j < ops.length → ops[j]? = some (opsOf ops j) := fun j hj => opsOf_get hj
  have hHq : ∀ j, j ≤ q → heapsOf H t j = H := by
    intro j
    induction j with
    | zero => intro _; rfl
    | succ j ih =>
      intro hj
      obtain ⟨e1, _⟩ := isP_stepV ((h4' j (by omega) (by omega)).2 (by omega)) (hst j _ (hat' j (by omega)))
      exact Eq.trans e1 (ih (by omega))
  have hH1 : heapsOf H t (q + 1) = H1 := by
    obtain ⟨e, hpre⟩ := hq
    obtain ⟨e2, hpre2⟩ := take_trace ht (q + 1) (by omega)
    rw [hpre, Option.some.injEq, Prod.mk.injEq] at hpre2
    exact hpre2.2.symm
  have hpre1 : H1.take H.length = H := by
    refine hat_ext (by rw [List.length_take]; have := hk.1; omega) fun b => ?_
    rw [hat_take]
    by_cases hb : b < H.length
    · rw [if_pos hb, hk.2 b hb (fun e => e)]
    · rw [if_neg hb, hat_none (by omega)]
  simp only [freeOk, Bool.and_eq_true, List.all_eq_true, List.mem_range]
  refine ⟨h1, by simpa only [apartOk, List.all_eq_true, List.mem_range] using h2', fun j hj => ?_⟩
  obtain ⟨i2, i1, i0⟩ := low j (by omega)
  simp only [freeAt, Bool.and_eq_true]
  by_cases hjq : j = q
  · subst hjq
    have e0 := hHq j (Nat.le_refl _)
    have hm : mask (keepS (fun k => (heapsOf H t k).length) ops.length fun i => ((Region.before ops.toArray).getD j 0).testBit i) 0 (heapsOf H t j) = heapsOf H t j := by
      refine mask_all fun i hi => ?_
      rw [e0] at hi
      exact keepS_iff.2 (.inl hi)
    rw [hm]
    refine ⟨?_, i2, ?_⟩
    · rw [hH1, e0, hpre1]; exact heapEq_refl _
    · have hm2 : mask (keepS (fun k => (heapsOf H t k).length) ops.length fun i => ((Region.before ops.toArray).getD j 0).testBit i || Nat.beq i j) 0 (heapsOf H t (j + 1)) = heapsOf H t (j + 1) := by
        refine mask_all fun i hi => ?_
        rcases Nat.lt_or_ge i H.length with h' | h'
        · exact keepS_iff.2 (.inl h')
        · exact keepS_iff.2 (.inr ⟨j, hj, by simp, by rw [e0]; exact h', hi⟩)
      rw [hm2, stepV_congr (fun t' => i1.eq t')]
      rw [hst j _ (hat' j hj)]
      show sameStep (some ((t.getD j dft).1, heapsOf H t (j + 1))) _ _ = true
      cases (t.getD j dft).1 <;> simp [sameStep, AV.beq_refl, heapEq_refl]
  · obtain ⟨hp, _⟩ := h4' j hj hjq
    have hop : plainOp (opsOf ops j).op = true := by simp only [plainOper, Bool.and_eq_true] at hp; exact hp.1
    have hs' := hst j _ (hat' j hj)
    rw [stepV_plain hp, Option.bind_eq_some_iff] at hs'
    obtain ⟨⟨r, K0⟩, ha, hs'⟩ := hs'
    obtain ⟨v, rfl, hv⟩ := plain_step hop i1 ha
    simp only [Option.some.injEq] at hs'
    have e1 : (t.getD j dft).1 = some v := (congrArg Prod.fst hs').symm
    have e2 : heapsOf H t (j + 1) = K0 := (congrArg Prod.snd hs').symm
    have keep : ∀ (B : Nat → Bool) i, i < (heapsOf H t j).length → keepS (fun k => (heapsOf H t k).length) ops.length B i = keepS (fun k => (heapsOf H t k).length) ops.length (fun k => B k || Nat.beq k j) i := by
      intro B i hi
      rw [Bool.eq_iff_iff, keepS_iff, keepS_iff]
      constructor
      · rintro (h | ⟨k, a1, a2, a3⟩)
        · exact .inl h
        · exact .inr ⟨k, a1, by rw [a2]; rfl, a3⟩
      · rintro (h | ⟨k, a1, a2, a3⟩)
        · exact .inl h
        · refine .inr ⟨k, a1, ?_, a3⟩
          rw [Bool.or_eq_true] at a2
          rcases a2 with a2 | a2
          · exact a2
          · have := Nat.eq_of_beq_eq_true a2; subst this; omega
    refine ⟨?_, heapLow_iff.2 fun o ho => heapLow_iff.1 i2 o (mask_mem ho), ?_⟩
    · rw [e2]
      rcases hv with ⟨g, _, _⟩ | ⟨ob, g, _, _, _⟩
      · rw [g, List.take_of_length_le (Nat.le_refl _)]; exact heapEq_refl _
      · rw [g, List.take_left' rfl]; exact heapEq_refl _
    · rw [stepV_plain hp, plain_congr (fun t => i1.eq t) hop, e1]
      rcases hv with ⟨g, _, e3⟩ | ⟨ob, g, _, _, e3⟩
      · rw [e3, e2, g, mask_congr (keep _)]
        simp only [Option.bind_some, sameStep, AV.beq_refl, heapEq_refl, Bool.and_self]
      · rw [e3 _ mask_len]
        have : keepS (fun k => (heapsOf H t k).length) ops.length (fun k => ((Region.before ops.toArray).getD j 0).testBit k || Nat.beq k j) (0 + (heapsOf H t j).length) = true := by
          refine keepS_iff.2 (.inr ⟨j, hj, ?_, by omega, ?_⟩)
          · rw [Bool.or_eq_true]; exact .inr (Nat.beq_refl j)
          · rw [e2, g]; simp
        rw [e2, g, mask_app, mask_congr (keep _), this]
        simp only [Option.bind_some, sameStep, AV.beq_refl, heapEq_refl, Bool.and_self, if_true]
end Go.AM
