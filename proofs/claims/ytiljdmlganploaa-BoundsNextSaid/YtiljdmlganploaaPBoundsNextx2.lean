/- The machine's side of the law, written by the kit's print program for the functions that it takes. -/
import Derived.Test.YtiljdmlganploaaPBoundsNextx0
namespace Go.Proofs.Ytiljdmlganploaa.PBoundsNext
open Go.RowKit Go.Proofs.YtiljdmlganploaaW.PrintWords Go.Proofs.YtiljdmlganploaaW.PrintLast Go.Proofs.YtiljdmlganploaaW.PrintMore
attribute [local go_sem] max2_int min2_int max_two min_two max_three min_three max_four min_four   -- for this text's walks alone
set_option linter.unusedVariables false
set_option linter.unusedSimpArgs false

/-! ### evenhandedref12_Bound: function 11 -/
def evenhandedref12_Bound.l0 : Nat → List (S25) → Int → Int → Bool → Int → Option (Int × Bool)
  | 0, _, _, _, _, _ => none
  | k + 1, x0, x1, x6, x7, x8 => if x8 < (x0.length : Int) then (if 0 ≤ x8 then (if (rd_T25 x0 x8).f6 = true then (if (wrap64 (((rd_T25 x0 x8).f7) + ((rd_T25 x0 x8).f2))) > x1 then (if x7 = true then (if (wrap64 (((rd_T25 x0 x8).f7) + ((rd_T25 x0 x8).f2))) < x6 then (evenhandedref12_Bound.l0 k x0 x1 (wrap64 (((rd_T25 x0 x8).f7) + ((rd_T25 x0 x8).f2))) true (wrap64 (x8 + 1))) else (evenhandedref12_Bound.l0 k x0 x1 x6 x7 (wrap64 (x8 + 1)))) else (evenhandedref12_Bound.l0 k x0 x1 (wrap64 (((rd_T25 x0 x8).f7) + ((rd_T25 x0 x8).f2))) true (wrap64 (x8 + 1)))) else (evenhandedref12_Bound.l0 k x0 x1 x6 x7 (wrap64 (x8 + 1)))) else (evenhandedref12_Bound.l0 k x0 x1 x6 x7 (wrap64 (x8 + 1)))) else (none)) else (some (x6, x7))
def evenhandedref12_Bound.f (k : Nat) (l0 : List (S25)) (a1 : Int) : Option (Int × Bool) := evenhandedref12_Bound.l0 k l0 a1 0 false 0
theorem evenhandedref12_Bound.mono_l : ∀ k, (∀ y0 y1 y2 y3 y4, LeO (evenhandedref12_Bound.l0 k y0 y1 y2 y3 y4) (evenhandedref12_Bound.l0 (k + 1) y0 y1 y2 y3 y4))
  | 0 => fun _ _ _ _ _ r h => by simp [evenhandedref12_Bound.l0] at h
  | k + 1 => by
    have ih0 := evenhandedref12_Bound.mono_l k
    · intro y0 y1 y2 y3 y4
      unfold evenhandedref12_Bound.l0
      repeat' first
      | (with_reducible exact ih0 _ _ _ _ _)
      | (with_reducible exact LeO.refl _)
      | (with_reducible exact LeO.none _)
      | (with_reducible refine LeO.ite ?_ ?_)
      | (with_reducible refine LeO.bind ?_ (fun _ => ?_))
      | exact ih0 _ _ _ _ _
      | exact LeO.none _
      | refine LeO.ite ?_ ?_
      | refine LeO.bind ?_ (fun _ => ?_)
theorem evenhandedref12_Bound.mono : ∀ a0 a1 k, LeO (evenhandedref12_Bound.f k a0 a1) (evenhandedref12_Bound.f (k + 1) a0 a1) := by
  intro a0 a1 k
  have ih0 := evenhandedref12_Bound.mono_l k
  unfold evenhandedref12_Bound.f
  repeat' first
      | (with_reducible exact ih0 _ _ _ _ _)
      | (with_reducible exact LeO.refl _)
      | (with_reducible exact LeO.none _)
      | (with_reducible refine LeO.ite ?_ ?_)
      | (with_reducible refine LeO.bind ?_ (fun _ => ?_))
      | exact ih0 _ _ _ _ _
      | exact LeO.none _
      | refine LeO.ite ?_ ?_
      | refine LeO.bind ?_ (fun _ => ?_)
set_option maxHeartbeats 8000000 in
set_option maxRecDepth 100000 in
theorem evenhandedref12_Bound.calls (k : Nat) (A0 : Option Addr) (c0 : Nat) (l0 : List (S25)) (a1 : Int) (r1 : Int) (r2 : Bool) (w : World) (hr0 : Kd.C k25 w A0 l0.length l0) (hc0 : l0.length ≤ c0) (h : evenhandedref12_Bound.f k l0 a1 = some (r1, r2)) :
    Calls Try.prog 11 #[.slice A0 l0.length c0, .int .i64 a1] w fun e w' => e = .returned (.tuple #[.int .i64 r1, .bool r2]) ∧ Drawn0 w w' := by
  have HR0 := Aside0.mk hr0
  have HC0 := Aside0.mk hc0
  clear hr0 hc0
  have H : (evenhandedref12_Bound.l0 k l0 a1 0 false 0) = some (r1, r2) := h
  clear h
  have H' := Aside0.mk H
  clear H
  go_enter Try.func11, Try.ntmps11
  go_wp2
  repeat (go_quiet (fail); try go_wp2)
  go_loopg [6, 7, 8] k (fun kq v6 v7 v8 w' => ∃ (x6_1 : Int) (x7_1 : Bool) (x8_1 : Int), v6 = .int .i64 x6_1 ∧ v7 = .bool x7_1 ∧ v8 = .int .i64 x8_1 ∧ Aside0 (evenhandedref12_Bound.l0 kq l0 a1 x6_1 x7_1 x8_1 = some (r1, r2)) ∧ Aside0 (kq ≤ k) ∧ Drawn0 w w')
  case atStart => exact ⟨(0), (false), (0), (by first | rfl | (simp; done) | (simp [*]; done)), (by first | rfl | (simp; done) | (simp [*]; done)), (by first | rfl | (simp; done) | (simp [*]; done)), H', ⟨Nat.le_refl _⟩, by repeat (first | exact Drawn0.refl _ | apply Drawn0.step)⟩
  case round =>
    clear H'
    try clear c1
    try clear p2
    obtain ⟨x6_1, x7_1, x8_1, rfl, rfl, rfl, HA, HK1, ⟨m1, rfl⟩⟩ := hrel
    cases gk with
    | zero => exact absurd HA.out (by simp [evenhandedref12_Bound.l0])
    | succ k1 =>
      have H := HA.out
      clear HA
      simp only [evenhandedref12_Bound.l0] at H
      by_cases c3 : x8_1 < (l0.length : Int)
      · rw [if_pos c3] at H
        have c3b0 : decide (x8_1 < (l0.length : Int)) = true := decide_eq_true c3
        clear c3
        by_cases c4 : 0 ≤ x8_1
        · rw [if_pos c4] at H
          have c4b0 : decide (0 ≤ x8_1) = true := decide_eq_true c4
          clear c4
          obtain ⟨bq5, hbq5⟩ : ∃ b_ : Bool, b_ = ((rd_T25 l0 x8_1).f6) := ⟨_, rfl⟩
          replace H : (if bq5 = true then (if (wrap64 (((rd_T25 l0 x8_1).f7) + ((rd_T25 l0 x8_1).f2))) > a1 then (if x7_1 = true then (if (wrap64 (((rd_T25 l0 x8_1).f7) + ((rd_T25 l0 x8_1).f2))) < x6_1 then (evenhandedref12_Bound.l0 k1 l0 a1 (wrap64 (((rd_T25 l0 x8_1).f7) + ((rd_T25 l0 x8_1).f2))) true (wrap64 (x8_1 + 1))) else (evenhandedref12_Bound.l0 k1 l0 a1 x6_1 x7_1 (wrap64 (x8_1 + 1)))) else (evenhandedref12_Bound.l0 k1 l0 a1 (wrap64 (((rd_T25 l0 x8_1).f7) + ((rd_T25 l0 x8_1).f2))) true (wrap64 (x8_1 + 1)))) else (evenhandedref12_Bound.l0 k1 l0 a1 x6_1 x7_1 (wrap64 (x8_1 + 1)))) else (evenhandedref12_Bound.l0 k1 l0 a1 x6_1 x7_1 (wrap64 (x8_1 + 1)))) = some (r1, r2) := by rw [← hbq5] at H; exact H
          have Nbq5 := Aside0.mk hbq5
          clear hbq5
          by_cases c6 : bq5 = true
          · subst c6
            have H1 : (if (wrap64 (((rd_T25 l0 x8_1).f7) + ((rd_T25 l0 x8_1).f2))) > a1 then (if x7_1 = true then (if (wrap64 (((rd_T25 l0 x8_1).f7) + ((rd_T25 l0 x8_1).f2))) < x6_1 then (evenhandedref12_Bound.l0 k1 l0 a1 (wrap64 (((rd_T25 l0 x8_1).f7) + ((rd_T25 l0 x8_1).f2))) true (wrap64 (x8_1 + 1))) else (evenhandedref12_Bound.l0 k1 l0 a1 x6_1 x7_1 (wrap64 (x8_1 + 1)))) else (evenhandedref12_Bound.l0 k1 l0 a1 (wrap64 (((rd_T25 l0 x8_1).f7) + ((rd_T25 l0 x8_1).f2))) true (wrap64 (x8_1 + 1)))) else (evenhandedref12_Bound.l0 k1 l0 a1 x6_1 x7_1 (wrap64 (x8_1 + 1)))) = some (r1, r2) := by rw [if_pos rfl] at H; exact H
            clear H
            have H := H1
            clear H1
            by_cases c7 : (wrap64 (((rd_T25 l0 x8_1).f7) + ((rd_T25 l0 x8_1).f2))) > a1
            · rw [if_pos c7] at H
              have c7b0 : decide (a1 < (wrap64 (((rd_T25 l0 x8_1).f7) + ((rd_T25 l0 x8_1).f2)))) = true := decide_eq_true c7
              clear c7
              by_cases c8 : x7_1 = true
              · subst c8
                have H1 : (if (wrap64 (((rd_T25 l0 x8_1).f7) + ((rd_T25 l0 x8_1).f2))) < x6_1 then (evenhandedref12_Bound.l0 k1 l0 a1 (wrap64 (((rd_T25 l0 x8_1).f7) + ((rd_T25 l0 x8_1).f2))) true (wrap64 (x8_1 + 1))) else (evenhandedref12_Bound.l0 k1 l0 a1 x6_1 true (wrap64 (x8_1 + 1)))) = some (r1, r2) := by rw [if_pos rfl] at H; exact H
                clear H
                have H := H1
                clear H1
                by_cases c9 : (wrap64 (((rd_T25 l0 x8_1).f7) + ((rd_T25 l0 x8_1).f2))) < x6_1
                · rw [if_pos c9] at H
                  have c9b0 : decide ((wrap64 (((rd_T25 l0 x8_1).f7) + ((rd_T25 l0 x8_1).f2))) < x6_1) = true := decide_eq_true c9
                  clear c9
                  have H' := Aside0.mk H
                  clear H
                  have p148 : 0 ≤ (x8_1 : Int) := of_decide_eq_true (by first | (with_reducible assumption) | assumption)
                  have q148 : x8_1 < (l0.length : Int) := of_decide_eq_true (by first | (with_reducible assumption) | assumption)
                  obtain ⟨ad148, e148, hx148_0, hx148_1, hx148_2, hx148_3, hx148_4, hx148_5, hx148_6, hx148_7, hx148_8, hx148_9, hx148_10⟩ := at_T25 HR0.out x8_1 p148 q148
                  (try rw [← Nbq5.out] at hx148_3)
                  (try rw [← Nbq5.out] at hx148_4)
                  (try rw [← Nbq5.out] at hx148_5)
                  (try rw [← Nbq5.out] at hx148_6)
                  (try rw [← Nbq5.out] at hx148_9)
                  cases e148
                  replace p148 := eq_true p148
                  replace q148 := eq_true q148
                  have p149 : 0 ≤ (x8_1 : Int) := of_decide_eq_true (by first | (with_reducible assumption) | assumption)
                  have q149 : x8_1 < (l0.length : Int) := of_decide_eq_true (by first | (with_reducible assumption) | assumption)
                  obtain ⟨ad149, e149, hx149_0, hx149_1, hx149_2, hx149_3, hx149_4, hx149_5, hx149_6, hx149_7, hx149_8, hx149_9, hx149_10⟩ := at_T25 HR0.out x8_1 p149 q149
                  (try rw [← Nbq5.out] at hx149_3)
                  (try rw [← Nbq5.out] at hx149_4)
                  (try rw [← Nbq5.out] at hx149_5)
                  (try rw [← Nbq5.out] at hx149_6)
                  (try rw [← Nbq5.out] at hx149_9)
                  obtain rfl : ad148 = ad149 := (by injection e149)
                  replace p149 := eq_true p149
                  replace q149 := eq_true q149
                  have p150 : 0 ≤ (x8_1 : Int) := of_decide_eq_true (by first | (with_reducible assumption) | assumption)
                  have q150 : x8_1 < (l0.length : Int) := of_decide_eq_true (by first | (with_reducible assumption) | assumption)
                  obtain ⟨ad150, e150, hx150_0, hx150_1, hx150_2, hx150_3, hx150_4, hx150_5, hx150_6, hx150_7, hx150_8, hx150_9, hx150_10⟩ := at_T25 HR0.out x8_1 p150 q150
                  (try rw [← Nbq5.out] at hx150_3)
                  (try rw [← Nbq5.out] at hx150_4)
                  (try rw [← Nbq5.out] at hx150_5)
                  (try rw [← Nbq5.out] at hx150_6)
                  (try rw [← Nbq5.out] at hx150_9)
                  obtain rfl : ad148 = ad150 := (by injection e150)
                  replace p150 := eq_true p150
                  replace q150 := eq_true q150
                  go_wp2
                  repeat (go_quiet (fail); try go_wp2)
                  go_roundg k1
                  case measure => have := HK1.out; omega
                  case rel => exact ⟨(wrap64 (((rd_T25 l0 x8_1).f7) + ((rd_T25 l0 x8_1).f2))), (true), (wrap64 (x8_1 + 1)), (by first | rfl | (simp; done) | (simp [*]; done)), (by first | rfl | (simp; done) | (simp [*]; done)), (by first | rfl | (simp; done) | (simp [*]; done)), H', ⟨by have := HK1.out; omega⟩, by repeat (first | exact Drawn0.refl _ | apply Drawn0.step)⟩
                · rw [if_neg c9] at H
                  have c9b0 : decide ((wrap64 (((rd_T25 l0 x8_1).f7) + ((rd_T25 l0 x8_1).f2))) < x6_1) = false := decide_eq_false c9
                  clear c9
                  have H' := Aside0.mk H
                  clear H
                  have p148 : 0 ≤ (x8_1 : Int) := of_decide_eq_true (by first | (with_reducible assumption) | assumption)
                  have q148 : x8_1 < (l0.length : Int) := of_decide_eq_true (by first | (with_reducible assumption) | assumption)
                  obtain ⟨ad148, e148, hx148_0, hx148_1, hx148_2, hx148_3, hx148_4, hx148_5, hx148_6, hx148_7, hx148_8, hx148_9, hx148_10⟩ := at_T25 HR0.out x8_1 p148 q148
                  (try rw [← Nbq5.out] at hx148_3)
                  (try rw [← Nbq5.out] at hx148_4)
                  (try rw [← Nbq5.out] at hx148_5)
                  (try rw [← Nbq5.out] at hx148_6)
                  (try rw [← Nbq5.out] at hx148_9)
                  cases e148
                  replace p148 := eq_true p148
                  replace q148 := eq_true q148
                  have p149 : 0 ≤ (x8_1 : Int) := of_decide_eq_true (by first | (with_reducible assumption) | assumption)
                  have q149 : x8_1 < (l0.length : Int) := of_decide_eq_true (by first | (with_reducible assumption) | assumption)
                  obtain ⟨ad149, e149, hx149_0, hx149_1, hx149_2, hx149_3, hx149_4, hx149_5, hx149_6, hx149_7, hx149_8, hx149_9, hx149_10⟩ := at_T25 HR0.out x8_1 p149 q149
                  (try rw [← Nbq5.out] at hx149_3)
                  (try rw [← Nbq5.out] at hx149_4)
                  (try rw [← Nbq5.out] at hx149_5)
                  (try rw [← Nbq5.out] at hx149_6)
                  (try rw [← Nbq5.out] at hx149_9)
                  obtain rfl : ad148 = ad149 := (by injection e149)
                  replace p149 := eq_true p149
                  replace q149 := eq_true q149
                  have p150 : 0 ≤ (x8_1 : Int) := of_decide_eq_true (by first | (with_reducible assumption) | assumption)
                  have q150 : x8_1 < (l0.length : Int) := of_decide_eq_true (by first | (with_reducible assumption) | assumption)
                  obtain ⟨ad150, e150, hx150_0, hx150_1, hx150_2, hx150_3, hx150_4, hx150_5, hx150_6, hx150_7, hx150_8, hx150_9, hx150_10⟩ := at_T25 HR0.out x8_1 p150 q150
                  (try rw [← Nbq5.out] at hx150_3)
                  (try rw [← Nbq5.out] at hx150_4)
                  (try rw [← Nbq5.out] at hx150_5)
                  (try rw [← Nbq5.out] at hx150_6)
                  (try rw [← Nbq5.out] at hx150_9)
                  obtain rfl : ad148 = ad150 := (by injection e150)
                  replace p150 := eq_true p150
                  replace q150 := eq_true q150
                  go_wp2
                  repeat (go_quiet (fail); try go_wp2)
                  go_roundg k1
                  case measure => have := HK1.out; omega
                  case rel => exact ⟨(x6_1), (true), (wrap64 (x8_1 + 1)), (by first | rfl | (simp; done) | (simp [*]; done)), (by first | rfl | (simp; done) | (simp [*]; done)), (by first | rfl | (simp; done) | (simp [*]; done)), H', ⟨by have := HK1.out; omega⟩, by repeat (first | exact Drawn0.refl _ | apply Drawn0.step)⟩
              · replace c8 := Bool.eq_false_iff.mpr c8
                subst c8
                have H1 : (evenhandedref12_Bound.l0 k1 l0 a1 (wrap64 (((rd_T25 l0 x8_1).f7) + ((rd_T25 l0 x8_1).f2))) true (wrap64 (x8_1 + 1))) = some (r1, r2) := by rw [if_neg (show ¬ (false = true) by decide)] at H; exact H
                clear H
                have H := H1
                clear H1
                have H' := Aside0.mk H
                clear H
                have p148 : 0 ≤ (x8_1 : Int) := of_decide_eq_true (by first | (with_reducible assumption) | assumption)
                have q148 : x8_1 < (l0.length : Int) := of_decide_eq_true (by first | (with_reducible assumption) | assumption)
                obtain ⟨ad148, e148, hx148_0, hx148_1, hx148_2, hx148_3, hx148_4, hx148_5, hx148_6, hx148_7, hx148_8, hx148_9, hx148_10⟩ := at_T25 HR0.out x8_1 p148 q148
                (try rw [← Nbq5.out] at hx148_3)
                (try rw [← Nbq5.out] at hx148_4)
                (try rw [← Nbq5.out] at hx148_5)
                (try rw [← Nbq5.out] at hx148_6)
                (try rw [← Nbq5.out] at hx148_9)
                cases e148
                replace p148 := eq_true p148
                replace q148 := eq_true q148
                have p149 : 0 ≤ (x8_1 : Int) := of_decide_eq_true (by first | (with_reducible assumption) | assumption)
                have q149 : x8_1 < (l0.length : Int) := of_decide_eq_true (by first | (with_reducible assumption) | assumption)
                obtain ⟨ad149, e149, hx149_0, hx149_1, hx149_2, hx149_3, hx149_4, hx149_5, hx149_6, hx149_7, hx149_8, hx149_9, hx149_10⟩ := at_T25 HR0.out x8_1 p149 q149
                (try rw [← Nbq5.out] at hx149_3)
                (try rw [← Nbq5.out] at hx149_4)
                (try rw [← Nbq5.out] at hx149_5)
                (try rw [← Nbq5.out] at hx149_6)
                (try rw [← Nbq5.out] at hx149_9)
                obtain rfl : ad148 = ad149 := (by injection e149)
                replace p149 := eq_true p149
                replace q149 := eq_true q149
                have p150 : 0 ≤ (x8_1 : Int) := of_decide_eq_true (by first | (with_reducible assumption) | assumption)
                have q150 : x8_1 < (l0.length : Int) := of_decide_eq_true (by first | (with_reducible assumption) | assumption)
                obtain ⟨ad150, e150, hx150_0, hx150_1, hx150_2, hx150_3, hx150_4, hx150_5, hx150_6, hx150_7, hx150_8, hx150_9, hx150_10⟩ := at_T25 HR0.out x8_1 p150 q150
                (try rw [← Nbq5.out] at hx150_3)
                (try rw [← Nbq5.out] at hx150_4)
                (try rw [← Nbq5.out] at hx150_5)
                (try rw [← Nbq5.out] at hx150_6)
                (try rw [← Nbq5.out] at hx150_9)
                obtain rfl : ad148 = ad150 := (by injection e150)
                replace p150 := eq_true p150
                replace q150 := eq_true q150
                go_wp2
                repeat (go_quiet (fail); try go_wp2)
                go_roundg k1
                case measure => have := HK1.out; omega
                case rel => exact ⟨(wrap64 (((rd_T25 l0 x8_1).f7) + ((rd_T25 l0 x8_1).f2))), (true), (wrap64 (x8_1 + 1)), (by first | rfl | (simp; done) | (simp [*]; done)), (by first | rfl | (simp; done) | (simp [*]; done)), (by first | rfl | (simp; done) | (simp [*]; done)), H', ⟨by have := HK1.out; omega⟩, by repeat (first | exact Drawn0.refl _ | apply Drawn0.step)⟩
            · rw [if_neg c7] at H
              have c7b0 : decide (a1 < (wrap64 (((rd_T25 l0 x8_1).f7) + ((rd_T25 l0 x8_1).f2)))) = false := decide_eq_false c7
              clear c7
              have H' := Aside0.mk H
              clear H
              have p148 : 0 ≤ (x8_1 : Int) := of_decide_eq_true (by first | (with_reducible assumption) | assumption)
              have q148 : x8_1 < (l0.length : Int) := of_decide_eq_true (by first | (with_reducible assumption) | assumption)
              obtain ⟨ad148, e148, hx148_0, hx148_1, hx148_2, hx148_3, hx148_4, hx148_5, hx148_6, hx148_7, hx148_8, hx148_9, hx148_10⟩ := at_T25 HR0.out x8_1 p148 q148
              (try rw [← Nbq5.out] at hx148_3)
              (try rw [← Nbq5.out] at hx148_4)
              (try rw [← Nbq5.out] at hx148_5)
              (try rw [← Nbq5.out] at hx148_6)
              (try rw [← Nbq5.out] at hx148_9)
              cases e148
              replace p148 := eq_true p148
              replace q148 := eq_true q148
              have p149 : 0 ≤ (x8_1 : Int) := of_decide_eq_true (by first | (with_reducible assumption) | assumption)
              have q149 : x8_1 < (l0.length : Int) := of_decide_eq_true (by first | (with_reducible assumption) | assumption)
              obtain ⟨ad149, e149, hx149_0, hx149_1, hx149_2, hx149_3, hx149_4, hx149_5, hx149_6, hx149_7, hx149_8, hx149_9, hx149_10⟩ := at_T25 HR0.out x8_1 p149 q149
              (try rw [← Nbq5.out] at hx149_3)
              (try rw [← Nbq5.out] at hx149_4)
              (try rw [← Nbq5.out] at hx149_5)
              (try rw [← Nbq5.out] at hx149_6)
              (try rw [← Nbq5.out] at hx149_9)
              obtain rfl : ad148 = ad149 := (by injection e149)
              replace p149 := eq_true p149
              replace q149 := eq_true q149
              have p150 : 0 ≤ (x8_1 : Int) := of_decide_eq_true (by first | (with_reducible assumption) | assumption)
              have q150 : x8_1 < (l0.length : Int) := of_decide_eq_true (by first | (with_reducible assumption) | assumption)
              obtain ⟨ad150, e150, hx150_0, hx150_1, hx150_2, hx150_3, hx150_4, hx150_5, hx150_6, hx150_7, hx150_8, hx150_9, hx150_10⟩ := at_T25 HR0.out x8_1 p150 q150
              (try rw [← Nbq5.out] at hx150_3)
              (try rw [← Nbq5.out] at hx150_4)
              (try rw [← Nbq5.out] at hx150_5)
              (try rw [← Nbq5.out] at hx150_6)
              (try rw [← Nbq5.out] at hx150_9)
              obtain rfl : ad148 = ad150 := (by injection e150)
              replace p150 := eq_true p150
              replace q150 := eq_true q150
              go_wp2
              repeat (go_quiet (fail); try go_wp2)
              go_roundg k1
              case measure => have := HK1.out; omega
              case rel => exact ⟨(x6_1), (x7_1), (wrap64 (x8_1 + 1)), (by first | rfl | (simp; done) | (simp [*]; done)), (by first | rfl | (simp; done) | (simp [*]; done)), (by first | rfl | (simp; done) | (simp [*]; done)), H', ⟨by have := HK1.out; omega⟩, by repeat (first | exact Drawn0.refl _ | apply Drawn0.step)⟩
          · replace c6 := Bool.eq_false_iff.mpr c6
            subst c6
            have H1 : (evenhandedref12_Bound.l0 k1 l0 a1 x6_1 x7_1 (wrap64 (x8_1 + 1))) = some (r1, r2) := by rw [if_neg (show ¬ (false = true) by decide)] at H; exact H
            clear H
            have H := H1
            clear H1
            have H' := Aside0.mk H
            clear H
            have p148 : 0 ≤ (x8_1 : Int) := of_decide_eq_true (by first | (with_reducible assumption) | assumption)
            have q148 : x8_1 < (l0.length : Int) := of_decide_eq_true (by first | (with_reducible assumption) | assumption)
            obtain ⟨ad148, e148, hx148_0, hx148_1, hx148_2, hx148_3, hx148_4, hx148_5, hx148_6, hx148_7, hx148_8, hx148_9, hx148_10⟩ := at_T25 HR0.out x8_1 p148 q148
            (try rw [← Nbq5.out] at hx148_3)
            (try rw [← Nbq5.out] at hx148_4)
            (try rw [← Nbq5.out] at hx148_5)
            (try rw [← Nbq5.out] at hx148_6)
            (try rw [← Nbq5.out] at hx148_9)
            cases e148
            replace p148 := eq_true p148
            replace q148 := eq_true q148
            have p149 : 0 ≤ (x8_1 : Int) := of_decide_eq_true (by first | (with_reducible assumption) | assumption)
            have q149 : x8_1 < (l0.length : Int) := of_decide_eq_true (by first | (with_reducible assumption) | assumption)
            obtain ⟨ad149, e149, hx149_0, hx149_1, hx149_2, hx149_3, hx149_4, hx149_5, hx149_6, hx149_7, hx149_8, hx149_9, hx149_10⟩ := at_T25 HR0.out x8_1 p149 q149
            (try rw [← Nbq5.out] at hx149_3)
            (try rw [← Nbq5.out] at hx149_4)
            (try rw [← Nbq5.out] at hx149_5)
            (try rw [← Nbq5.out] at hx149_6)
            (try rw [← Nbq5.out] at hx149_9)
            obtain rfl : ad148 = ad149 := (by injection e149)
            replace p149 := eq_true p149
            replace q149 := eq_true q149
            have p150 : 0 ≤ (x8_1 : Int) := of_decide_eq_true (by first | (with_reducible assumption) | assumption)
            have q150 : x8_1 < (l0.length : Int) := of_decide_eq_true (by first | (with_reducible assumption) | assumption)
            obtain ⟨ad150, e150, hx150_0, hx150_1, hx150_2, hx150_3, hx150_4, hx150_5, hx150_6, hx150_7, hx150_8, hx150_9, hx150_10⟩ := at_T25 HR0.out x8_1 p150 q150
            (try rw [← Nbq5.out] at hx150_3)
            (try rw [← Nbq5.out] at hx150_4)
            (try rw [← Nbq5.out] at hx150_5)
            (try rw [← Nbq5.out] at hx150_6)
            (try rw [← Nbq5.out] at hx150_9)
            obtain rfl : ad148 = ad150 := (by injection e150)
            replace p150 := eq_true p150
            replace q150 := eq_true q150
            go_wp2
            repeat (go_quiet (fail); try go_wp2)
            go_roundg k1
            case measure => have := HK1.out; omega
            case rel => exact ⟨(x6_1), (x7_1), (wrap64 (x8_1 + 1)), (by first | rfl | (simp; done) | (simp [*]; done)), (by first | rfl | (simp; done) | (simp [*]; done)), (by first | rfl | (simp; done) | (simp [*]; done)), H', ⟨by have := HK1.out; omega⟩, by repeat (first | exact Drawn0.refl _ | apply Drawn0.step)⟩
        · rw [if_neg c4] at H
          exact absurd H (by simp)
      · rw [if_neg c3] at H
        have c3b0 : decide (x8_1 < (l0.length : Int)) = false := decide_eq_false c3
        clear c3
        simp only [Option.some.injEq, Prod.mk.injEq] at H
        obtain ⟨rfl, rfl⟩ := H
        go_wp2
        repeat (go_quiet (fail); try go_wp2)
        go_ret2
        exact ⟨by first | rfl | (simp; done) | (simp [*]; done), by repeat (first | exact Drawn0.refl _ | apply Drawn0.step)⟩

end Go.Proofs.Ytiljdmlganploaa.PBoundsNext
