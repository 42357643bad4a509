/- The machine's side of the law, written by the kit's print program for the functions that it takes. -/
import Derived.Test.YtiljdmlganploaaPBoundsOrdersx0
import Derived.Test.YtiljdmlganploaaPBoundsOrdersx1
namespace Go.Proofs.Ytiljdmlganploaa.PBoundsOrders
open Go.RowKit Go.Proofs.YtiljdmlganploaaW.PrintWords Go.Proofs.YtiljdmlganploaaW.PrintLast Go.Proofs.YtiljdmlganploaaW.PrintMore
attribute [local go_sem] max2_int min2_int max_two min_two max_three min_three max_four min_four   -- for this text's walks alone
set_option linter.unusedVariables false
set_option linter.unusedSimpArgs false

/-! ### evenhandedlaw16_BoundsOrders: function 7 -/
mutual
def evenhandedlaw16_BoundsOrders.j0 : Nat → List (S25) → Int → Int → Bool → Option (Bool)
  | 0, _, _, _, _ => none
  | k + 1, x0, x1, x2, x26 => if x26 = true then (some true) else (evenhandedlaw16_BoundsOrders.l0 k x0 x1 x2 ([] : List (S25)) (wrap64 ((x0.length : Int) - 1)))
def evenhandedlaw16_BoundsOrders.l0 : Nat → List (S25) → Int → Int → List (S25) → Int → Option (Bool)
  | 0, _, _, _, _, _ => none
  | k + 1, x0, x1, x2, x7, x8 => if x8 ≥ 0 then (if (x0.length : Int) = 0 then (none) else (if 0 ≤ (Int.tmod (wrap64 (x8 + (wrap64 (x1)))) (x0.length : Int)) then (if (Int.tmod (wrap64 (x8 + (wrap64 (x1)))) (x0.length : Int)) < (x0.length : Int) then (if ((rd_T25 x0 (Int.tmod (wrap64 (x8 + (wrap64 (x1)))) (x0.length : Int))).f7) < (-1048576) then (some true) else (if ((rd_T25 x0 (Int.tmod (wrap64 (x8 + (wrap64 (x1)))) (x0.length : Int))).f7) > 1048576 then (some true) else (if ((rd_T25 x0 (Int.tmod (wrap64 (x8 + (wrap64 (x1)))) (x0.length : Int))).f2) > 1048576 then (some true) else (if ((rd_T25 x0 (Int.tmod (wrap64 (x8 + (wrap64 (x1)))) (x0.length : Int))).f2) < (-1048576) then (some true) else (if x7.length < 2199023255552 then (evenhandedlaw16_BoundsOrders.l0 k x0 x1 x2 (x7 ++ [(⟨(rd_T25 x0 (Int.tmod (wrap64 (x8 + (wrap64 (x1)))) (x0.length : Int))).f0, (rd_T25 x0 (Int.tmod (wrap64 (x8 + (wrap64 (x1)))) (x0.length : Int))).f1, (rd_T25 x0 (Int.tmod (wrap64 (x8 + (wrap64 (x1)))) (x0.length : Int))).f2, (rd_T25 x0 (Int.tmod (wrap64 (x8 + (wrap64 (x1)))) (x0.length : Int))).f3, (rd_T25 x0 (Int.tmod (wrap64 (x8 + (wrap64 (x1)))) (x0.length : Int))).f4, (rd_T25 x0 (Int.tmod (wrap64 (x8 + (wrap64 (x1)))) (x0.length : Int))).f5, (rd_T25 x0 (Int.tmod (wrap64 (x8 + (wrap64 (x1)))) (x0.length : Int))).f6, (rd_T25 x0 (Int.tmod (wrap64 (x8 + (wrap64 (x1)))) (x0.length : Int))).f7, (rd_T25 x0 (Int.tmod (wrap64 (x8 + (wrap64 (x1)))) (x0.length : Int))).f8, (rd_T25 x0 (Int.tmod (wrap64 (x8 + (wrap64 (x1)))) (x0.length : Int))).f9, (rd_T25 x0 (Int.tmod (wrap64 (x8 + (wrap64 (x1)))) (x0.length : Int))).f10⟩ : S25)]) (wrap64 (x8 - 1))) else (none)))))) else (none)) else (none))) else ((evenhandedlaw12_Rows.f k x0).bind fun t154 => ((bounds_Next.f k t154 (wrap64 (x2))).bind fun bt157 => ((evenhandedlaw12_Rows.f k x7).bind fun t159 => ((bounds_Next.f k t159 (wrap64 (x2))).bind fun bt162 => ((evenhandedlaw12_Rows.f k x0).bind fun t164 => ((bounds_Lengths.f k t164 (wrap64 (x2))).bind fun t167 => ((evenhandedlaw12_Rows.f k x7).bind fun t170 => ((bounds_Lengths.f k t170 (wrap64 (x2))).bind fun t173 => (if bt157.1 = bt162.1 then (if (bt157.2 != bt162.2) = true then (evenhandedlaw16_BoundsOrders.j2 k t167 t173 true) else (evenhandedlaw16_BoundsOrders.j2 k t167 t173 ((t167.length : Int) != (t173.length : Int)))) else (evenhandedlaw16_BoundsOrders.j2 k t167 t173 true))))))))))
def evenhandedlaw16_BoundsOrders.j2 : Nat → List Int → List Int → Bool → Option (Bool)
  | 0, _, _, _ => none
  | k + 1, x14, x15, x106 => if x106 = true then (some false) else (evenhandedlaw16_BoundsOrders.l1 k x14 x15 0)
def evenhandedlaw16_BoundsOrders.l1 : Nat → List Int → List Int → Int → Option (Bool)
  | 0, _, _, _ => none
  | k + 1, x14, x15, x16 => if x16 < (x14.length : Int) then (if 0 ≤ x16 then (if x16 < (x15.length : Int) then (if (rd x14 x16) = (rd x15 x16) then (evenhandedlaw16_BoundsOrders.l1 k x14 x15 (wrap64 (x16 + 1))) else (some false)) else (none)) else (none)) else (some true)
end
def evenhandedlaw16_BoundsOrders.f (k : Nat) (l0 : List (S25)) (a1 : Int) (a2 : Int) : Option (Bool) := (evenhandedlaw16_awake.f k).bind fun t148 => (if t148 = true then (if (l0.length : Int) = 0 then (evenhandedlaw16_BoundsOrders.j0 k l0 a1 a2 true) else (evenhandedlaw16_BoundsOrders.j0 k l0 a1 a2 (decide ((l0.length : Int) > 60)))) else (some false))
theorem evenhandedlaw16_BoundsOrders.mono_l : ∀ k, (∀ y0 y1 y2 y3, LeO (evenhandedlaw16_BoundsOrders.j0 k y0 y1 y2 y3) (evenhandedlaw16_BoundsOrders.j0 (k + 1) y0 y1 y2 y3)) ∧ (∀ y0 y1 y2 y3 y4, LeO (evenhandedlaw16_BoundsOrders.l0 k y0 y1 y2 y3 y4) (evenhandedlaw16_BoundsOrders.l0 (k + 1) y0 y1 y2 y3 y4)) ∧ (∀ y0 y1 y2, LeO (evenhandedlaw16_BoundsOrders.j2 k y0 y1 y2) (evenhandedlaw16_BoundsOrders.j2 (k + 1) y0 y1 y2)) ∧ (∀ y0 y1 y2, LeO (evenhandedlaw16_BoundsOrders.l1 k y0 y1 y2) (evenhandedlaw16_BoundsOrders.l1 (k + 1) y0 y1 y2))
  | 0 => ⟨fun _ _ _ _ r h => by simp [evenhandedlaw16_BoundsOrders.j0] at h, fun _ _ _ _ _ r h => by simp [evenhandedlaw16_BoundsOrders.l0] at h, fun _ _ _ r h => by simp [evenhandedlaw16_BoundsOrders.j2] at h, fun _ _ _ r h => by simp [evenhandedlaw16_BoundsOrders.l1] at h⟩
  | k + 1 => by
    obtain ⟨ih0, ih1, ih2, ih3⟩ := evenhandedlaw16_BoundsOrders.mono_l k
    refine ⟨?_, ?_, ?_, ?_⟩
    · intro y0 y1 y2 y3
      unfold evenhandedlaw16_BoundsOrders.j0
      repeat' first
      | (with_reducible exact ih0 _ _ _ _)
      | (with_reducible exact ih1 _ _ _ _ _)
      | (with_reducible exact ih2 _ _ _)
      | (with_reducible exact ih3 _ _ _)
      | (with_reducible exact bounds_Lengths.mono _ _ _)
      | (with_reducible exact bounds_Next.mono _ _ _)
      | (with_reducible exact evenhandedlaw12_Rows.mono _ _)
      | (with_reducible exact evenhandedlaw16_awake.mono _)
      | (with_reducible exact LeO.refl _)
      | (with_reducible exact LeO.none _)
      | (with_reducible refine LeO.ite ?_ ?_)
      | (with_reducible refine LeO.bind ?_ (fun _ => ?_))
      | exact ih0 _ _ _ _
      | exact ih1 _ _ _ _ _
      | exact ih2 _ _ _
      | exact ih3 _ _ _
      | exact bounds_Lengths.mono _ _ _
      | exact bounds_Next.mono _ _ _
      | exact evenhandedlaw12_Rows.mono _ _
      | exact evenhandedlaw16_awake.mono _
      | exact LeO.none _
      | refine LeO.ite ?_ ?_
      | refine LeO.bind ?_ (fun _ => ?_)
    · intro y0 y1 y2 y3 y4
      unfold evenhandedlaw16_BoundsOrders.l0
      repeat' first
      | (with_reducible exact ih0 _ _ _ _)
      | (with_reducible exact ih1 _ _ _ _ _)
      | (with_reducible exact ih2 _ _ _)
      | (with_reducible exact ih3 _ _ _)
      | (with_reducible exact bounds_Lengths.mono _ _ _)
      | (with_reducible exact bounds_Next.mono _ _ _)
      | (with_reducible exact evenhandedlaw12_Rows.mono _ _)
      | (with_reducible exact evenhandedlaw16_awake.mono _)
      | (with_reducible exact LeO.refl _)
      | (with_reducible exact LeO.none _)
      | (with_reducible refine LeO.ite ?_ ?_)
      | (with_reducible refine LeO.bind ?_ (fun _ => ?_))
      | exact ih0 _ _ _ _
      | exact ih1 _ _ _ _ _
      | exact ih2 _ _ _
      | exact ih3 _ _ _
      | exact bounds_Lengths.mono _ _ _
      | exact bounds_Next.mono _ _ _
      | exact evenhandedlaw12_Rows.mono _ _
      | exact evenhandedlaw16_awake.mono _
      | exact LeO.none _
      | refine LeO.ite ?_ ?_
      | refine LeO.bind ?_ (fun _ => ?_)
    · intro y0 y1 y2
      unfold evenhandedlaw16_BoundsOrders.j2
      repeat' first
      | (with_reducible exact ih0 _ _ _ _)
      | (with_reducible exact ih1 _ _ _ _ _)
      | (with_reducible exact ih2 _ _ _)
      | (with_reducible exact ih3 _ _ _)
      | (with_reducible exact bounds_Lengths.mono _ _ _)
      | (with_reducible exact bounds_Next.mono _ _ _)
      | (with_reducible exact evenhandedlaw12_Rows.mono _ _)
      | (with_reducible exact evenhandedlaw16_awake.mono _)
      | (with_reducible exact LeO.refl _)
      | (with_reducible exact LeO.none _)
      | (with_reducible refine LeO.ite ?_ ?_)
      | (with_reducible refine LeO.bind ?_ (fun _ => ?_))
      | exact ih0 _ _ _ _
      | exact ih1 _ _ _ _ _
      | exact ih2 _ _ _
      | exact ih3 _ _ _
      | exact bounds_Lengths.mono _ _ _
      | exact bounds_Next.mono _ _ _
      | exact evenhandedlaw12_Rows.mono _ _
      | exact evenhandedlaw16_awake.mono _
      | exact LeO.none _
      | refine LeO.ite ?_ ?_
      | refine LeO.bind ?_ (fun _ => ?_)
    · intro y0 y1 y2
      unfold evenhandedlaw16_BoundsOrders.l1
      repeat' first
      | (with_reducible exact ih0 _ _ _ _)
      | (with_reducible exact ih1 _ _ _ _ _)
      | (with_reducible exact ih2 _ _ _)
      | (with_reducible exact ih3 _ _ _)
      | (with_reducible exact bounds_Lengths.mono _ _ _)
      | (with_reducible exact bounds_Next.mono _ _ _)
      | (with_reducible exact evenhandedlaw12_Rows.mono _ _)
      | (with_reducible exact evenhandedlaw16_awake.mono _)
      | (with_reducible exact LeO.refl _)
      | (with_reducible exact LeO.none _)
      | (with_reducible refine LeO.ite ?_ ?_)
      | (with_reducible refine LeO.bind ?_ (fun _ => ?_))
      | exact ih0 _ _ _ _
      | exact ih1 _ _ _ _ _
      | exact ih2 _ _ _
      | exact ih3 _ _ _
      | exact bounds_Lengths.mono _ _ _
      | exact bounds_Next.mono _ _ _
      | exact evenhandedlaw12_Rows.mono _ _
      | exact evenhandedlaw16_awake.mono _
      | exact LeO.none _
      | refine LeO.ite ?_ ?_
      | refine LeO.bind ?_ (fun _ => ?_)
theorem evenhandedlaw16_BoundsOrders.mono : ∀ a0 a1 a2 k, LeO (evenhandedlaw16_BoundsOrders.f k a0 a1 a2) (evenhandedlaw16_BoundsOrders.f (k + 1) a0 a1 a2) := by
  intro a0 a1 a2 k
  obtain ⟨ih0, ih1, ih2, ih3⟩ := evenhandedlaw16_BoundsOrders.mono_l k
  unfold evenhandedlaw16_BoundsOrders.f
  repeat' first
      | (with_reducible exact ih0 _ _ _ _)
      | (with_reducible exact ih1 _ _ _ _ _)
      | (with_reducible exact ih2 _ _ _)
      | (with_reducible exact ih3 _ _ _)
      | (with_reducible exact bounds_Lengths.mono _ _ _)
      | (with_reducible exact bounds_Next.mono _ _ _)
      | (with_reducible exact evenhandedlaw12_Rows.mono _ _)
      | (with_reducible exact evenhandedlaw16_awake.mono _)
      | (with_reducible exact LeO.refl _)
      | (with_reducible exact LeO.none _)
      | (with_reducible refine LeO.ite ?_ ?_)
      | (with_reducible refine LeO.bind ?_ (fun _ => ?_))
      | exact ih0 _ _ _ _
      | exact ih1 _ _ _ _ _
      | exact ih2 _ _ _
      | exact ih3 _ _ _
      | exact bounds_Lengths.mono _ _ _
      | exact bounds_Next.mono _ _ _
      | exact evenhandedlaw12_Rows.mono _ _
      | exact evenhandedlaw16_awake.mono _
      | exact LeO.none _
      | refine LeO.ite ?_ ?_
      | refine LeO.bind ?_ (fun _ => ?_)
set_option maxHeartbeats 8000000 in
set_option maxRecDepth 100000 in
theorem evenhandedlaw16_BoundsOrders.calls (k : Nat) (A0 : Option Addr) (c0 : Nat) (l0 : List (S25)) (a1 : Int) (a2 : Int) (r : Bool) (w : World) (hr0 : Kd.C k25 w A0 l0.length l0) (hc0 : l0.length ≤ c0) (h : evenhandedlaw16_BoundsOrders.f k l0 a1 a2 = some r) :
    Calls Try.prog 7 #[.slice A0 l0.length c0, .int .u8 a1, .int .u8 a2] w fun e w' => e = .returned (.bool r) ∧ Below w.heap.size w w' := by
  have hu25 := Try.underlying25
  have HR0 := Aside0.mk hr0
  have HC0 := Aside0.mk hc0
  clear hr0 hc0
  have HB := Aside0.mk (Below.refl w.heap.size w)
  have H : ((evenhandedlaw16_awake.f k).bind fun t148 => (if t148 = true then (if (l0.length : Int) = 0 then (evenhandedlaw16_BoundsOrders.j0 k l0 a1 a2 true) else (evenhandedlaw16_BoundsOrders.j0 k l0 a1 a2 (decide ((l0.length : Int) > 60)))) else (some false))) = some r := h
  clear h
  replace H := Option.bind_eq_some_iff.mp H
  obtain ⟨t148, A40, H⟩ := H
  replace H : (if t148 = true then (if (l0.length : Int) = 0 then (evenhandedlaw16_BoundsOrders.j0 k l0 a1 a2 true) else (evenhandedlaw16_BoundsOrders.j0 k l0 a1 a2 (decide ((l0.length : Int) > 60)))) else (some false)) = some r := H
  have A4 := Aside0.mk A40
  clear A40
  by_cases c5 : t148 = true
  · subst c5
    have H1 : (if (l0.length : Int) = 0 then (evenhandedlaw16_BoundsOrders.j0 k l0 a1 a2 true) else (evenhandedlaw16_BoundsOrders.j0 k l0 a1 a2 (decide ((l0.length : Int) > 60)))) = some r := by rw [if_pos rfl] at H; exact H
    clear H
    have H := H1
    clear H1
    have HC6 := Aside0.mk H
    clear H
    go_enter Try.func7, Try.ntmps7
    go_upto_region 3 with (first | (go_at_call 8; (with_reducible refine (evenhandedlaw16_awake.calls k  true _ A4.out).mono ?_); rintro e w7 ⟨rfl, hb⟩; have n0_ := Aside0.mk (below_step (by repeat (first | (with_reducible first | exact HB.out | apply below_alloc | apply pw_below_drewN | apply below_drew1) | exact HB.out)) hb); clear HB; have HB := n0_; clear n0_; (try clear hb); (try clear hb2); (try clear hk); (try clear hi)))
    repeat (go_quiet (first | (go_at_call 8; (with_reducible refine (evenhandedlaw16_awake.calls k  true _ A4.out).mono ?_); rintro e w7 ⟨rfl, hb⟩; have n0_ := Aside0.mk (below_step (by repeat (first | (with_reducible first | exact HB.out | apply below_alloc | apply pw_below_drewN | apply below_drew1) | exact HB.out)) hb); clear HB; have HB := n0_; clear n0_; (try clear hb); (try clear hb2); (try clear hk); (try clear hi))); go_upto_region 3 with (first | (go_at_call 8; (with_reducible refine (evenhandedlaw16_awake.calls k  true _ A4.out).mono ?_); rintro e w7 ⟨rfl, hb⟩; have n0_ := Aside0.mk (below_step (by repeat (first | (with_reducible first | exact HB.out | apply below_alloc | apply pw_below_drewN | apply below_drew1) | exact HB.out)) hb); clear HB; have HB := n0_; clear n0_; (try clear hb); (try clear hb2); (try clear hk); (try clear hi))))
    (try simp only [Act.put, List.setIfInBounds_toArray, List.set_cons_zero, List.set_cons_succ])
    go_cut [26] (fun v26 wc => ∃ (kq : Nat) (x26_5 : Bool), v26 = .bool x26_5 ∧ Aside0 (evenhandedlaw16_BoundsOrders.j0 kq l0 a1 a2 x26_5 = some r) ∧ Aside0 (kq ≤ k) ∧ Aside0 (Below w.heap.size w wc))
    case first =>
      have H := HC6.out
      clear HC6
      by_cases c8 : (l0.length : Int) = 0
      · rw [if_pos c8] at H
        have c8b0 : ((l0.length : Int) == 0) = true := beq_iff_eq.mpr c8
        have c8b1 : ((l0.length : Int) != 0) = false := bne_eq_false_iff_eq.mpr c8
        clear c8
        (first | rw [c8b0] | (simp only [i64_w, i32_w]; rw [c8b0]) | skip)
        have H' := Aside0.mk H
        clear H
        go_wp2
        repeat (go_quiet (fail); try go_wp2)
        go_meet
        case rel => exact ⟨_, (true), (by first | rfl | (simp; done) | (simp [*]; done)), H', ⟨by first | omega | exact Nat.le_refl _⟩, ⟨by repeat (first | (with_reducible first | exact HB.out | apply below_alloc | apply pw_below_drewN | apply below_drew1) | exact HB.out)⟩⟩
      · rw [if_neg c8] at H
        have c8b0 : ((l0.length : Int) == 0) = false := beq_eq_false_iff_ne.mpr c8
        have c8b1 : ((l0.length : Int) != 0) = true := bne_iff_ne.mpr c8
        have c8b2 : ¬ (l0 = []) := fun h_ => c8 (by rw [h_]; rfl)
        (first | rw [c8b0] | (simp only [i64_w, i32_w]; rw [c8b0]) | skip)
        have H' := Aside0.mk H
        clear H
        go_wp2
        repeat (go_quiet (fail); try go_wp2)
        go_meet
        case rel => exact ⟨_, (decide ((l0.length : Int) > 60)), (by first | rfl | (simp; done) | (simp [*]; done)), H', ⟨by first | omega | exact Nat.le_refl _⟩, ⟨by repeat (first | (with_reducible first | exact HB.out | apply below_alloc | apply pw_below_drewN | apply below_drew1) | exact HB.out)⟩⟩
    case rest =>
      clear HC6
      try clear p2
      try clear c5
      try clear c7
      try clear c8
      try clear c8b0
      try clear c8b1
      try clear c8b2
      obtain ⟨kq, x26_5, rfl, HA, HJ5, HB⟩ := hcut
      cases kq with
      | zero => exact absurd HA.out (by simp [evenhandedlaw16_BoundsOrders.j0])
      | succ kj5 =>
        have H := HA.out
        clear HA
        simp only [evenhandedlaw16_BoundsOrders.j0] at H
        by_cases c9 : x26_5 = true
        · subst c9
          have H1 : (some true) = some r := by rw [if_pos rfl] at H; exact H
          clear H
          have H := H1
          clear H1
          obtain rfl := Option.some.inj H
          go_wp2
          repeat (go_quiet (fail); try go_wp2)
          go_ret
          exact ⟨by first | rfl | (simp [errW_none, errW_some] <;> rfl) | (simp [*, errW_none, errW_some] <;> rfl), by repeat (first | (with_reducible first | exact HB.out | apply below_alloc | apply pw_below_drewN | apply below_drew1) | exact HB.out)⟩
        · replace c9 := Bool.eq_false_iff.mpr c9
          subst c9
          have H1 : (evenhandedlaw16_BoundsOrders.l0 kj5 l0 a1 a2 ([] : List (S25)) (wrap64 ((l0.length : Int) - 1))) = some r := by rw [if_neg (show ¬ (false = true) by decide)] at H; exact H
          clear H
          have H := H1
          clear H1
          have H' := Aside0.mk H
          clear H
          go_wp2
          repeat (go_quiet (fail); try go_wp2)
          go_loopg [7, 8] kj5 (fun kq v7 v8 w' => ∃ (x7_2 : List (S25)) (x8_2 : Int), v8 = .int .i64 x8_2 ∧ Aside0 (evenhandedlaw16_BoundsOrders.l0 kq l0 a1 a2 x7_2 x8_2 = some r) ∧ Aside0 (kq ≤ kj5) ∧ Aside0 (Kd.R k25 25 w' w.heap.size (fun _ => True) v7 x7_2) ∧ Aside0 (Below w.heap.size w w'))
          case atStart => exact ⟨(([] : List (S25))), (wrap64 ((l0.length : Int) - 1)), (by first | rfl | (simp; done) | (simp [*]; done)), H', ⟨Nat.le_refl _⟩, ⟨by first | exact Kd.R_nil _ _ _ _ _ | exact Kd.N_nil _ _ _ _ _ | exact Kd.V_nil _ _ _ _ _ | exact Kd.Q_nil _ _ _ _ _ | exact Kd.S_nil _ _ _ _ _⟩, ⟨by repeat (first | (with_reducible first | exact HB.out | apply below_alloc | apply pw_below_drewN | apply below_drew1) | exact HB.out)⟩⟩
          case round =>
            clear H'
            try clear p2
            try clear c5
            try clear p6
            try clear c7
            try clear c8
            try clear c8b0
            try clear c8b1
            try clear c8b2
            try clear c9
            try clear p2
            obtain ⟨x7_2, x8_2, rfl, HA, HK2, HO_7, HB⟩ := hrel
            cases gk with
            | zero => exact absurd HA.out (by simp [evenhandedlaw16_BoundsOrders.l0])
            | succ k2 =>
              have H := HA.out
              clear HA
              simp only [evenhandedlaw16_BoundsOrders.l0] at H
              by_cases c10 : x8_2 ≥ 0
              · rw [if_pos c10] at H
                have c10b0 : decide (0 ≤ x8_2) = true := decide_eq_true c10
                clear c10
                by_cases c11 : (l0.length : Int) = 0
                · rw [if_pos c11] at H
                  exact absurd H (by simp)
                · rw [if_neg c11] at H
                  have c11b0 : ((l0.length : Int) == 0) = false := beq_eq_false_iff_ne.mpr c11
                  have c11b1 : ((l0.length : Int) != 0) = true := bne_iff_ne.mpr c11
                  have c11b2 : ¬ (l0 = []) := fun h_ => c11 (by rw [h_]; rfl)
                  obtain ⟨ji12, hji12⟩ : ∃ j_ : Int, (Int.tmod (wrap64 (x8_2 + (wrap64 (a1)))) (l0.length : Int)) = j_ := ⟨_, rfl⟩
                  replace H : (if 0 ≤ (ji12) then (if (ji12) < (l0.length : Int) then (if ((rd_T25 l0 (ji12)).f7) < (-1048576) then (some true) else (if ((rd_T25 l0 (ji12)).f7) > 1048576 then (some true) else (if ((rd_T25 l0 (ji12)).f2) > 1048576 then (some true) else (if ((rd_T25 l0 (ji12)).f2) < (-1048576) then (some true) else (if x7_2.length < 2199023255552 then (evenhandedlaw16_BoundsOrders.l0 k2 l0 a1 a2 (x7_2 ++ [(⟨(rd_T25 l0 (ji12)).f0, (rd_T25 l0 (ji12)).f1, (rd_T25 l0 (ji12)).f2, (rd_T25 l0 (ji12)).f3, (rd_T25 l0 (ji12)).f4, (rd_T25 l0 (ji12)).f5, (rd_T25 l0 (ji12)).f6, (rd_T25 l0 (ji12)).f7, (rd_T25 l0 (ji12)).f8, (rd_T25 l0 (ji12)).f9, (rd_T25 l0 (ji12)).f10⟩ : S25)]) (wrap64 (x8_2 - 1))) else (none)))))) else (none)) else (none)) = some r := by first | (rw [hji12] at H; exact H) | (simp only [hji12] at H ⊢; exact H)
                  by_cases c13 : 0 ≤ (ji12)
                  · rw [if_pos c13] at H
                    have c13b0 : decide (0 ≤ (ji12)) = true := decide_eq_true c13
                    clear c13
                    by_cases c14 : (ji12) < (l0.length : Int)
                    · rw [if_pos c14] at H
                      have c14b0 : decide ((ji12) < (l0.length : Int)) = true := decide_eq_true c14
                      clear c14
                      by_cases c15 : ((rd_T25 l0 (ji12)).f7) < (-1048576)
                      · rw [if_pos c15] at H
                        have c15b0 : decide (((rd_T25 l0 (ji12)).f7) < (-1048576)) = true := decide_eq_true c15
                        clear c15
                        obtain rfl := Option.some.inj H
                        have p149 : 0 ≤ ((ji12) : Int) := of_decide_eq_true (by first | (with_reducible assumption) | assumption)
                        have q149 : (ji12) < (l0.length : Int) := of_decide_eq_true (by first | (with_reducible assumption) | assumption)
                        obtain ⟨ad149, e149, hx149_0, hx149_1, hx149_2, hx149_3, hx149_4, hx149_5, hx149_6, hx149_7, hx149_8, hx149_9, hx149_10⟩ := at_T25 HR0.out (ji12) p149 q149
                        cases e149
                        replace hx149_0 := (HB.out.cell (World.block_lt_of_cell? w _ hx149_0)).trans hx149_0
                        replace hx149_1 := (HB.out.cell (World.block_lt_of_cell? w _ hx149_1)).trans hx149_1
                        replace hx149_2 := (HB.out.cell (World.block_lt_of_cell? w _ hx149_2)).trans hx149_2
                        replace hx149_3 := (HB.out.cell (World.block_lt_of_cell? w _ hx149_3)).trans hx149_3
                        replace hx149_4 := (HB.out.cell (World.block_lt_of_cell? w _ hx149_4)).trans hx149_4
                        replace hx149_5 := (HB.out.cell (World.block_lt_of_cell? w _ hx149_5)).trans hx149_5
                        replace hx149_6 := (HB.out.cell (World.block_lt_of_cell? w _ hx149_6)).trans hx149_6
                        replace hx149_7 := (HB.out.cell (World.block_lt_of_cell? w _ hx149_7)).trans hx149_7
                        replace hx149_8 := (HB.out.cell (World.block_lt_of_cell? w _ hx149_8)).trans hx149_8
                        replace hx149_9 := (HB.out.cell (World.block_lt_of_cell? w _ hx149_9)).trans hx149_9
                        replace hx149_10 := (HB.out.cell (World.block_lt_of_cell? w _ hx149_10)).trans hx149_10
                        replace p149 := eq_true p149
                        replace q149 := eq_true q149
                        go_wp2_with (first | ((with_reducible refine gate_dst (N := 9) rfl ?_); (try (refine gate_guard (by rfl) ?_; dsimp only)); refine box_event ?hg (N := 9) ?hd (cs := #[.int .i64 0, .int .i64 0, .int .i64 0, .bool false, .bool false, .bool false, .bool false, .int .i64 0, .int .i64 0, .bool false, .int .i64 0]) (t := 25) ?hr ?_; (case hd => rfl); (case hg => rfl); (case hr => first | (go_simp; done) | (go_simp; rfl)); intro gb150 hg w16 hbox hb; have n0_ := Aside0.mk (Kd.R_below (Kd.R_elderB (by (with_reducible repeat (first | apply Kd.R_alloc | apply Kd.R_drewN | apply Kd.R_drew)); exact HO_7.out) gb150 (Nat.le_of_eq hg.symm)) hb); have n1_ := Aside0.mk (below_step (by repeat (first | (with_reducible first | exact HB.out | apply below_alloc | apply pw_below_drewN | apply below_drew1) | exact HB.out)) hb); have n2_ := Aside0.mk (hbox); have n3_ := Aside0.mk ((by rw [hg]; exact (below_size (by repeat (first | (with_reducible first | exact HB.out | apply below_alloc | apply pw_below_drewN | apply below_drew1) | exact HB.out))) : w.heap.size ≤ gb150)); have n4_ := Aside0.mk ((by rw [hg]; exact (below_size (by repeat (first | (with_reducible first | exact HB.out | apply below_alloc | apply pw_below_drewN | apply below_drew1) | exact HB.out))) : w.heap.size ≤ gb150)); clear HO_7; clear HB; have HO_7 := n0_; have HB := n1_; have BK150 := n2_; have GW150 := n3_; have GE150 := n4_; clear n0_ n1_ n2_ n3_ n4_; clear hb hbox hg; have hcz17_0 : w16.cell? ⟨gb150, 0, none⟩ = some (.int .i64 0) := (blk_cell BK150.out 0).trans rfl; have hcz17_1 : w16.cell? ⟨gb150, 1, none⟩ = some (.int .i64 0) := (blk_cell BK150.out 1).trans rfl; have hcz17_2 : w16.cell? ⟨gb150, 2, none⟩ = some (.int .i64 0) := (blk_cell BK150.out 2).trans rfl; have hcz17_3 : w16.cell? ⟨gb150, 3, none⟩ = some (.bool false) := (blk_cell BK150.out 3).trans rfl; have hcz17_4 : w16.cell? ⟨gb150, 4, none⟩ = some (.bool false) := (blk_cell BK150.out 4).trans rfl; have hcz17_5 : w16.cell? ⟨gb150, 5, none⟩ = some (.bool false) := (blk_cell BK150.out 5).trans rfl; have hcz17_6 : w16.cell? ⟨gb150, 6, none⟩ = some (.bool false) := (blk_cell BK150.out 6).trans rfl; have hcz17_7 : w16.cell? ⟨gb150, 7, none⟩ = some (.int .i64 0) := (blk_cell BK150.out 7).trans rfl; have hcz17_8 : w16.cell? ⟨gb150, 8, none⟩ = some (.int .i64 0) := (blk_cell BK150.out 8).trans rfl; have hcz17_9 : w16.cell? ⟨gb150, 9, none⟩ = some (.bool false) := (blk_cell BK150.out 9).trans rfl; have hcz17_10 : w16.cell? ⟨gb150, 10, none⟩ = some (.int .i64 0) := (blk_cell BK150.out 10).trans rfl; have hfz17_0 := blk_frozen BK150.out 0; have hfz17_1 := blk_frozen BK150.out 1; have hfz17_2 := blk_frozen BK150.out 2; have hfz17_3 := blk_frozen BK150.out 3; have hfz17_4 := blk_frozen BK150.out 4; have hfz17_5 := blk_frozen BK150.out 5; have hfz17_6 := blk_frozen BK150.out 6; have hfz17_7 := blk_frozen BK150.out 7; have hfz17_8 := blk_frozen BK150.out 8; have hfz17_9 := blk_frozen BK150.out 9; have hfz17_10 := blk_frozen BK150.out 10))
                        repeat (go_quiet (first | ((with_reducible refine gate_dst (N := 9) rfl ?_); (try (refine gate_guard (by rfl) ?_; dsimp only)); refine box_event ?hg (N := 9) ?hd (cs := #[.int .i64 0, .int .i64 0, .int .i64 0, .bool false, .bool false, .bool false, .bool false, .int .i64 0, .int .i64 0, .bool false, .int .i64 0]) (t := 25) ?hr ?_; (case hd => rfl); (case hg => rfl); (case hr => first | (go_simp; done) | (go_simp; rfl)); intro gb150 hg w16 hbox hb; have n0_ := Aside0.mk (Kd.R_below (Kd.R_elderB (by (with_reducible repeat (first | apply Kd.R_alloc | apply Kd.R_drewN | apply Kd.R_drew)); exact HO_7.out) gb150 (Nat.le_of_eq hg.symm)) hb); have n1_ := Aside0.mk (below_step (by repeat (first | (with_reducible first | exact HB.out | apply below_alloc | apply pw_below_drewN | apply below_drew1) | exact HB.out)) hb); have n2_ := Aside0.mk (hbox); have n3_ := Aside0.mk ((by rw [hg]; exact (below_size (by repeat (first | (with_reducible first | exact HB.out | apply below_alloc | apply pw_below_drewN | apply below_drew1) | exact HB.out))) : w.heap.size ≤ gb150)); have n4_ := Aside0.mk ((by rw [hg]; exact (below_size (by repeat (first | (with_reducible first | exact HB.out | apply below_alloc | apply pw_below_drewN | apply below_drew1) | exact HB.out))) : w.heap.size ≤ gb150)); clear HO_7; clear HB; have HO_7 := n0_; have HB := n1_; have BK150 := n2_; have GW150 := n3_; have GE150 := n4_; clear n0_ n1_ n2_ n3_ n4_; clear hb hbox hg; have hcz17_0 : w16.cell? ⟨gb150, 0, none⟩ = some (.int .i64 0) := (blk_cell BK150.out 0).trans rfl; have hcz17_1 : w16.cell? ⟨gb150, 1, none⟩ = some (.int .i64 0) := (blk_cell BK150.out 1).trans rfl; have hcz17_2 : w16.cell? ⟨gb150, 2, none⟩ = some (.int .i64 0) := (blk_cell BK150.out 2).trans rfl; have hcz17_3 : w16.cell? ⟨gb150, 3, none⟩ = some (.bool false) := (blk_cell BK150.out 3).trans rfl; have hcz17_4 : w16.cell? ⟨gb150, 4, none⟩ = some (.bool false) := (blk_cell BK150.out 4).trans rfl; have hcz17_5 : w16.cell? ⟨gb150, 5, none⟩ = some (.bool false) := (blk_cell BK150.out 5).trans rfl; have hcz17_6 : w16.cell? ⟨gb150, 6, none⟩ = some (.bool false) := (blk_cell BK150.out 6).trans rfl; have hcz17_7 : w16.cell? ⟨gb150, 7, none⟩ = some (.int .i64 0) := (blk_cell BK150.out 7).trans rfl; have hcz17_8 : w16.cell? ⟨gb150, 8, none⟩ = some (.int .i64 0) := (blk_cell BK150.out 8).trans rfl; have hcz17_9 : w16.cell? ⟨gb150, 9, none⟩ = some (.bool false) := (blk_cell BK150.out 9).trans rfl; have hcz17_10 : w16.cell? ⟨gb150, 10, none⟩ = some (.int .i64 0) := (blk_cell BK150.out 10).trans rfl; have hfz17_0 := blk_frozen BK150.out 0; have hfz17_1 := blk_frozen BK150.out 1; have hfz17_2 := blk_frozen BK150.out 2; have hfz17_3 := blk_frozen BK150.out 3; have hfz17_4 := blk_frozen BK150.out 4; have hfz17_5 := blk_frozen BK150.out 5; have hfz17_6 := blk_frozen BK150.out 6; have hfz17_7 := blk_frozen BK150.out 7; have hfz17_8 := blk_frozen BK150.out 8; have hfz17_9 := blk_frozen BK150.out 9; have hfz17_10 := blk_frozen BK150.out 10)); try go_wp2_with (first | ((with_reducible refine gate_dst (N := 9) rfl ?_); (try (refine gate_guard (by rfl) ?_; dsimp only)); refine box_event ?hg (N := 9) ?hd (cs := #[.int .i64 0, .int .i64 0, .int .i64 0, .bool false, .bool false, .bool false, .bool false, .int .i64 0, .int .i64 0, .bool false, .int .i64 0]) (t := 25) ?hr ?_; (case hd => rfl); (case hg => rfl); (case hr => first | (go_simp; done) | (go_simp; rfl)); intro gb150 hg w16 hbox hb; have n0_ := Aside0.mk (Kd.R_below (Kd.R_elderB (by (with_reducible repeat (first | apply Kd.R_alloc | apply Kd.R_drewN | apply Kd.R_drew)); exact HO_7.out) gb150 (Nat.le_of_eq hg.symm)) hb); have n1_ := Aside0.mk (below_step (by repeat (first | (with_reducible first | exact HB.out | apply below_alloc | apply pw_below_drewN | apply below_drew1) | exact HB.out)) hb); have n2_ := Aside0.mk (hbox); have n3_ := Aside0.mk ((by rw [hg]; exact (below_size (by repeat (first | (with_reducible first | exact HB.out | apply below_alloc | apply pw_below_drewN | apply below_drew1) | exact HB.out))) : w.heap.size ≤ gb150)); have n4_ := Aside0.mk ((by rw [hg]; exact (below_size (by repeat (first | (with_reducible first | exact HB.out | apply below_alloc | apply pw_below_drewN | apply below_drew1) | exact HB.out))) : w.heap.size ≤ gb150)); clear HO_7; clear HB; have HO_7 := n0_; have HB := n1_; have BK150 := n2_; have GW150 := n3_; have GE150 := n4_; clear n0_ n1_ n2_ n3_ n4_; clear hb hbox hg; have hcz17_0 : w16.cell? ⟨gb150, 0, none⟩ = some (.int .i64 0) := (blk_cell BK150.out 0).trans rfl; have hcz17_1 : w16.cell? ⟨gb150, 1, none⟩ = some (.int .i64 0) := (blk_cell BK150.out 1).trans rfl; have hcz17_2 : w16.cell? ⟨gb150, 2, none⟩ = some (.int .i64 0) := (blk_cell BK150.out 2).trans rfl; have hcz17_3 : w16.cell? ⟨gb150, 3, none⟩ = some (.bool false) := (blk_cell BK150.out 3).trans rfl; have hcz17_4 : w16.cell? ⟨gb150, 4, none⟩ = some (.bool false) := (blk_cell BK150.out 4).trans rfl; have hcz17_5 : w16.cell? ⟨gb150, 5, none⟩ = some (.bool false) := (blk_cell BK150.out 5).trans rfl; have hcz17_6 : w16.cell? ⟨gb150, 6, none⟩ = some (.bool false) := (blk_cell BK150.out 6).trans rfl; have hcz17_7 : w16.cell? ⟨gb150, 7, none⟩ = some (.int .i64 0) := (blk_cell BK150.out 7).trans rfl; have hcz17_8 : w16.cell? ⟨gb150, 8, none⟩ = some (.int .i64 0) := (blk_cell BK150.out 8).trans rfl; have hcz17_9 : w16.cell? ⟨gb150, 9, none⟩ = some (.bool false) := (blk_cell BK150.out 9).trans rfl; have hcz17_10 : w16.cell? ⟨gb150, 10, none⟩ = some (.int .i64 0) := (blk_cell BK150.out 10).trans rfl; have hfz17_0 := blk_frozen BK150.out 0; have hfz17_1 := blk_frozen BK150.out 1; have hfz17_2 := blk_frozen BK150.out 2; have hfz17_3 := blk_frozen BK150.out 3; have hfz17_4 := blk_frozen BK150.out 4; have hfz17_5 := blk_frozen BK150.out 5; have hfz17_6 := blk_frozen BK150.out 6; have hfz17_7 := blk_frozen BK150.out 7; have hfz17_8 := blk_frozen BK150.out 8; have hfz17_9 := blk_frozen BK150.out 9; have hfz17_10 := blk_frozen BK150.out 10)))
                        go_ret
                        exact ⟨by first | rfl | (simp [errW_none, errW_some] <;> rfl) | (simp only [← hji12]; first | rfl | (simp [errW_none, errW_some] <;> rfl)) | (simp [*, errW_none, errW_some] <;> rfl), by repeat (first | (with_reducible first | exact HB.out | apply below_alloc | apply pw_below_drewN | apply below_drew1 | refine below_set ?_ GE150.out) | exact HB.out)⟩
                      · rw [if_neg c15] at H
                        have c15b0 : decide (((rd_T25 l0 (ji12)).f7) < (-1048576)) = false := decide_eq_false c15
                        clear c15
                        by_cases c18 : ((rd_T25 l0 (ji12)).f7) > 1048576
                        · rw [if_pos c18] at H
                          have c18b0 : decide (1048576 < ((rd_T25 l0 (ji12)).f7)) = true := decide_eq_true c18
                          clear c18
                          obtain rfl := Option.some.inj H
                          have p149 : 0 ≤ ((ji12) : Int) := of_decide_eq_true (by first | (with_reducible assumption) | assumption)
                          have q149 : (ji12) < (l0.length : Int) := of_decide_eq_true (by first | (with_reducible assumption) | assumption)
                          obtain ⟨ad149, e149, hx149_0, hx149_1, hx149_2, hx149_3, hx149_4, hx149_5, hx149_6, hx149_7, hx149_8, hx149_9, hx149_10⟩ := at_T25 HR0.out (ji12) p149 q149
                          cases e149
                          replace hx149_0 := (HB.out.cell (World.block_lt_of_cell? w _ hx149_0)).trans hx149_0
                          replace hx149_1 := (HB.out.cell (World.block_lt_of_cell? w _ hx149_1)).trans hx149_1
                          replace hx149_2 := (HB.out.cell (World.block_lt_of_cell? w _ hx149_2)).trans hx149_2
                          replace hx149_3 := (HB.out.cell (World.block_lt_of_cell? w _ hx149_3)).trans hx149_3
                          replace hx149_4 := (HB.out.cell (World.block_lt_of_cell? w _ hx149_4)).trans hx149_4
                          replace hx149_5 := (HB.out.cell (World.block_lt_of_cell? w _ hx149_5)).trans hx149_5
                          replace hx149_6 := (HB.out.cell (World.block_lt_of_cell? w _ hx149_6)).trans hx149_6
                          replace hx149_7 := (HB.out.cell (World.block_lt_of_cell? w _ hx149_7)).trans hx149_7
                          replace hx149_8 := (HB.out.cell (World.block_lt_of_cell? w _ hx149_8)).trans hx149_8
                          replace hx149_9 := (HB.out.cell (World.block_lt_of_cell? w _ hx149_9)).trans hx149_9
                          replace hx149_10 := (HB.out.cell (World.block_lt_of_cell? w _ hx149_10)).trans hx149_10
                          replace p149 := eq_true p149
                          replace q149 := eq_true q149
                          go_wp2_with (first | ((with_reducible refine gate_dst (N := 9) rfl ?_); (try (refine gate_guard (by rfl) ?_; dsimp only)); refine box_event ?hg (N := 9) ?hd (cs := #[.int .i64 0, .int .i64 0, .int .i64 0, .bool false, .bool false, .bool false, .bool false, .int .i64 0, .int .i64 0, .bool false, .int .i64 0]) (t := 25) ?hr ?_; (case hd => rfl); (case hg => rfl); (case hr => first | (go_simp; done) | (go_simp; rfl)); intro gb150 hg w19 hbox hb; have n0_ := Aside0.mk (Kd.R_below (Kd.R_elderB (by (with_reducible repeat (first | apply Kd.R_alloc | apply Kd.R_drewN | apply Kd.R_drew)); exact HO_7.out) gb150 (Nat.le_of_eq hg.symm)) hb); have n1_ := Aside0.mk (below_step (by repeat (first | (with_reducible first | exact HB.out | apply below_alloc | apply pw_below_drewN | apply below_drew1) | exact HB.out)) hb); have n2_ := Aside0.mk (hbox); have n3_ := Aside0.mk ((by rw [hg]; exact (below_size (by repeat (first | (with_reducible first | exact HB.out | apply below_alloc | apply pw_below_drewN | apply below_drew1) | exact HB.out))) : w.heap.size ≤ gb150)); have n4_ := Aside0.mk ((by rw [hg]; exact (below_size (by repeat (first | (with_reducible first | exact HB.out | apply below_alloc | apply pw_below_drewN | apply below_drew1) | exact HB.out))) : w.heap.size ≤ gb150)); clear HO_7; clear HB; have HO_7 := n0_; have HB := n1_; have BK150 := n2_; have GW150 := n3_; have GE150 := n4_; clear n0_ n1_ n2_ n3_ n4_; clear hb hbox hg; have hcz20_0 : w19.cell? ⟨gb150, 0, none⟩ = some (.int .i64 0) := (blk_cell BK150.out 0).trans rfl; have hcz20_1 : w19.cell? ⟨gb150, 1, none⟩ = some (.int .i64 0) := (blk_cell BK150.out 1).trans rfl; have hcz20_2 : w19.cell? ⟨gb150, 2, none⟩ = some (.int .i64 0) := (blk_cell BK150.out 2).trans rfl; have hcz20_3 : w19.cell? ⟨gb150, 3, none⟩ = some (.bool false) := (blk_cell BK150.out 3).trans rfl; have hcz20_4 : w19.cell? ⟨gb150, 4, none⟩ = some (.bool false) := (blk_cell BK150.out 4).trans rfl; have hcz20_5 : w19.cell? ⟨gb150, 5, none⟩ = some (.bool false) := (blk_cell BK150.out 5).trans rfl; have hcz20_6 : w19.cell? ⟨gb150, 6, none⟩ = some (.bool false) := (blk_cell BK150.out 6).trans rfl; have hcz20_7 : w19.cell? ⟨gb150, 7, none⟩ = some (.int .i64 0) := (blk_cell BK150.out 7).trans rfl; have hcz20_8 : w19.cell? ⟨gb150, 8, none⟩ = some (.int .i64 0) := (blk_cell BK150.out 8).trans rfl; have hcz20_9 : w19.cell? ⟨gb150, 9, none⟩ = some (.bool false) := (blk_cell BK150.out 9).trans rfl; have hcz20_10 : w19.cell? ⟨gb150, 10, none⟩ = some (.int .i64 0) := (blk_cell BK150.out 10).trans rfl; have hfz20_0 := blk_frozen BK150.out 0; have hfz20_1 := blk_frozen BK150.out 1; have hfz20_2 := blk_frozen BK150.out 2; have hfz20_3 := blk_frozen BK150.out 3; have hfz20_4 := blk_frozen BK150.out 4; have hfz20_5 := blk_frozen BK150.out 5; have hfz20_6 := blk_frozen BK150.out 6; have hfz20_7 := blk_frozen BK150.out 7; have hfz20_8 := blk_frozen BK150.out 8; have hfz20_9 := blk_frozen BK150.out 9; have hfz20_10 := blk_frozen BK150.out 10))
                          repeat (go_quiet (first | ((with_reducible refine gate_dst (N := 9) rfl ?_); (try (refine gate_guard (by rfl) ?_; dsimp only)); refine box_event ?hg (N := 9) ?hd (cs := #[.int .i64 0, .int .i64 0, .int .i64 0, .bool false, .bool false, .bool false, .bool false, .int .i64 0, .int .i64 0, .bool false, .int .i64 0]) (t := 25) ?hr ?_; (case hd => rfl); (case hg => rfl); (case hr => first | (go_simp; done) | (go_simp; rfl)); intro gb150 hg w19 hbox hb; have n0_ := Aside0.mk (Kd.R_below (Kd.R_elderB (by (with_reducible repeat (first | apply Kd.R_alloc | apply Kd.R_drewN | apply Kd.R_drew)); exact HO_7.out) gb150 (Nat.le_of_eq hg.symm)) hb); have n1_ := Aside0.mk (below_step (by repeat (first | (with_reducible first | exact HB.out | apply below_alloc | apply pw_below_drewN | apply below_drew1) | exact HB.out)) hb); have n2_ := Aside0.mk (hbox); have n3_ := Aside0.mk ((by rw [hg]; exact (below_size (by repeat (first | (with_reducible first | exact HB.out | apply below_alloc | apply pw_below_drewN | apply below_drew1) | exact HB.out))) : w.heap.size ≤ gb150)); have n4_ := Aside0.mk ((by rw [hg]; exact (below_size (by repeat (first | (with_reducible first | exact HB.out | apply below_alloc | apply pw_below_drewN | apply below_drew1) | exact HB.out))) : w.heap.size ≤ gb150)); clear HO_7; clear HB; have HO_7 := n0_; have HB := n1_; have BK150 := n2_; have GW150 := n3_; have GE150 := n4_; clear n0_ n1_ n2_ n3_ n4_; clear hb hbox hg; have hcz20_0 : w19.cell? ⟨gb150, 0, none⟩ = some (.int .i64 0) := (blk_cell BK150.out 0).trans rfl; have hcz20_1 : w19.cell? ⟨gb150, 1, none⟩ = some (.int .i64 0) := (blk_cell BK150.out 1).trans rfl; have hcz20_2 : w19.cell? ⟨gb150, 2, none⟩ = some (.int .i64 0) := (blk_cell BK150.out 2).trans rfl; have hcz20_3 : w19.cell? ⟨gb150, 3, none⟩ = some (.bool false) := (blk_cell BK150.out 3).trans rfl; have hcz20_4 : w19.cell? ⟨gb150, 4, none⟩ = some (.bool false) := (blk_cell BK150.out 4).trans rfl; have hcz20_5 : w19.cell? ⟨gb150, 5, none⟩ = some (.bool false) := (blk_cell BK150.out 5).trans rfl; have hcz20_6 : w19.cell? ⟨gb150, 6, none⟩ = some (.bool false) := (blk_cell BK150.out 6).trans rfl; have hcz20_7 : w19.cell? ⟨gb150, 7, none⟩ = some (.int .i64 0) := (blk_cell BK150.out 7).trans rfl; have hcz20_8 : w19.cell? ⟨gb150, 8, none⟩ = some (.int .i64 0) := (blk_cell BK150.out 8).trans rfl; have hcz20_9 : w19.cell? ⟨gb150, 9, none⟩ = some (.bool false) := (blk_cell BK150.out 9).trans rfl; have hcz20_10 : w19.cell? ⟨gb150, 10, none⟩ = some (.int .i64 0) := (blk_cell BK150.out 10).trans rfl; have hfz20_0 := blk_frozen BK150.out 0; have hfz20_1 := blk_frozen BK150.out 1; have hfz20_2 := blk_frozen BK150.out 2; have hfz20_3 := blk_frozen BK150.out 3; have hfz20_4 := blk_frozen BK150.out 4; have hfz20_5 := blk_frozen BK150.out 5; have hfz20_6 := blk_frozen BK150.out 6; have hfz20_7 := blk_frozen BK150.out 7; have hfz20_8 := blk_frozen BK150.out 8; have hfz20_9 := blk_frozen BK150.out 9; have hfz20_10 := blk_frozen BK150.out 10)); try go_wp2_with (first | ((with_reducible refine gate_dst (N := 9) rfl ?_); (try (refine gate_guard (by rfl) ?_; dsimp only)); refine box_event ?hg (N := 9) ?hd (cs := #[.int .i64 0, .int .i64 0, .int .i64 0, .bool false, .bool false, .bool false, .bool false, .int .i64 0, .int .i64 0, .bool false, .int .i64 0]) (t := 25) ?hr ?_; (case hd => rfl); (case hg => rfl); (case hr => first | (go_simp; done) | (go_simp; rfl)); intro gb150 hg w19 hbox hb; have n0_ := Aside0.mk (Kd.R_below (Kd.R_elderB (by (with_reducible repeat (first | apply Kd.R_alloc | apply Kd.R_drewN | apply Kd.R_drew)); exact HO_7.out) gb150 (Nat.le_of_eq hg.symm)) hb); have n1_ := Aside0.mk (below_step (by repeat (first | (with_reducible first | exact HB.out | apply below_alloc | apply pw_below_drewN | apply below_drew1) | exact HB.out)) hb); have n2_ := Aside0.mk (hbox); have n3_ := Aside0.mk ((by rw [hg]; exact (below_size (by repeat (first | (with_reducible first | exact HB.out | apply below_alloc | apply pw_below_drewN | apply below_drew1) | exact HB.out))) : w.heap.size ≤ gb150)); have n4_ := Aside0.mk ((by rw [hg]; exact (below_size (by repeat (first | (with_reducible first | exact HB.out | apply below_alloc | apply pw_below_drewN | apply below_drew1) | exact HB.out))) : w.heap.size ≤ gb150)); clear HO_7; clear HB; have HO_7 := n0_; have HB := n1_; have BK150 := n2_; have GW150 := n3_; have GE150 := n4_; clear n0_ n1_ n2_ n3_ n4_; clear hb hbox hg; have hcz20_0 : w19.cell? ⟨gb150, 0, none⟩ = some (.int .i64 0) := (blk_cell BK150.out 0).trans rfl; have hcz20_1 : w19.cell? ⟨gb150, 1, none⟩ = some (.int .i64 0) := (blk_cell BK150.out 1).trans rfl; have hcz20_2 : w19.cell? ⟨gb150, 2, none⟩ = some (.int .i64 0) := (blk_cell BK150.out 2).trans rfl; have hcz20_3 : w19.cell? ⟨gb150, 3, none⟩ = some (.bool false) := (blk_cell BK150.out 3).trans rfl; have hcz20_4 : w19.cell? ⟨gb150, 4, none⟩ = some (.bool false) := (blk_cell BK150.out 4).trans rfl; have hcz20_5 : w19.cell? ⟨gb150, 5, none⟩ = some (.bool false) := (blk_cell BK150.out 5).trans rfl; have hcz20_6 : w19.cell? ⟨gb150, 6, none⟩ = some (.bool false) := (blk_cell BK150.out 6).trans rfl; have hcz20_7 : w19.cell? ⟨gb150, 7, none⟩ = some (.int .i64 0) := (blk_cell BK150.out 7).trans rfl; have hcz20_8 : w19.cell? ⟨gb150, 8, none⟩ = some (.int .i64 0) := (blk_cell BK150.out 8).trans rfl; have hcz20_9 : w19.cell? ⟨gb150, 9, none⟩ = some (.bool false) := (blk_cell BK150.out 9).trans rfl; have hcz20_10 : w19.cell? ⟨gb150, 10, none⟩ = some (.int .i64 0) := (blk_cell BK150.out 10).trans rfl; have hfz20_0 := blk_frozen BK150.out 0; have hfz20_1 := blk_frozen BK150.out 1; have hfz20_2 := blk_frozen BK150.out 2; have hfz20_3 := blk_frozen BK150.out 3; have hfz20_4 := blk_frozen BK150.out 4; have hfz20_5 := blk_frozen BK150.out 5; have hfz20_6 := blk_frozen BK150.out 6; have hfz20_7 := blk_frozen BK150.out 7; have hfz20_8 := blk_frozen BK150.out 8; have hfz20_9 := blk_frozen BK150.out 9; have hfz20_10 := blk_frozen BK150.out 10)))
                          go_ret
                          exact ⟨by first | rfl | (simp [errW_none, errW_some] <;> rfl) | (simp only [← hji12]; first | rfl | (simp [errW_none, errW_some] <;> rfl)) | (simp [*, errW_none, errW_some] <;> rfl), by repeat (first | (with_reducible first | exact HB.out | apply below_alloc | apply pw_below_drewN | apply below_drew1 | refine below_set ?_ GE150.out) | exact HB.out)⟩
                        · rw [if_neg c18] at H
                          have c18b0 : decide (1048576 < ((rd_T25 l0 (ji12)).f7)) = false := decide_eq_false c18
                          clear c18
                          by_cases c21 : ((rd_T25 l0 (ji12)).f2) > 1048576
                          · rw [if_pos c21] at H
                            have c21b0 : decide (1048576 < ((rd_T25 l0 (ji12)).f2)) = true := decide_eq_true c21
                            clear c21
                            obtain rfl := Option.some.inj H
                            have p149 : 0 ≤ ((ji12) : Int) := of_decide_eq_true (by first | (with_reducible assumption) | assumption)
                            have q149 : (ji12) < (l0.length : Int) := of_decide_eq_true (by first | (with_reducible assumption) | assumption)
                            obtain ⟨ad149, e149, hx149_0, hx149_1, hx149_2, hx149_3, hx149_4, hx149_5, hx149_6, hx149_7, hx149_8, hx149_9, hx149_10⟩ := at_T25 HR0.out (ji12) p149 q149
                            cases e149
                            replace hx149_0 := (HB.out.cell (World.block_lt_of_cell? w _ hx149_0)).trans hx149_0
                            replace hx149_1 := (HB.out.cell (World.block_lt_of_cell? w _ hx149_1)).trans hx149_1
                            replace hx149_2 := (HB.out.cell (World.block_lt_of_cell? w _ hx149_2)).trans hx149_2
                            replace hx149_3 := (HB.out.cell (World.block_lt_of_cell? w _ hx149_3)).trans hx149_3
                            replace hx149_4 := (HB.out.cell (World.block_lt_of_cell? w _ hx149_4)).trans hx149_4
                            replace hx149_5 := (HB.out.cell (World.block_lt_of_cell? w _ hx149_5)).trans hx149_5
                            replace hx149_6 := (HB.out.cell (World.block_lt_of_cell? w _ hx149_6)).trans hx149_6
                            replace hx149_7 := (HB.out.cell (World.block_lt_of_cell? w _ hx149_7)).trans hx149_7
                            replace hx149_8 := (HB.out.cell (World.block_lt_of_cell? w _ hx149_8)).trans hx149_8
                            replace hx149_9 := (HB.out.cell (World.block_lt_of_cell? w _ hx149_9)).trans hx149_9
                            replace hx149_10 := (HB.out.cell (World.block_lt_of_cell? w _ hx149_10)).trans hx149_10
                            replace p149 := eq_true p149
                            replace q149 := eq_true q149
                            go_wp2_with (first | ((with_reducible refine gate_dst (N := 9) rfl ?_); (try (refine gate_guard (by rfl) ?_; dsimp only)); refine box_event ?hg (N := 9) ?hd (cs := #[.int .i64 0, .int .i64 0, .int .i64 0, .bool false, .bool false, .bool false, .bool false, .int .i64 0, .int .i64 0, .bool false, .int .i64 0]) (t := 25) ?hr ?_; (case hd => rfl); (case hg => rfl); (case hr => first | (go_simp; done) | (go_simp; rfl)); intro gb150 hg w22 hbox hb; have n0_ := Aside0.mk (Kd.R_below (Kd.R_elderB (by (with_reducible repeat (first | apply Kd.R_alloc | apply Kd.R_drewN | apply Kd.R_drew)); exact HO_7.out) gb150 (Nat.le_of_eq hg.symm)) hb); have n1_ := Aside0.mk (below_step (by repeat (first | (with_reducible first | exact HB.out | apply below_alloc | apply pw_below_drewN | apply below_drew1) | exact HB.out)) hb); have n2_ := Aside0.mk (hbox); have n3_ := Aside0.mk ((by rw [hg]; exact (below_size (by repeat (first | (with_reducible first | exact HB.out | apply below_alloc | apply pw_below_drewN | apply below_drew1) | exact HB.out))) : w.heap.size ≤ gb150)); have n4_ := Aside0.mk ((by rw [hg]; exact (below_size (by repeat (first | (with_reducible first | exact HB.out | apply below_alloc | apply pw_below_drewN | apply below_drew1) | exact HB.out))) : w.heap.size ≤ gb150)); clear HO_7; clear HB; have HO_7 := n0_; have HB := n1_; have BK150 := n2_; have GW150 := n3_; have GE150 := n4_; clear n0_ n1_ n2_ n3_ n4_; clear hb hbox hg; have hcz23_0 : w22.cell? ⟨gb150, 0, none⟩ = some (.int .i64 0) := (blk_cell BK150.out 0).trans rfl; have hcz23_1 : w22.cell? ⟨gb150, 1, none⟩ = some (.int .i64 0) := (blk_cell BK150.out 1).trans rfl; have hcz23_2 : w22.cell? ⟨gb150, 2, none⟩ = some (.int .i64 0) := (blk_cell BK150.out 2).trans rfl; have hcz23_3 : w22.cell? ⟨gb150, 3, none⟩ = some (.bool false) := (blk_cell BK150.out 3).trans rfl; have hcz23_4 : w22.cell? ⟨gb150, 4, none⟩ = some (.bool false) := (blk_cell BK150.out 4).trans rfl; have hcz23_5 : w22.cell? ⟨gb150, 5, none⟩ = some (.bool false) := (blk_cell BK150.out 5).trans rfl; have hcz23_6 : w22.cell? ⟨gb150, 6, none⟩ = some (.bool false) := (blk_cell BK150.out 6).trans rfl; have hcz23_7 : w22.cell? ⟨gb150, 7, none⟩ = some (.int .i64 0) := (blk_cell BK150.out 7).trans rfl; have hcz23_8 : w22.cell? ⟨gb150, 8, none⟩ = some (.int .i64 0) := (blk_cell BK150.out 8).trans rfl; have hcz23_9 : w22.cell? ⟨gb150, 9, none⟩ = some (.bool false) := (blk_cell BK150.out 9).trans rfl; have hcz23_10 : w22.cell? ⟨gb150, 10, none⟩ = some (.int .i64 0) := (blk_cell BK150.out 10).trans rfl; have hfz23_0 := blk_frozen BK150.out 0; have hfz23_1 := blk_frozen BK150.out 1; have hfz23_2 := blk_frozen BK150.out 2; have hfz23_3 := blk_frozen BK150.out 3; have hfz23_4 := blk_frozen BK150.out 4; have hfz23_5 := blk_frozen BK150.out 5; have hfz23_6 := blk_frozen BK150.out 6; have hfz23_7 := blk_frozen BK150.out 7; have hfz23_8 := blk_frozen BK150.out 8; have hfz23_9 := blk_frozen BK150.out 9; have hfz23_10 := blk_frozen BK150.out 10))
                            repeat (go_quiet (first | ((with_reducible refine gate_dst (N := 9) rfl ?_); (try (refine gate_guard (by rfl) ?_; dsimp only)); refine box_event ?hg (N := 9) ?hd (cs := #[.int .i64 0, .int .i64 0, .int .i64 0, .bool false, .bool false, .bool false, .bool false, .int .i64 0, .int .i64 0, .bool false, .int .i64 0]) (t := 25) ?hr ?_; (case hd => rfl); (case hg => rfl); (case hr => first | (go_simp; done) | (go_simp; rfl)); intro gb150 hg w22 hbox hb; have n0_ := Aside0.mk (Kd.R_below (Kd.R_elderB (by (with_reducible repeat (first | apply Kd.R_alloc | apply Kd.R_drewN | apply Kd.R_drew)); exact HO_7.out) gb150 (Nat.le_of_eq hg.symm)) hb); have n1_ := Aside0.mk (below_step (by repeat (first | (with_reducible first | exact HB.out | apply below_alloc | apply pw_below_drewN | apply below_drew1) | exact HB.out)) hb); have n2_ := Aside0.mk (hbox); have n3_ := Aside0.mk ((by rw [hg]; exact (below_size (by repeat (first | (with_reducible first | exact HB.out | apply below_alloc | apply pw_below_drewN | apply below_drew1) | exact HB.out))) : w.heap.size ≤ gb150)); have n4_ := Aside0.mk ((by rw [hg]; exact (below_size (by repeat (first | (with_reducible first | exact HB.out | apply below_alloc | apply pw_below_drewN | apply below_drew1) | exact HB.out))) : w.heap.size ≤ gb150)); clear HO_7; clear HB; have HO_7 := n0_; have HB := n1_; have BK150 := n2_; have GW150 := n3_; have GE150 := n4_; clear n0_ n1_ n2_ n3_ n4_; clear hb hbox hg; have hcz23_0 : w22.cell? ⟨gb150, 0, none⟩ = some (.int .i64 0) := (blk_cell BK150.out 0).trans rfl; have hcz23_1 : w22.cell? ⟨gb150, 1, none⟩ = some (.int .i64 0) := (blk_cell BK150.out 1).trans rfl; have hcz23_2 : w22.cell? ⟨gb150, 2, none⟩ = some (.int .i64 0) := (blk_cell BK150.out 2).trans rfl; have hcz23_3 : w22.cell? ⟨gb150, 3, none⟩ = some (.bool false) := (blk_cell BK150.out 3).trans rfl; have hcz23_4 : w22.cell? ⟨gb150, 4, none⟩ = some (.bool false) := (blk_cell BK150.out 4).trans rfl; have hcz23_5 : w22.cell? ⟨gb150, 5, none⟩ = some (.bool false) := (blk_cell BK150.out 5).trans rfl; have hcz23_6 : w22.cell? ⟨gb150, 6, none⟩ = some (.bool false) := (blk_cell BK150.out 6).trans rfl; have hcz23_7 : w22.cell? ⟨gb150, 7, none⟩ = some (.int .i64 0) := (blk_cell BK150.out 7).trans rfl; have hcz23_8 : w22.cell? ⟨gb150, 8, none⟩ = some (.int .i64 0) := (blk_cell BK150.out 8).trans rfl; have hcz23_9 : w22.cell? ⟨gb150, 9, none⟩ = some (.bool false) := (blk_cell BK150.out 9).trans rfl; have hcz23_10 : w22.cell? ⟨gb150, 10, none⟩ = some (.int .i64 0) := (blk_cell BK150.out 10).trans rfl; have hfz23_0 := blk_frozen BK150.out 0; have hfz23_1 := blk_frozen BK150.out 1; have hfz23_2 := blk_frozen BK150.out 2; have hfz23_3 := blk_frozen BK150.out 3; have hfz23_4 := blk_frozen BK150.out 4; have hfz23_5 := blk_frozen BK150.out 5; have hfz23_6 := blk_frozen BK150.out 6; have hfz23_7 := blk_frozen BK150.out 7; have hfz23_8 := blk_frozen BK150.out 8; have hfz23_9 := blk_frozen BK150.out 9; have hfz23_10 := blk_frozen BK150.out 10)); try go_wp2_with (first | ((with_reducible refine gate_dst (N := 9) rfl ?_); (try (refine gate_guard (by rfl) ?_; dsimp only)); refine box_event ?hg (N := 9) ?hd (cs := #[.int .i64 0, .int .i64 0, .int .i64 0, .bool false, .bool false, .bool false, .bool false, .int .i64 0, .int .i64 0, .bool false, .int .i64 0]) (t := 25) ?hr ?_; (case hd => rfl); (case hg => rfl); (case hr => first | (go_simp; done) | (go_simp; rfl)); intro gb150 hg w22 hbox hb; have n0_ := Aside0.mk (Kd.R_below (Kd.R_elderB (by (with_reducible repeat (first | apply Kd.R_alloc | apply Kd.R_drewN | apply Kd.R_drew)); exact HO_7.out) gb150 (Nat.le_of_eq hg.symm)) hb); have n1_ := Aside0.mk (below_step (by repeat (first | (with_reducible first | exact HB.out | apply below_alloc | apply pw_below_drewN | apply below_drew1) | exact HB.out)) hb); have n2_ := Aside0.mk (hbox); have n3_ := Aside0.mk ((by rw [hg]; exact (below_size (by repeat (first | (with_reducible first | exact HB.out | apply below_alloc | apply pw_below_drewN | apply below_drew1) | exact HB.out))) : w.heap.size ≤ gb150)); have n4_ := Aside0.mk ((by rw [hg]; exact (below_size (by repeat (first | (with_reducible first | exact HB.out | apply below_alloc | apply pw_below_drewN | apply below_drew1) | exact HB.out))) : w.heap.size ≤ gb150)); clear HO_7; clear HB; have HO_7 := n0_; have HB := n1_; have BK150 := n2_; have GW150 := n3_; have GE150 := n4_; clear n0_ n1_ n2_ n3_ n4_; clear hb hbox hg; have hcz23_0 : w22.cell? ⟨gb150, 0, none⟩ = some (.int .i64 0) := (blk_cell BK150.out 0).trans rfl; have hcz23_1 : w22.cell? ⟨gb150, 1, none⟩ = some (.int .i64 0) := (blk_cell BK150.out 1).trans rfl; have hcz23_2 : w22.cell? ⟨gb150, 2, none⟩ = some (.int .i64 0) := (blk_cell BK150.out 2).trans rfl; have hcz23_3 : w22.cell? ⟨gb150, 3, none⟩ = some (.bool false) := (blk_cell BK150.out 3).trans rfl; have hcz23_4 : w22.cell? ⟨gb150, 4, none⟩ = some (.bool false) := (blk_cell BK150.out 4).trans rfl; have hcz23_5 : w22.cell? ⟨gb150, 5, none⟩ = some (.bool false) := (blk_cell BK150.out 5).trans rfl; have hcz23_6 : w22.cell? ⟨gb150, 6, none⟩ = some (.bool false) := (blk_cell BK150.out 6).trans rfl; have hcz23_7 : w22.cell? ⟨gb150, 7, none⟩ = some (.int .i64 0) := (blk_cell BK150.out 7).trans rfl; have hcz23_8 : w22.cell? ⟨gb150, 8, none⟩ = some (.int .i64 0) := (blk_cell BK150.out 8).trans rfl; have hcz23_9 : w22.cell? ⟨gb150, 9, none⟩ = some (.bool false) := (blk_cell BK150.out 9).trans rfl; have hcz23_10 : w22.cell? ⟨gb150, 10, none⟩ = some (.int .i64 0) := (blk_cell BK150.out 10).trans rfl; have hfz23_0 := blk_frozen BK150.out 0; have hfz23_1 := blk_frozen BK150.out 1; have hfz23_2 := blk_frozen BK150.out 2; have hfz23_3 := blk_frozen BK150.out 3; have hfz23_4 := blk_frozen BK150.out 4; have hfz23_5 := blk_frozen BK150.out 5; have hfz23_6 := blk_frozen BK150.out 6; have hfz23_7 := blk_frozen BK150.out 7; have hfz23_8 := blk_frozen BK150.out 8; have hfz23_9 := blk_frozen BK150.out 9; have hfz23_10 := blk_frozen BK150.out 10)))
                            go_ret
                            exact ⟨by first | rfl | (simp [errW_none, errW_some] <;> rfl) | (simp only [← hji12]; first | rfl | (simp [errW_none, errW_some] <;> rfl)) | (simp [*, errW_none, errW_some] <;> rfl), by repeat (first | (with_reducible first | exact HB.out | apply below_alloc | apply pw_below_drewN | apply below_drew1 | refine below_set ?_ GE150.out) | exact HB.out)⟩
                          · rw [if_neg c21] at H
                            have c21b0 : decide (1048576 < ((rd_T25 l0 (ji12)).f2)) = false := decide_eq_false c21
                            clear c21
                            by_cases c24 : ((rd_T25 l0 (ji12)).f2) < (-1048576)
                            · rw [if_pos c24] at H
                              have c24b0 : decide (((rd_T25 l0 (ji12)).f2) < (-1048576)) = true := decide_eq_true c24
                              clear c24
                              obtain rfl := Option.some.inj H
                              have p149 : 0 ≤ ((ji12) : Int) := of_decide_eq_true (by first | (with_reducible assumption) | assumption)
                              have q149 : (ji12) < (l0.length : Int) := of_decide_eq_true (by first | (with_reducible assumption) | assumption)
                              obtain ⟨ad149, e149, hx149_0, hx149_1, hx149_2, hx149_3, hx149_4, hx149_5, hx149_6, hx149_7, hx149_8, hx149_9, hx149_10⟩ := at_T25 HR0.out (ji12) p149 q149
                              cases e149
                              replace hx149_0 := (HB.out.cell (World.block_lt_of_cell? w _ hx149_0)).trans hx149_0
                              replace hx149_1 := (HB.out.cell (World.block_lt_of_cell? w _ hx149_1)).trans hx149_1
                              replace hx149_2 := (HB.out.cell (World.block_lt_of_cell? w _ hx149_2)).trans hx149_2
                              replace hx149_3 := (HB.out.cell (World.block_lt_of_cell? w _ hx149_3)).trans hx149_3
                              replace hx149_4 := (HB.out.cell (World.block_lt_of_cell? w _ hx149_4)).trans hx149_4
                              replace hx149_5 := (HB.out.cell (World.block_lt_of_cell? w _ hx149_5)).trans hx149_5
                              replace hx149_6 := (HB.out.cell (World.block_lt_of_cell? w _ hx149_6)).trans hx149_6
                              replace hx149_7 := (HB.out.cell (World.block_lt_of_cell? w _ hx149_7)).trans hx149_7
                              replace hx149_8 := (HB.out.cell (World.block_lt_of_cell? w _ hx149_8)).trans hx149_8
                              replace hx149_9 := (HB.out.cell (World.block_lt_of_cell? w _ hx149_9)).trans hx149_9
                              replace hx149_10 := (HB.out.cell (World.block_lt_of_cell? w _ hx149_10)).trans hx149_10
                              replace p149 := eq_true p149
                              replace q149 := eq_true q149
                              go_wp2_with (first | ((with_reducible refine gate_dst (N := 9) rfl ?_); (try (refine gate_guard (by rfl) ?_; dsimp only)); refine box_event ?hg (N := 9) ?hd (cs := #[.int .i64 0, .int .i64 0, .int .i64 0, .bool false, .bool false, .bool false, .bool false, .int .i64 0, .int .i64 0, .bool false, .int .i64 0]) (t := 25) ?hr ?_; (case hd => rfl); (case hg => rfl); (case hr => first | (go_simp; done) | (go_simp; rfl)); intro gb150 hg w25 hbox hb; have n0_ := Aside0.mk (Kd.R_below (Kd.R_elderB (by (with_reducible repeat (first | apply Kd.R_alloc | apply Kd.R_drewN | apply Kd.R_drew)); exact HO_7.out) gb150 (Nat.le_of_eq hg.symm)) hb); have n1_ := Aside0.mk (below_step (by repeat (first | (with_reducible first | exact HB.out | apply below_alloc | apply pw_below_drewN | apply below_drew1) | exact HB.out)) hb); have n2_ := Aside0.mk (hbox); have n3_ := Aside0.mk ((by rw [hg]; exact (below_size (by repeat (first | (with_reducible first | exact HB.out | apply below_alloc | apply pw_below_drewN | apply below_drew1) | exact HB.out))) : w.heap.size ≤ gb150)); have n4_ := Aside0.mk ((by rw [hg]; exact (below_size (by repeat (first | (with_reducible first | exact HB.out | apply below_alloc | apply pw_below_drewN | apply below_drew1) | exact HB.out))) : w.heap.size ≤ gb150)); clear HO_7; clear HB; have HO_7 := n0_; have HB := n1_; have BK150 := n2_; have GW150 := n3_; have GE150 := n4_; clear n0_ n1_ n2_ n3_ n4_; clear hb hbox hg; have hcz26_0 : w25.cell? ⟨gb150, 0, none⟩ = some (.int .i64 0) := (blk_cell BK150.out 0).trans rfl; have hcz26_1 : w25.cell? ⟨gb150, 1, none⟩ = some (.int .i64 0) := (blk_cell BK150.out 1).trans rfl; have hcz26_2 : w25.cell? ⟨gb150, 2, none⟩ = some (.int .i64 0) := (blk_cell BK150.out 2).trans rfl; have hcz26_3 : w25.cell? ⟨gb150, 3, none⟩ = some (.bool false) := (blk_cell BK150.out 3).trans rfl; have hcz26_4 : w25.cell? ⟨gb150, 4, none⟩ = some (.bool false) := (blk_cell BK150.out 4).trans rfl; have hcz26_5 : w25.cell? ⟨gb150, 5, none⟩ = some (.bool false) := (blk_cell BK150.out 5).trans rfl; have hcz26_6 : w25.cell? ⟨gb150, 6, none⟩ = some (.bool false) := (blk_cell BK150.out 6).trans rfl; have hcz26_7 : w25.cell? ⟨gb150, 7, none⟩ = some (.int .i64 0) := (blk_cell BK150.out 7).trans rfl; have hcz26_8 : w25.cell? ⟨gb150, 8, none⟩ = some (.int .i64 0) := (blk_cell BK150.out 8).trans rfl; have hcz26_9 : w25.cell? ⟨gb150, 9, none⟩ = some (.bool false) := (blk_cell BK150.out 9).trans rfl; have hcz26_10 : w25.cell? ⟨gb150, 10, none⟩ = some (.int .i64 0) := (blk_cell BK150.out 10).trans rfl; have hfz26_0 := blk_frozen BK150.out 0; have hfz26_1 := blk_frozen BK150.out 1; have hfz26_2 := blk_frozen BK150.out 2; have hfz26_3 := blk_frozen BK150.out 3; have hfz26_4 := blk_frozen BK150.out 4; have hfz26_5 := blk_frozen BK150.out 5; have hfz26_6 := blk_frozen BK150.out 6; have hfz26_7 := blk_frozen BK150.out 7; have hfz26_8 := blk_frozen BK150.out 8; have hfz26_9 := blk_frozen BK150.out 9; have hfz26_10 := blk_frozen BK150.out 10))
                              repeat (go_quiet (first | ((with_reducible refine gate_dst (N := 9) rfl ?_); (try (refine gate_guard (by rfl) ?_; dsimp only)); refine box_event ?hg (N := 9) ?hd (cs := #[.int .i64 0, .int .i64 0, .int .i64 0, .bool false, .bool false, .bool false, .bool false, .int .i64 0, .int .i64 0, .bool false, .int .i64 0]) (t := 25) ?hr ?_; (case hd => rfl); (case hg => rfl); (case hr => first | (go_simp; done) | (go_simp; rfl)); intro gb150 hg w25 hbox hb; have n0_ := Aside0.mk (Kd.R_below (Kd.R_elderB (by (with_reducible repeat (first | apply Kd.R_alloc | apply Kd.R_drewN | apply Kd.R_drew)); exact HO_7.out) gb150 (Nat.le_of_eq hg.symm)) hb); have n1_ := Aside0.mk (below_step (by repeat (first | (with_reducible first | exact HB.out | apply below_alloc | apply pw_below_drewN | apply below_drew1) | exact HB.out)) hb); have n2_ := Aside0.mk (hbox); have n3_ := Aside0.mk ((by rw [hg]; exact (below_size (by repeat (first | (with_reducible first | exact HB.out | apply below_alloc | apply pw_below_drewN | apply below_drew1) | exact HB.out))) : w.heap.size ≤ gb150)); have n4_ := Aside0.mk ((by rw [hg]; exact (below_size (by repeat (first | (with_reducible first | exact HB.out | apply below_alloc | apply pw_below_drewN | apply below_drew1) | exact HB.out))) : w.heap.size ≤ gb150)); clear HO_7; clear HB; have HO_7 := n0_; have HB := n1_; have BK150 := n2_; have GW150 := n3_; have GE150 := n4_; clear n0_ n1_ n2_ n3_ n4_; clear hb hbox hg; have hcz26_0 : w25.cell? ⟨gb150, 0, none⟩ = some (.int .i64 0) := (blk_cell BK150.out 0).trans rfl; have hcz26_1 : w25.cell? ⟨gb150, 1, none⟩ = some (.int .i64 0) := (blk_cell BK150.out 1).trans rfl; have hcz26_2 : w25.cell? ⟨gb150, 2, none⟩ = some (.int .i64 0) := (blk_cell BK150.out 2).trans rfl; have hcz26_3 : w25.cell? ⟨gb150, 3, none⟩ = some (.bool false) := (blk_cell BK150.out 3).trans rfl; have hcz26_4 : w25.cell? ⟨gb150, 4, none⟩ = some (.bool false) := (blk_cell BK150.out 4).trans rfl; have hcz26_5 : w25.cell? ⟨gb150, 5, none⟩ = some (.bool false) := (blk_cell BK150.out 5).trans rfl; have hcz26_6 : w25.cell? ⟨gb150, 6, none⟩ = some (.bool false) := (blk_cell BK150.out 6).trans rfl; have hcz26_7 : w25.cell? ⟨gb150, 7, none⟩ = some (.int .i64 0) := (blk_cell BK150.out 7).trans rfl; have hcz26_8 : w25.cell? ⟨gb150, 8, none⟩ = some (.int .i64 0) := (blk_cell BK150.out 8).trans rfl; have hcz26_9 : w25.cell? ⟨gb150, 9, none⟩ = some (.bool false) := (blk_cell BK150.out 9).trans rfl; have hcz26_10 : w25.cell? ⟨gb150, 10, none⟩ = some (.int .i64 0) := (blk_cell BK150.out 10).trans rfl; have hfz26_0 := blk_frozen BK150.out 0; have hfz26_1 := blk_frozen BK150.out 1; have hfz26_2 := blk_frozen BK150.out 2; have hfz26_3 := blk_frozen BK150.out 3; have hfz26_4 := blk_frozen BK150.out 4; have hfz26_5 := blk_frozen BK150.out 5; have hfz26_6 := blk_frozen BK150.out 6; have hfz26_7 := blk_frozen BK150.out 7; have hfz26_8 := blk_frozen BK150.out 8; have hfz26_9 := blk_frozen BK150.out 9; have hfz26_10 := blk_frozen BK150.out 10)); try go_wp2_with (first | ((with_reducible refine gate_dst (N := 9) rfl ?_); (try (refine gate_guard (by rfl) ?_; dsimp only)); refine box_event ?hg (N := 9) ?hd (cs := #[.int .i64 0, .int .i64 0, .int .i64 0, .bool false, .bool false, .bool false, .bool false, .int .i64 0, .int .i64 0, .bool false, .int .i64 0]) (t := 25) ?hr ?_; (case hd => rfl); (case hg => rfl); (case hr => first | (go_simp; done) | (go_simp; rfl)); intro gb150 hg w25 hbox hb; have n0_ := Aside0.mk (Kd.R_below (Kd.R_elderB (by (with_reducible repeat (first | apply Kd.R_alloc | apply Kd.R_drewN | apply Kd.R_drew)); exact HO_7.out) gb150 (Nat.le_of_eq hg.symm)) hb); have n1_ := Aside0.mk (below_step (by repeat (first | (with_reducible first | exact HB.out | apply below_alloc | apply pw_below_drewN | apply below_drew1) | exact HB.out)) hb); have n2_ := Aside0.mk (hbox); have n3_ := Aside0.mk ((by rw [hg]; exact (below_size (by repeat (first | (with_reducible first | exact HB.out | apply below_alloc | apply pw_below_drewN | apply below_drew1) | exact HB.out))) : w.heap.size ≤ gb150)); have n4_ := Aside0.mk ((by rw [hg]; exact (below_size (by repeat (first | (with_reducible first | exact HB.out | apply below_alloc | apply pw_below_drewN | apply below_drew1) | exact HB.out))) : w.heap.size ≤ gb150)); clear HO_7; clear HB; have HO_7 := n0_; have HB := n1_; have BK150 := n2_; have GW150 := n3_; have GE150 := n4_; clear n0_ n1_ n2_ n3_ n4_; clear hb hbox hg; have hcz26_0 : w25.cell? ⟨gb150, 0, none⟩ = some (.int .i64 0) := (blk_cell BK150.out 0).trans rfl; have hcz26_1 : w25.cell? ⟨gb150, 1, none⟩ = some (.int .i64 0) := (blk_cell BK150.out 1).trans rfl; have hcz26_2 : w25.cell? ⟨gb150, 2, none⟩ = some (.int .i64 0) := (blk_cell BK150.out 2).trans rfl; have hcz26_3 : w25.cell? ⟨gb150, 3, none⟩ = some (.bool false) := (blk_cell BK150.out 3).trans rfl; have hcz26_4 : w25.cell? ⟨gb150, 4, none⟩ = some (.bool false) := (blk_cell BK150.out 4).trans rfl; have hcz26_5 : w25.cell? ⟨gb150, 5, none⟩ = some (.bool false) := (blk_cell BK150.out 5).trans rfl; have hcz26_6 : w25.cell? ⟨gb150, 6, none⟩ = some (.bool false) := (blk_cell BK150.out 6).trans rfl; have hcz26_7 : w25.cell? ⟨gb150, 7, none⟩ = some (.int .i64 0) := (blk_cell BK150.out 7).trans rfl; have hcz26_8 : w25.cell? ⟨gb150, 8, none⟩ = some (.int .i64 0) := (blk_cell BK150.out 8).trans rfl; have hcz26_9 : w25.cell? ⟨gb150, 9, none⟩ = some (.bool false) := (blk_cell BK150.out 9).trans rfl; have hcz26_10 : w25.cell? ⟨gb150, 10, none⟩ = some (.int .i64 0) := (blk_cell BK150.out 10).trans rfl; have hfz26_0 := blk_frozen BK150.out 0; have hfz26_1 := blk_frozen BK150.out 1; have hfz26_2 := blk_frozen BK150.out 2; have hfz26_3 := blk_frozen BK150.out 3; have hfz26_4 := blk_frozen BK150.out 4; have hfz26_5 := blk_frozen BK150.out 5; have hfz26_6 := blk_frozen BK150.out 6; have hfz26_7 := blk_frozen BK150.out 7; have hfz26_8 := blk_frozen BK150.out 8; have hfz26_9 := blk_frozen BK150.out 9; have hfz26_10 := blk_frozen BK150.out 10)))
                              go_ret
                              exact ⟨by first | rfl | (simp [errW_none, errW_some] <;> rfl) | (simp only [← hji12]; first | rfl | (simp [errW_none, errW_some] <;> rfl)) | (simp [*, errW_none, errW_some] <;> rfl), by repeat (first | (with_reducible first | exact HB.out | apply below_alloc | apply pw_below_drewN | apply below_drew1 | refine below_set ?_ GE150.out) | exact HB.out)⟩
                            · rw [if_neg c24] at H
                              have c24b0 : decide (((rd_T25 l0 (ji12)).f2) < (-1048576)) = false := decide_eq_false c24
                              clear c24
                              by_cases c27 : x7_2.length < 2199023255552
                              · rw [if_pos c27] at H
                                have LMc27 := Aside0.mk c27
                                clear c27
                                obtain ⟨y151, hy151⟩ : ∃ y_ : List (S25), y_ = (x7_2 ++ [(⟨(rd_T25 l0 (ji12)).f0, (rd_T25 l0 (ji12)).f1, (rd_T25 l0 (ji12)).f2, (rd_T25 l0 (ji12)).f3, (rd_T25 l0 (ji12)).f4, (rd_T25 l0 (ji12)).f5, (rd_T25 l0 (ji12)).f6, (rd_T25 l0 (ji12)).f7, (rd_T25 l0 (ji12)).f8, (rd_T25 l0 (ji12)).f9, (rd_T25 l0 (ji12)).f10⟩ : S25)]) := ⟨_, rfl⟩
                                replace H : (evenhandedlaw16_BoundsOrders.l0 k2 l0 a1 a2 y151 (wrap64 (x8_2 - 1))) = some r := by first | (rw [hy151]; with_reducible exact H) | (have H2_ := (Option.bind_some _ _).symm.trans H; rw [hy151]; with_reducible exact H2_) | (have H2_ := (Option.bind_some _ _).symm.trans H; with_reducible exact H2_) | with_reducible exact H | (rw [hy151]; exact H) | exact H
                                have Ny151 := Aside0.mk hy151
                                clear hy151
                                have H' := Aside0.mk H
                                clear H
                                have p149 : 0 ≤ ((ji12) : Int) := of_decide_eq_true (by first | (with_reducible assumption) | assumption)
                                have q149 : (ji12) < (l0.length : Int) := of_decide_eq_true (by first | (with_reducible assumption) | assumption)
                                obtain ⟨ad149, e149, hx149_0, hx149_1, hx149_2, hx149_3, hx149_4, hx149_5, hx149_6, hx149_7, hx149_8, hx149_9, hx149_10⟩ := at_T25 HR0.out (ji12) p149 q149
                                cases e149
                                replace hx149_0 := (HB.out.cell (World.block_lt_of_cell? w _ hx149_0)).trans hx149_0
                                replace hx149_1 := (HB.out.cell (World.block_lt_of_cell? w _ hx149_1)).trans hx149_1
                                replace hx149_2 := (HB.out.cell (World.block_lt_of_cell? w _ hx149_2)).trans hx149_2
                                replace hx149_3 := (HB.out.cell (World.block_lt_of_cell? w _ hx149_3)).trans hx149_3
                                replace hx149_4 := (HB.out.cell (World.block_lt_of_cell? w _ hx149_4)).trans hx149_4
                                replace hx149_5 := (HB.out.cell (World.block_lt_of_cell? w _ hx149_5)).trans hx149_5
                                replace hx149_6 := (HB.out.cell (World.block_lt_of_cell? w _ hx149_6)).trans hx149_6
                                replace hx149_7 := (HB.out.cell (World.block_lt_of_cell? w _ hx149_7)).trans hx149_7
                                replace hx149_8 := (HB.out.cell (World.block_lt_of_cell? w _ hx149_8)).trans hx149_8
                                replace hx149_9 := (HB.out.cell (World.block_lt_of_cell? w _ hx149_9)).trans hx149_9
                                replace hx149_10 := (HB.out.cell (World.block_lt_of_cell? w _ hx149_10)).trans hx149_10
                                replace p149 := eq_true p149
                                replace q149 := eq_true q149
                                go_wp2_with (first | ((with_reducible refine gate_dst (N := 9) rfl ?_); (try (refine gate_guard (by rfl) ?_; dsimp only)); refine box_event ?hg (N := 9) ?hd (cs := #[.int .i64 0, .int .i64 0, .int .i64 0, .bool false, .bool false, .bool false, .bool false, .int .i64 0, .int .i64 0, .bool false, .int .i64 0]) (t := 25) ?hr ?_; (case hd => rfl); (case hg => rfl); (case hr => first | (go_simp; done) | (go_simp; rfl)); intro gb150 hg w28 hbox hb; have n0_ := Aside0.mk (Kd.R_below (Kd.R_elderB (by (with_reducible repeat (first | apply Kd.R_alloc | apply Kd.R_drewN | apply Kd.R_drew)); exact HO_7.out) gb150 (Nat.le_of_eq hg.symm)) hb); have n1_ := Aside0.mk (below_step (by repeat (first | (with_reducible first | exact HB.out | apply below_alloc | apply pw_below_drewN | apply below_drew1) | exact HB.out)) hb); have n2_ := Aside0.mk (hbox); have n3_ := Aside0.mk ((by rw [hg]; exact (below_size (by repeat (first | (with_reducible first | exact HB.out | apply below_alloc | apply pw_below_drewN | apply below_drew1) | exact HB.out))) : w.heap.size ≤ gb150)); have n4_ := Aside0.mk ((by rw [hg]; exact (below_size (by repeat (first | (with_reducible first | exact HB.out | apply below_alloc | apply pw_below_drewN | apply below_drew1) | exact HB.out))) : w.heap.size ≤ gb150)); clear HO_7; clear HB; have HO_7 := n0_; have HB := n1_; have BK150 := n2_; have GW150 := n3_; have GE150 := n4_; clear n0_ n1_ n2_ n3_ n4_; clear hb hbox hg; have hcz29_0 : w28.cell? ⟨gb150, 0, none⟩ = some (.int .i64 0) := (blk_cell BK150.out 0).trans rfl; have hcz29_1 : w28.cell? ⟨gb150, 1, none⟩ = some (.int .i64 0) := (blk_cell BK150.out 1).trans rfl; have hcz29_2 : w28.cell? ⟨gb150, 2, none⟩ = some (.int .i64 0) := (blk_cell BK150.out 2).trans rfl; have hcz29_3 : w28.cell? ⟨gb150, 3, none⟩ = some (.bool false) := (blk_cell BK150.out 3).trans rfl; have hcz29_4 : w28.cell? ⟨gb150, 4, none⟩ = some (.bool false) := (blk_cell BK150.out 4).trans rfl; have hcz29_5 : w28.cell? ⟨gb150, 5, none⟩ = some (.bool false) := (blk_cell BK150.out 5).trans rfl; have hcz29_6 : w28.cell? ⟨gb150, 6, none⟩ = some (.bool false) := (blk_cell BK150.out 6).trans rfl; have hcz29_7 : w28.cell? ⟨gb150, 7, none⟩ = some (.int .i64 0) := (blk_cell BK150.out 7).trans rfl; have hcz29_8 : w28.cell? ⟨gb150, 8, none⟩ = some (.int .i64 0) := (blk_cell BK150.out 8).trans rfl; have hcz29_9 : w28.cell? ⟨gb150, 9, none⟩ = some (.bool false) := (blk_cell BK150.out 9).trans rfl; have hcz29_10 : w28.cell? ⟨gb150, 10, none⟩ = some (.int .i64 0) := (blk_cell BK150.out 10).trans rfl; have hfz29_0 := blk_frozen BK150.out 0; have hfz29_1 := blk_frozen BK150.out 1; have hfz29_2 := blk_frozen BK150.out 2; have hfz29_3 := blk_frozen BK150.out 3; have hfz29_4 := blk_frozen BK150.out 4; have hfz29_5 := blk_frozen BK150.out 5; have hfz29_6 := blk_frozen BK150.out 6; have hfz29_7 := blk_frozen BK150.out 7; have hfz29_8 := blk_frozen BK150.out 8; have hfz29_9 := blk_frozen BK150.out 9; have hfz29_10 := blk_frozen BK150.out 10) | ((with_reducible refine gate_builtin (b := .append) (xs := #[.tmp 62, .tmp 64]) rfl ?_); (try (refine gate_guard (by rfl) ?_; dsimp only)); at_builtin; refine Kd.R_append k25 (w0 := w) w.heap.size rfl (.tmp 62) (.tmp 64) 22 25 (.agg #[(.int .i64 0), (.int .i64 0), (.int .i64 0), (.bool false), (.bool false), (.bool false), (.bool false), (.int .i64 0), (.int .i64 0), (.bool false), (.int .i64 0)]) 64 rfl Try.underlying22 info25 rfl (by decide) (by omega) u7 x7_2 (⟨(rd_T25 l0 (ji12)).f0, (rd_T25 l0 (ji12)).f1, (rd_T25 l0 (ji12)).f2, (rd_T25 l0 (ji12)).f3, (rd_T25 l0 (ji12)).f4, (rd_T25 l0 (ji12)).f5, (rd_T25 l0 (ji12)).f6, (rd_T25 l0 (ji12)).f7, (rd_T25 l0 (ji12)).f8, (rd_T25 l0 (ji12)).f9, (rd_T25 l0 (ji12)).f10⟩ : S25) [.int .i64 ((rd_T25 l0 (ji12)).f0), .int .i64 ((rd_T25 l0 (ji12)).f1), .int .i64 ((rd_T25 l0 (ji12)).f2), .bool ((rd_T25 l0 (ji12)).f3), .bool ((rd_T25 l0 (ji12)).f4), .bool ((rd_T25 l0 (ji12)).f5), .bool ((rd_T25 l0 (ji12)).f6), .int .i64 ((rd_T25 l0 (ji12)).f7), .int .i64 ((rd_T25 l0 (ji12)).f8), .bool ((rd_T25 l0 (ji12)).f9), .int .i64 ((rd_T25 l0 (ji12)).f10)] (fun k_ => k_ ≠ gb150) (fun _ => False) rfl (by first | (go_simp; done) | (go_simp; rfl)) ?aP (fun _ hk => hk.elim) ?aF ?aO ?aB ?aS ?aL ?_; (case aP => exact k25_mkM _ _ _ (⟨(rd_T25 l0 (ji12)).f0, (rd_T25 l0 (ji12)).f1, (rd_T25 l0 (ji12)).f2, (rd_T25 l0 (ji12)).f3, (rd_T25 l0 (ji12)).f4, (rd_T25 l0 (ji12)).f5, (rd_T25 l0 (ji12)).f6, (rd_T25 l0 (ji12)).f7, (rd_T25 l0 (ji12)).f8, (rd_T25 l0 (ji12)).f9, (rd_T25 l0 (ji12)).f10⟩ : S25)); (case aB => exact (by repeat (first | (with_reducible first | exact HB.out | apply below_alloc | apply pw_below_drewN | apply below_drew1 | refine below_set ?_ GE150.out) | exact HB.out))); (case aF => exact (fun k_ hk => Kd.freshB (g := gb150) (o := .cells #[.int .i64 ((rd_T25 l0 (ji12)).f0), .int .i64 ((rd_T25 l0 (ji12)).f1), .int .i64 ((rd_T25 l0 (ji12)).f2), .bool ((rd_T25 l0 (ji12)).f3), .bool ((rd_T25 l0 (ji12)).f4), .bool ((rd_T25 l0 (ji12)).f5), .bool ((rd_T25 l0 (ji12)).f6), .int .i64 ((rd_T25 l0 (ji12)).f7), .int .i64 ((rd_T25 l0 (ji12)).f8), .bool ((rd_T25 l0 (ji12)).f9), .int .i64 ((rd_T25 l0 (ji12)).f10)] 25 (0, 0)) (by (with_reducible repeat (first | refine blk_drewN ?_ _ | refine blk_drew ?_ | refine blk_alloc ?_ _)); refine blk_put (cs := #[.int .i64 ((rd_T25 l0 (ji12)).f0), .int .i64 ((rd_T25 l0 (ji12)).f1), .int .i64 ((rd_T25 l0 (ji12)).f2), .bool ((rd_T25 l0 (ji12)).f3), .bool ((rd_T25 l0 (ji12)).f4), .bool ((rd_T25 l0 (ji12)).f5), .bool ((rd_T25 l0 (ji12)).f6), .int .i64 ((rd_T25 l0 (ji12)).f7), .int .i64 ((rd_T25 l0 (ji12)).f8), .bool ((rd_T25 l0 (ji12)).f9), .int .i64 0]) ?_ 10 _ rfl; (with_reducible repeat (first | refine blk_drewN ?_ _ | refine blk_drew ?_ | refine blk_alloc ?_ _)); refine blk_put (cs := #[.int .i64 ((rd_T25 l0 (ji12)).f0), .int .i64 ((rd_T25 l0 (ji12)).f1), .int .i64 ((rd_T25 l0 (ji12)).f2), .bool ((rd_T25 l0 (ji12)).f3), .bool ((rd_T25 l0 (ji12)).f4), .bool ((rd_T25 l0 (ji12)).f5), .bool ((rd_T25 l0 (ji12)).f6), .int .i64 ((rd_T25 l0 (ji12)).f7), .int .i64 ((rd_T25 l0 (ji12)).f8), .bool false, .int .i64 0]) ?_ 9 _ rfl; (with_reducible repeat (first | refine blk_drewN ?_ _ | refine blk_drew ?_ | refine blk_alloc ?_ _)); refine blk_put (cs := #[.int .i64 ((rd_T25 l0 (ji12)).f0), .int .i64 ((rd_T25 l0 (ji12)).f1), .int .i64 ((rd_T25 l0 (ji12)).f2), .bool ((rd_T25 l0 (ji12)).f3), .bool ((rd_T25 l0 (ji12)).f4), .bool ((rd_T25 l0 (ji12)).f5), .bool ((rd_T25 l0 (ji12)).f6), .int .i64 ((rd_T25 l0 (ji12)).f7), .int .i64 0, .bool false, .int .i64 0]) ?_ 8 _ rfl; (with_reducible repeat (first | refine blk_drewN ?_ _ | refine blk_drew ?_ | refine blk_alloc ?_ _)); refine blk_put (cs := #[.int .i64 ((rd_T25 l0 (ji12)).f0), .int .i64 ((rd_T25 l0 (ji12)).f1), .int .i64 ((rd_T25 l0 (ji12)).f2), .bool ((rd_T25 l0 (ji12)).f3), .bool ((rd_T25 l0 (ji12)).f4), .bool ((rd_T25 l0 (ji12)).f5), .bool ((rd_T25 l0 (ji12)).f6), .int .i64 0, .int .i64 0, .bool false, .int .i64 0]) ?_ 7 _ rfl; (with_reducible repeat (first | refine blk_drewN ?_ _ | refine blk_drew ?_ | refine blk_alloc ?_ _)); refine blk_put (cs := #[.int .i64 ((rd_T25 l0 (ji12)).f0), .int .i64 ((rd_T25 l0 (ji12)).f1), .int .i64 ((rd_T25 l0 (ji12)).f2), .bool ((rd_T25 l0 (ji12)).f3), .bool ((rd_T25 l0 (ji12)).f4), .bool ((rd_T25 l0 (ji12)).f5), .bool false, .int .i64 0, .int .i64 0, .bool false, .int .i64 0]) ?_ 6 _ rfl; (with_reducible repeat (first | refine blk_drewN ?_ _ | refine blk_drew ?_ | refine blk_alloc ?_ _)); refine blk_put (cs := #[.int .i64 ((rd_T25 l0 (ji12)).f0), .int .i64 ((rd_T25 l0 (ji12)).f1), .int .i64 ((rd_T25 l0 (ji12)).f2), .bool ((rd_T25 l0 (ji12)).f3), .bool ((rd_T25 l0 (ji12)).f4), .bool false, .bool false, .int .i64 0, .int .i64 0, .bool false, .int .i64 0]) ?_ 5 _ rfl; (with_reducible repeat (first | refine blk_drewN ?_ _ | refine blk_drew ?_ | refine blk_alloc ?_ _)); refine blk_put (cs := #[.int .i64 ((rd_T25 l0 (ji12)).f0), .int .i64 ((rd_T25 l0 (ji12)).f1), .int .i64 ((rd_T25 l0 (ji12)).f2), .bool ((rd_T25 l0 (ji12)).f3), .bool false, .bool false, .bool false, .int .i64 0, .int .i64 0, .bool false, .int .i64 0]) ?_ 4 _ rfl; (with_reducible repeat (first | refine blk_drewN ?_ _ | refine blk_drew ?_ | refine blk_alloc ?_ _)); refine blk_put (cs := #[.int .i64 ((rd_T25 l0 (ji12)).f0), .int .i64 ((rd_T25 l0 (ji12)).f1), .int .i64 ((rd_T25 l0 (ji12)).f2), .bool false, .bool false, .bool false, .bool false, .int .i64 0, .int .i64 0, .bool false, .int .i64 0]) ?_ 3 _ rfl; (with_reducible repeat (first | refine blk_drewN ?_ _ | refine blk_drew ?_ | refine blk_alloc ?_ _)); refine blk_put (cs := #[.int .i64 ((rd_T25 l0 (ji12)).f0), .int .i64 ((rd_T25 l0 (ji12)).f1), .int .i64 0, .bool false, .bool false, .bool false, .bool false, .int .i64 0, .int .i64 0, .bool false, .int .i64 0]) ?_ 2 _ rfl; (with_reducible repeat (first | refine blk_drewN ?_ _ | refine blk_drew ?_ | refine blk_alloc ?_ _)); refine blk_put (cs := #[.int .i64 ((rd_T25 l0 (ji12)).f0), .int .i64 0, .int .i64 0, .bool false, .bool false, .bool false, .bool false, .int .i64 0, .int .i64 0, .bool false, .int .i64 0]) ?_ 1 _ rfl; (with_reducible repeat (first | refine blk_drewN ?_ _ | refine blk_drew ?_ | refine blk_alloc ?_ _)); refine blk_put (cs := #[.int .i64 0, .int .i64 0, .int .i64 0, .bool false, .bool false, .bool false, .bool false, .int .i64 0, .int .i64 0, .bool false, .int .i64 0]) ?_ 0 _ rfl; (with_reducible repeat (first | refine blk_drewN ?_ _ | refine blk_drew ?_ | refine blk_alloc ?_ _)); exact BK150.out) k_ hk)); (case aO => exact (by (with_reducible repeat (first | apply Kd.R_alloc | apply Kd.R_drewN | apply Kd.R_drew)); exact Kd.R_mono (Kd.R_far (p := ⟨gb150, 10, none⟩) (Kd.R_far (p := ⟨gb150, 9, none⟩) (Kd.R_far (p := ⟨gb150, 8, none⟩) (Kd.R_far (p := ⟨gb150, 7, none⟩) (Kd.R_far (p := ⟨gb150, 6, none⟩) (Kd.R_far (p := ⟨gb150, 5, none⟩) (Kd.R_far (p := ⟨gb150, 4, none⟩) (Kd.R_far (p := ⟨gb150, 3, none⟩) (Kd.R_far (p := ⟨gb150, 2, none⟩) (Kd.R_far (p := ⟨gb150, 1, none⟩) (Kd.R_far (p := ⟨gb150, 0, none⟩) (Kd.R_mono HO_7.out (fun k_ hk => (⟨hk, hk.2⟩ : _ ∧ k_ ≠ gb150))) (fun _ hk => hk.2) (.int .i64 ((rd_T25 l0 (ji12)).f0))) (fun _ hk => hk.2) (.int .i64 ((rd_T25 l0 (ji12)).f1))) (fun _ hk => hk.2) (.int .i64 ((rd_T25 l0 (ji12)).f2))) (fun _ hk => hk.2) (.bool ((rd_T25 l0 (ji12)).f3))) (fun _ hk => hk.2) (.bool ((rd_T25 l0 (ji12)).f4))) (fun _ hk => hk.2) (.bool ((rd_T25 l0 (ji12)).f5))) (fun _ hk => hk.2) (.bool ((rd_T25 l0 (ji12)).f6))) (fun _ hk => hk.2) (.int .i64 ((rd_T25 l0 (ji12)).f7))) (fun _ hk => hk.2) (.int .i64 ((rd_T25 l0 (ji12)).f8))) (fun _ hk => hk.2) (.bool ((rd_T25 l0 (ji12)).f9))) (fun _ hk => hk.2) (.int .i64 ((rd_T25 l0 (ji12)).f10))) (fun _ hk => hk.1.2))); (case aS => exact (below_size (by repeat (first | (with_reducible first | exact HB.out | apply below_alloc | apply pw_below_drewN | apply below_drew1 | refine below_set ?_ GE150.out) | exact HB.out)))); (case aL => have := LMc27.out; omega); intro v152 w30 ho hb hg hat; rw [← Ny151.out] at ho; have n0_ := Aside0.mk (blk_grown (g := gb150) (o := .cells #[.int .i64 ((rd_T25 l0 (ji12)).f0), .int .i64 ((rd_T25 l0 (ji12)).f1), .int .i64 ((rd_T25 l0 (ji12)).f2), .bool ((rd_T25 l0 (ji12)).f3), .bool ((rd_T25 l0 (ji12)).f4), .bool ((rd_T25 l0 (ji12)).f5), .bool ((rd_T25 l0 (ji12)).f6), .int .i64 ((rd_T25 l0 (ji12)).f7), .int .i64 ((rd_T25 l0 (ji12)).f8), .bool ((rd_T25 l0 (ji12)).f9), .int .i64 ((rd_T25 l0 (ji12)).f10)] 25 (0, 0)) (by (with_reducible repeat (first | refine blk_drewN ?_ _ | refine blk_drew ?_ | refine blk_alloc ?_ _)); refine blk_put (cs := #[.int .i64 ((rd_T25 l0 (ji12)).f0), .int .i64 ((rd_T25 l0 (ji12)).f1), .int .i64 ((rd_T25 l0 (ji12)).f2), .bool ((rd_T25 l0 (ji12)).f3), .bool ((rd_T25 l0 (ji12)).f4), .bool ((rd_T25 l0 (ji12)).f5), .bool ((rd_T25 l0 (ji12)).f6), .int .i64 ((rd_T25 l0 (ji12)).f7), .int .i64 ((rd_T25 l0 (ji12)).f8), .bool ((rd_T25 l0 (ji12)).f9), .int .i64 0]) ?_ 10 _ rfl; (with_reducible repeat (first | refine blk_drewN ?_ _ | refine blk_drew ?_ | refine blk_alloc ?_ _)); refine blk_put (cs := #[.int .i64 ((rd_T25 l0 (ji12)).f0), .int .i64 ((rd_T25 l0 (ji12)).f1), .int .i64 ((rd_T25 l0 (ji12)).f2), .bool ((rd_T25 l0 (ji12)).f3), .bool ((rd_T25 l0 (ji12)).f4), .bool ((rd_T25 l0 (ji12)).f5), .bool ((rd_T25 l0 (ji12)).f6), .int .i64 ((rd_T25 l0 (ji12)).f7), .int .i64 ((rd_T25 l0 (ji12)).f8), .bool false, .int .i64 0]) ?_ 9 _ rfl; (with_reducible repeat (first | refine blk_drewN ?_ _ | refine blk_drew ?_ | refine blk_alloc ?_ _)); refine blk_put (cs := #[.int .i64 ((rd_T25 l0 (ji12)).f0), .int .i64 ((rd_T25 l0 (ji12)).f1), .int .i64 ((rd_T25 l0 (ji12)).f2), .bool ((rd_T25 l0 (ji12)).f3), .bool ((rd_T25 l0 (ji12)).f4), .bool ((rd_T25 l0 (ji12)).f5), .bool ((rd_T25 l0 (ji12)).f6), .int .i64 ((rd_T25 l0 (ji12)).f7), .int .i64 0, .bool false, .int .i64 0]) ?_ 8 _ rfl; (with_reducible repeat (first | refine blk_drewN ?_ _ | refine blk_drew ?_ | refine blk_alloc ?_ _)); refine blk_put (cs := #[.int .i64 ((rd_T25 l0 (ji12)).f0), .int .i64 ((rd_T25 l0 (ji12)).f1), .int .i64 ((rd_T25 l0 (ji12)).f2), .bool ((rd_T25 l0 (ji12)).f3), .bool ((rd_T25 l0 (ji12)).f4), .bool ((rd_T25 l0 (ji12)).f5), .bool ((rd_T25 l0 (ji12)).f6), .int .i64 0, .int .i64 0, .bool false, .int .i64 0]) ?_ 7 _ rfl; (with_reducible repeat (first | refine blk_drewN ?_ _ | refine blk_drew ?_ | refine blk_alloc ?_ _)); refine blk_put (cs := #[.int .i64 ((rd_T25 l0 (ji12)).f0), .int .i64 ((rd_T25 l0 (ji12)).f1), .int .i64 ((rd_T25 l0 (ji12)).f2), .bool ((rd_T25 l0 (ji12)).f3), .bool ((rd_T25 l0 (ji12)).f4), .bool ((rd_T25 l0 (ji12)).f5), .bool false, .int .i64 0, .int .i64 0, .bool false, .int .i64 0]) ?_ 6 _ rfl; (with_reducible repeat (first | refine blk_drewN ?_ _ | refine blk_drew ?_ | refine blk_alloc ?_ _)); refine blk_put (cs := #[.int .i64 ((rd_T25 l0 (ji12)).f0), .int .i64 ((rd_T25 l0 (ji12)).f1), .int .i64 ((rd_T25 l0 (ji12)).f2), .bool ((rd_T25 l0 (ji12)).f3), .bool ((rd_T25 l0 (ji12)).f4), .bool false, .bool false, .int .i64 0, .int .i64 0, .bool false, .int .i64 0]) ?_ 5 _ rfl; (with_reducible repeat (first | refine blk_drewN ?_ _ | refine blk_drew ?_ | refine blk_alloc ?_ _)); refine blk_put (cs := #[.int .i64 ((rd_T25 l0 (ji12)).f0), .int .i64 ((rd_T25 l0 (ji12)).f1), .int .i64 ((rd_T25 l0 (ji12)).f2), .bool ((rd_T25 l0 (ji12)).f3), .bool false, .bool false, .bool false, .int .i64 0, .int .i64 0, .bool false, .int .i64 0]) ?_ 4 _ rfl; (with_reducible repeat (first | refine blk_drewN ?_ _ | refine blk_drew ?_ | refine blk_alloc ?_ _)); refine blk_put (cs := #[.int .i64 ((rd_T25 l0 (ji12)).f0), .int .i64 ((rd_T25 l0 (ji12)).f1), .int .i64 ((rd_T25 l0 (ji12)).f2), .bool false, .bool false, .bool false, .bool false, .int .i64 0, .int .i64 0, .bool false, .int .i64 0]) ?_ 3 _ rfl; (with_reducible repeat (first | refine blk_drewN ?_ _ | refine blk_drew ?_ | refine blk_alloc ?_ _)); refine blk_put (cs := #[.int .i64 ((rd_T25 l0 (ji12)).f0), .int .i64 ((rd_T25 l0 (ji12)).f1), .int .i64 0, .bool false, .bool false, .bool false, .bool false, .int .i64 0, .int .i64 0, .bool false, .int .i64 0]) ?_ 2 _ rfl; (with_reducible repeat (first | refine blk_drewN ?_ _ | refine blk_drew ?_ | refine blk_alloc ?_ _)); refine blk_put (cs := #[.int .i64 ((rd_T25 l0 (ji12)).f0), .int .i64 0, .int .i64 0, .bool false, .bool false, .bool false, .bool false, .int .i64 0, .int .i64 0, .bool false, .int .i64 0]) ?_ 1 _ rfl; (with_reducible repeat (first | refine blk_drewN ?_ _ | refine blk_drew ?_ | refine blk_alloc ?_ _)); refine blk_put (cs := #[.int .i64 0, .int .i64 0, .int .i64 0, .bool false, .bool false, .bool false, .bool false, .int .i64 0, .int .i64 0, .bool false, .int .i64 0]) ?_ 0 _ rfl; (with_reducible repeat (first | refine blk_drewN ?_ _ | refine blk_drew ?_ | refine blk_alloc ?_ _)); exact BK150.out) hg (Kd.R_away HO_7.out (fun _ hk => hk.2))); have n1_ := Aside0.mk (hb); have n2_ := Aside0.mk (ho); clear BK150; clear HB; clear HO_7; have BK150 := n0_; have HB := n1_; have HO153 := n2_; clear n0_ n1_ n2_; clear ho hb hg hat))
                                repeat (go_quiet (first | ((with_reducible refine gate_dst (N := 9) rfl ?_); (try (refine gate_guard (by rfl) ?_; dsimp only)); refine box_event ?hg (N := 9) ?hd (cs := #[.int .i64 0, .int .i64 0, .int .i64 0, .bool false, .bool false, .bool false, .bool false, .int .i64 0, .int .i64 0, .bool false, .int .i64 0]) (t := 25) ?hr ?_; (case hd => rfl); (case hg => rfl); (case hr => first | (go_simp; done) | (go_simp; rfl)); intro gb150 hg w28 hbox hb; have n0_ := Aside0.mk (Kd.R_below (Kd.R_elderB (by (with_reducible repeat (first | apply Kd.R_alloc | apply Kd.R_drewN | apply Kd.R_drew)); exact HO_7.out) gb150 (Nat.le_of_eq hg.symm)) hb); have n1_ := Aside0.mk (below_step (by repeat (first | (with_reducible first | exact HB.out | apply below_alloc | apply pw_below_drewN | apply below_drew1) | exact HB.out)) hb); have n2_ := Aside0.mk (hbox); have n3_ := Aside0.mk ((by rw [hg]; exact (below_size (by repeat (first | (with_reducible first | exact HB.out | apply below_alloc | apply pw_below_drewN | apply below_drew1) | exact HB.out))) : w.heap.size ≤ gb150)); have n4_ := Aside0.mk ((by rw [hg]; exact (below_size (by repeat (first | (with_reducible first | exact HB.out | apply below_alloc | apply pw_below_drewN | apply below_drew1) | exact HB.out))) : w.heap.size ≤ gb150)); clear HO_7; clear HB; have HO_7 := n0_; have HB := n1_; have BK150 := n2_; have GW150 := n3_; have GE150 := n4_; clear n0_ n1_ n2_ n3_ n4_; clear hb hbox hg; have hcz29_0 : w28.cell? ⟨gb150, 0, none⟩ = some (.int .i64 0) := (blk_cell BK150.out 0).trans rfl; have hcz29_1 : w28.cell? ⟨gb150, 1, none⟩ = some (.int .i64 0) := (blk_cell BK150.out 1).trans rfl; have hcz29_2 : w28.cell? ⟨gb150, 2, none⟩ = some (.int .i64 0) := (blk_cell BK150.out 2).trans rfl; have hcz29_3 : w28.cell? ⟨gb150, 3, none⟩ = some (.bool false) := (blk_cell BK150.out 3).trans rfl; have hcz29_4 : w28.cell? ⟨gb150, 4, none⟩ = some (.bool false) := (blk_cell BK150.out 4).trans rfl; have hcz29_5 : w28.cell? ⟨gb150, 5, none⟩ = some (.bool false) := (blk_cell BK150.out 5).trans rfl; have hcz29_6 : w28.cell? ⟨gb150, 6, none⟩ = some (.bool false) := (blk_cell BK150.out 6).trans rfl; have hcz29_7 : w28.cell? ⟨gb150, 7, none⟩ = some (.int .i64 0) := (blk_cell BK150.out 7).trans rfl; have hcz29_8 : w28.cell? ⟨gb150, 8, none⟩ = some (.int .i64 0) := (blk_cell BK150.out 8).trans rfl; have hcz29_9 : w28.cell? ⟨gb150, 9, none⟩ = some (.bool false) := (blk_cell BK150.out 9).trans rfl; have hcz29_10 : w28.cell? ⟨gb150, 10, none⟩ = some (.int .i64 0) := (blk_cell BK150.out 10).trans rfl; have hfz29_0 := blk_frozen BK150.out 0; have hfz29_1 := blk_frozen BK150.out 1; have hfz29_2 := blk_frozen BK150.out 2; have hfz29_3 := blk_frozen BK150.out 3; have hfz29_4 := blk_frozen BK150.out 4; have hfz29_5 := blk_frozen BK150.out 5; have hfz29_6 := blk_frozen BK150.out 6; have hfz29_7 := blk_frozen BK150.out 7; have hfz29_8 := blk_frozen BK150.out 8; have hfz29_9 := blk_frozen BK150.out 9; have hfz29_10 := blk_frozen BK150.out 10) | ((with_reducible refine gate_builtin (b := .append) (xs := #[.tmp 62, .tmp 64]) rfl ?_); (try (refine gate_guard (by rfl) ?_; dsimp only)); at_builtin; refine Kd.R_append k25 (w0 := w) w.heap.size rfl (.tmp 62) (.tmp 64) 22 25 (.agg #[(.int .i64 0), (.int .i64 0), (.int .i64 0), (.bool false), (.bool false), (.bool false), (.bool false), (.int .i64 0), (.int .i64 0), (.bool false), (.int .i64 0)]) 64 rfl Try.underlying22 info25 rfl (by decide) (by omega) u7 x7_2 (⟨(rd_T25 l0 (ji12)).f0, (rd_T25 l0 (ji12)).f1, (rd_T25 l0 (ji12)).f2, (rd_T25 l0 (ji12)).f3, (rd_T25 l0 (ji12)).f4, (rd_T25 l0 (ji12)).f5, (rd_T25 l0 (ji12)).f6, (rd_T25 l0 (ji12)).f7, (rd_T25 l0 (ji12)).f8, (rd_T25 l0 (ji12)).f9, (rd_T25 l0 (ji12)).f10⟩ : S25) [.int .i64 ((rd_T25 l0 (ji12)).f0), .int .i64 ((rd_T25 l0 (ji12)).f1), .int .i64 ((rd_T25 l0 (ji12)).f2), .bool ((rd_T25 l0 (ji12)).f3), .bool ((rd_T25 l0 (ji12)).f4), .bool ((rd_T25 l0 (ji12)).f5), .bool ((rd_T25 l0 (ji12)).f6), .int .i64 ((rd_T25 l0 (ji12)).f7), .int .i64 ((rd_T25 l0 (ji12)).f8), .bool ((rd_T25 l0 (ji12)).f9), .int .i64 ((rd_T25 l0 (ji12)).f10)] (fun k_ => k_ ≠ gb150) (fun _ => False) rfl (by first | (go_simp; done) | (go_simp; rfl)) ?aP (fun _ hk => hk.elim) ?aF ?aO ?aB ?aS ?aL ?_; (case aP => exact k25_mkM _ _ _ (⟨(rd_T25 l0 (ji12)).f0, (rd_T25 l0 (ji12)).f1, (rd_T25 l0 (ji12)).f2, (rd_T25 l0 (ji12)).f3, (rd_T25 l0 (ji12)).f4, (rd_T25 l0 (ji12)).f5, (rd_T25 l0 (ji12)).f6, (rd_T25 l0 (ji12)).f7, (rd_T25 l0 (ji12)).f8, (rd_T25 l0 (ji12)).f9, (rd_T25 l0 (ji12)).f10⟩ : S25)); (case aB => exact (by repeat (first | (with_reducible first | exact HB.out | apply below_alloc | apply pw_below_drewN | apply below_drew1 | refine below_set ?_ GE150.out) | exact HB.out))); (case aF => exact (fun k_ hk => Kd.freshB (g := gb150) (o := .cells #[.int .i64 ((rd_T25 l0 (ji12)).f0), .int .i64 ((rd_T25 l0 (ji12)).f1), .int .i64 ((rd_T25 l0 (ji12)).f2), .bool ((rd_T25 l0 (ji12)).f3), .bool ((rd_T25 l0 (ji12)).f4), .bool ((rd_T25 l0 (ji12)).f5), .bool ((rd_T25 l0 (ji12)).f6), .int .i64 ((rd_T25 l0 (ji12)).f7), .int .i64 ((rd_T25 l0 (ji12)).f8), .bool ((rd_T25 l0 (ji12)).f9), .int .i64 ((rd_T25 l0 (ji12)).f10)] 25 (0, 0)) (by (with_reducible repeat (first | refine blk_drewN ?_ _ | refine blk_drew ?_ | refine blk_alloc ?_ _)); refine blk_put (cs := #[.int .i64 ((rd_T25 l0 (ji12)).f0), .int .i64 ((rd_T25 l0 (ji12)).f1), .int .i64 ((rd_T25 l0 (ji12)).f2), .bool ((rd_T25 l0 (ji12)).f3), .bool ((rd_T25 l0 (ji12)).f4), .bool ((rd_T25 l0 (ji12)).f5), .bool ((rd_T25 l0 (ji12)).f6), .int .i64 ((rd_T25 l0 (ji12)).f7), .int .i64 ((rd_T25 l0 (ji12)).f8), .bool ((rd_T25 l0 (ji12)).f9), .int .i64 0]) ?_ 10 _ rfl; (with_reducible repeat (first | refine blk_drewN ?_ _ | refine blk_drew ?_ | refine blk_alloc ?_ _)); refine blk_put (cs := #[.int .i64 ((rd_T25 l0 (ji12)).f0), .int .i64 ((rd_T25 l0 (ji12)).f1), .int .i64 ((rd_T25 l0 (ji12)).f2), .bool ((rd_T25 l0 (ji12)).f3), .bool ((rd_T25 l0 (ji12)).f4), .bool ((rd_T25 l0 (ji12)).f5), .bool ((rd_T25 l0 (ji12)).f6), .int .i64 ((rd_T25 l0 (ji12)).f7), .int .i64 ((rd_T25 l0 (ji12)).f8), .bool false, .int .i64 0]) ?_ 9 _ rfl; (with_reducible repeat (first | refine blk_drewN ?_ _ | refine blk_drew ?_ | refine blk_alloc ?_ _)); refine blk_put (cs := #[.int .i64 ((rd_T25 l0 (ji12)).f0), .int .i64 ((rd_T25 l0 (ji12)).f1), .int .i64 ((rd_T25 l0 (ji12)).f2), .bool ((rd_T25 l0 (ji12)).f3), .bool ((rd_T25 l0 (ji12)).f4), .bool ((rd_T25 l0 (ji12)).f5), .bool ((rd_T25 l0 (ji12)).f6), .int .i64 ((rd_T25 l0 (ji12)).f7), .int .i64 0, .bool false, .int .i64 0]) ?_ 8 _ rfl; (with_reducible repeat (first | refine blk_drewN ?_ _ | refine blk_drew ?_ | refine blk_alloc ?_ _)); refine blk_put (cs := #[.int .i64 ((rd_T25 l0 (ji12)).f0), .int .i64 ((rd_T25 l0 (ji12)).f1), .int .i64 ((rd_T25 l0 (ji12)).f2), .bool ((rd_T25 l0 (ji12)).f3), .bool ((rd_T25 l0 (ji12)).f4), .bool ((rd_T25 l0 (ji12)).f5), .bool ((rd_T25 l0 (ji12)).f6), .int .i64 0, .int .i64 0, .bool false, .int .i64 0]) ?_ 7 _ rfl; (with_reducible repeat (first | refine blk_drewN ?_ _ | refine blk_drew ?_ | refine blk_alloc ?_ _)); refine blk_put (cs := #[.int .i64 ((rd_T25 l0 (ji12)).f0), .int .i64 ((rd_T25 l0 (ji12)).f1), .int .i64 ((rd_T25 l0 (ji12)).f2), .bool ((rd_T25 l0 (ji12)).f3), .bool ((rd_T25 l0 (ji12)).f4), .bool ((rd_T25 l0 (ji12)).f5), .bool false, .int .i64 0, .int .i64 0, .bool false, .int .i64 0]) ?_ 6 _ rfl; (with_reducible repeat (first | refine blk_drewN ?_ _ | refine blk_drew ?_ | refine blk_alloc ?_ _)); refine blk_put (cs := #[.int .i64 ((rd_T25 l0 (ji12)).f0), .int .i64 ((rd_T25 l0 (ji12)).f1), .int .i64 ((rd_T25 l0 (ji12)).f2), .bool ((rd_T25 l0 (ji12)).f3), .bool ((rd_T25 l0 (ji12)).f4), .bool false, .bool false, .int .i64 0, .int .i64 0, .bool false, .int .i64 0]) ?_ 5 _ rfl; (with_reducible repeat (first | refine blk_drewN ?_ _ | refine blk_drew ?_ | refine blk_alloc ?_ _)); refine blk_put (cs := #[.int .i64 ((rd_T25 l0 (ji12)).f0), .int .i64 ((rd_T25 l0 (ji12)).f1), .int .i64 ((rd_T25 l0 (ji12)).f2), .bool ((rd_T25 l0 (ji12)).f3), .bool false, .bool false, .bool false, .int .i64 0, .int .i64 0, .bool false, .int .i64 0]) ?_ 4 _ rfl; (with_reducible repeat (first | refine blk_drewN ?_ _ | refine blk_drew ?_ | refine blk_alloc ?_ _)); refine blk_put (cs := #[.int .i64 ((rd_T25 l0 (ji12)).f0), .int .i64 ((rd_T25 l0 (ji12)).f1), .int .i64 ((rd_T25 l0 (ji12)).f2), .bool false, .bool false, .bool false, .bool false, .int .i64 0, .int .i64 0, .bool false, .int .i64 0]) ?_ 3 _ rfl; (with_reducible repeat (first | refine blk_drewN ?_ _ | refine blk_drew ?_ | refine blk_alloc ?_ _)); refine blk_put (cs := #[.int .i64 ((rd_T25 l0 (ji12)).f0), .int .i64 ((rd_T25 l0 (ji12)).f1), .int .i64 0, .bool false, .bool false, .bool false, .bool false, .int .i64 0, .int .i64 0, .bool false, .int .i64 0]) ?_ 2 _ rfl; (with_reducible repeat (first | refine blk_drewN ?_ _ | refine blk_drew ?_ | refine blk_alloc ?_ _)); refine blk_put (cs := #[.int .i64 ((rd_T25 l0 (ji12)).f0), .int .i64 0, .int .i64 0, .bool false, .bool false, .bool false, .bool false, .int .i64 0, .int .i64 0, .bool false, .int .i64 0]) ?_ 1 _ rfl; (with_reducible repeat (first | refine blk_drewN ?_ _ | refine blk_drew ?_ | refine blk_alloc ?_ _)); refine blk_put (cs := #[.int .i64 0, .int .i64 0, .int .i64 0, .bool false, .bool false, .bool false, .bool false, .int .i64 0, .int .i64 0, .bool false, .int .i64 0]) ?_ 0 _ rfl; (with_reducible repeat (first | refine blk_drewN ?_ _ | refine blk_drew ?_ | refine blk_alloc ?_ _)); exact BK150.out) k_ hk)); (case aO => exact (by (with_reducible repeat (first | apply Kd.R_alloc | apply Kd.R_drewN | apply Kd.R_drew)); exact Kd.R_mono (Kd.R_far (p := ⟨gb150, 10, none⟩) (Kd.R_far (p := ⟨gb150, 9, none⟩) (Kd.R_far (p := ⟨gb150, 8, none⟩) (Kd.R_far (p := ⟨gb150, 7, none⟩) (Kd.R_far (p := ⟨gb150, 6, none⟩) (Kd.R_far (p := ⟨gb150, 5, none⟩) (Kd.R_far (p := ⟨gb150, 4, none⟩) (Kd.R_far (p := ⟨gb150, 3, none⟩) (Kd.R_far (p := ⟨gb150, 2, none⟩) (Kd.R_far (p := ⟨gb150, 1, none⟩) (Kd.R_far (p := ⟨gb150, 0, none⟩) (Kd.R_mono HO_7.out (fun k_ hk => (⟨hk, hk.2⟩ : _ ∧ k_ ≠ gb150))) (fun _ hk => hk.2) (.int .i64 ((rd_T25 l0 (ji12)).f0))) (fun _ hk => hk.2) (.int .i64 ((rd_T25 l0 (ji12)).f1))) (fun _ hk => hk.2) (.int .i64 ((rd_T25 l0 (ji12)).f2))) (fun _ hk => hk.2) (.bool ((rd_T25 l0 (ji12)).f3))) (fun _ hk => hk.2) (.bool ((rd_T25 l0 (ji12)).f4))) (fun _ hk => hk.2) (.bool ((rd_T25 l0 (ji12)).f5))) (fun _ hk => hk.2) (.bool ((rd_T25 l0 (ji12)).f6))) (fun _ hk => hk.2) (.int .i64 ((rd_T25 l0 (ji12)).f7))) (fun _ hk => hk.2) (.int .i64 ((rd_T25 l0 (ji12)).f8))) (fun _ hk => hk.2) (.bool ((rd_T25 l0 (ji12)).f9))) (fun _ hk => hk.2) (.int .i64 ((rd_T25 l0 (ji12)).f10))) (fun _ hk => hk.1.2))); (case aS => exact (below_size (by repeat (first | (with_reducible first | exact HB.out | apply below_alloc | apply pw_below_drewN | apply below_drew1 | refine below_set ?_ GE150.out) | exact HB.out)))); (case aL => have := LMc27.out; omega); intro v152 w30 ho hb hg hat; rw [← Ny151.out] at ho; have n0_ := Aside0.mk (blk_grown (g := gb150) (o := .cells #[.int .i64 ((rd_T25 l0 (ji12)).f0), .int .i64 ((rd_T25 l0 (ji12)).f1), .int .i64 ((rd_T25 l0 (ji12)).f2), .bool ((rd_T25 l0 (ji12)).f3), .bool ((rd_T25 l0 (ji12)).f4), .bool ((rd_T25 l0 (ji12)).f5), .bool ((rd_T25 l0 (ji12)).f6), .int .i64 ((rd_T25 l0 (ji12)).f7), .int .i64 ((rd_T25 l0 (ji12)).f8), .bool ((rd_T25 l0 (ji12)).f9), .int .i64 ((rd_T25 l0 (ji12)).f10)] 25 (0, 0)) (by (with_reducible repeat (first | refine blk_drewN ?_ _ | refine blk_drew ?_ | refine blk_alloc ?_ _)); refine blk_put (cs := #[.int .i64 ((rd_T25 l0 (ji12)).f0), .int .i64 ((rd_T25 l0 (ji12)).f1), .int .i64 ((rd_T25 l0 (ji12)).f2), .bool ((rd_T25 l0 (ji12)).f3), .bool ((rd_T25 l0 (ji12)).f4), .bool ((rd_T25 l0 (ji12)).f5), .bool ((rd_T25 l0 (ji12)).f6), .int .i64 ((rd_T25 l0 (ji12)).f7), .int .i64 ((rd_T25 l0 (ji12)).f8), .bool ((rd_T25 l0 (ji12)).f9), .int .i64 0]) ?_ 10 _ rfl; (with_reducible repeat (first | refine blk_drewN ?_ _ | refine blk_drew ?_ | refine blk_alloc ?_ _)); refine blk_put (cs := #[.int .i64 ((rd_T25 l0 (ji12)).f0), .int .i64 ((rd_T25 l0 (ji12)).f1), .int .i64 ((rd_T25 l0 (ji12)).f2), .bool ((rd_T25 l0 (ji12)).f3), .bool ((rd_T25 l0 (ji12)).f4), .bool ((rd_T25 l0 (ji12)).f5), .bool ((rd_T25 l0 (ji12)).f6), .int .i64 ((rd_T25 l0 (ji12)).f7), .int .i64 ((rd_T25 l0 (ji12)).f8), .bool false, .int .i64 0]) ?_ 9 _ rfl; (with_reducible repeat (first | refine blk_drewN ?_ _ | refine blk_drew ?_ | refine blk_alloc ?_ _)); refine blk_put (cs := #[.int .i64 ((rd_T25 l0 (ji12)).f0), .int .i64 ((rd_T25 l0 (ji12)).f1), .int .i64 ((rd_T25 l0 (ji12)).f2), .bool ((rd_T25 l0 (ji12)).f3), .bool ((rd_T25 l0 (ji12)).f4), .bool ((rd_T25 l0 (ji12)).f5), .bool ((rd_T25 l0 (ji12)).f6), .int .i64 ((rd_T25 l0 (ji12)).f7), .int .i64 0, .bool false, .int .i64 0]) ?_ 8 _ rfl; (with_reducible repeat (first | refine blk_drewN ?_ _ | refine blk_drew ?_ | refine blk_alloc ?_ _)); refine blk_put (cs := #[.int .i64 ((rd_T25 l0 (ji12)).f0), .int .i64 ((rd_T25 l0 (ji12)).f1), .int .i64 ((rd_T25 l0 (ji12)).f2), .bool ((rd_T25 l0 (ji12)).f3), .bool ((rd_T25 l0 (ji12)).f4), .bool ((rd_T25 l0 (ji12)).f5), .bool ((rd_T25 l0 (ji12)).f6), .int .i64 0, .int .i64 0, .bool false, .int .i64 0]) ?_ 7 _ rfl; (with_reducible repeat (first | refine blk_drewN ?_ _ | refine blk_drew ?_ | refine blk_alloc ?_ _)); refine blk_put (cs := #[.int .i64 ((rd_T25 l0 (ji12)).f0), .int .i64 ((rd_T25 l0 (ji12)).f1), .int .i64 ((rd_T25 l0 (ji12)).f2), .bool ((rd_T25 l0 (ji12)).f3), .bool ((rd_T25 l0 (ji12)).f4), .bool ((rd_T25 l0 (ji12)).f5), .bool false, .int .i64 0, .int .i64 0, .bool false, .int .i64 0]) ?_ 6 _ rfl; (with_reducible repeat (first | refine blk_drewN ?_ _ | refine blk_drew ?_ | refine blk_alloc ?_ _)); refine blk_put (cs := #[.int .i64 ((rd_T25 l0 (ji12)).f0), .int .i64 ((rd_T25 l0 (ji12)).f1), .int .i64 ((rd_T25 l0 (ji12)).f2), .bool ((rd_T25 l0 (ji12)).f3), .bool ((rd_T25 l0 (ji12)).f4), .bool false, .bool false, .int .i64 0, .int .i64 0, .bool false, .int .i64 0]) ?_ 5 _ rfl; (with_reducible repeat (first | refine blk_drewN ?_ _ | refine blk_drew ?_ | refine blk_alloc ?_ _)); refine blk_put (cs := #[.int .i64 ((rd_T25 l0 (ji12)).f0), .int .i64 ((rd_T25 l0 (ji12)).f1), .int .i64 ((rd_T25 l0 (ji12)).f2), .bool ((rd_T25 l0 (ji12)).f3), .bool false, .bool false, .bool false, .int .i64 0, .int .i64 0, .bool false, .int .i64 0]) ?_ 4 _ rfl; (with_reducible repeat (first | refine blk_drewN ?_ _ | refine blk_drew ?_ | refine blk_alloc ?_ _)); refine blk_put (cs := #[.int .i64 ((rd_T25 l0 (ji12)).f0), .int .i64 ((rd_T25 l0 (ji12)).f1), .int .i64 ((rd_T25 l0 (ji12)).f2), .bool false, .bool false, .bool false, .bool false, .int .i64 0, .int .i64 0, .bool false, .int .i64 0]) ?_ 3 _ rfl; (with_reducible repeat (first | refine blk_drewN ?_ _ | refine blk_drew ?_ | refine blk_alloc ?_ _)); refine blk_put (cs := #[.int .i64 ((rd_T25 l0 (ji12)).f0), .int .i64 ((rd_T25 l0 (ji12)).f1), .int .i64 0, .bool false, .bool false, .bool false, .bool false, .int .i64 0, .int .i64 0, .bool false, .int .i64 0]) ?_ 2 _ rfl; (with_reducible repeat (first | refine blk_drewN ?_ _ | refine blk_drew ?_ | refine blk_alloc ?_ _)); refine blk_put (cs := #[.int .i64 ((rd_T25 l0 (ji12)).f0), .int .i64 0, .int .i64 0, .bool false, .bool false, .bool false, .bool false, .int .i64 0, .int .i64 0, .bool false, .int .i64 0]) ?_ 1 _ rfl; (with_reducible repeat (first | refine blk_drewN ?_ _ | refine blk_drew ?_ | refine blk_alloc ?_ _)); refine blk_put (cs := #[.int .i64 0, .int .i64 0, .int .i64 0, .bool false, .bool false, .bool false, .bool false, .int .i64 0, .int .i64 0, .bool false, .int .i64 0]) ?_ 0 _ rfl; (with_reducible repeat (first | refine blk_drewN ?_ _ | refine blk_drew ?_ | refine blk_alloc ?_ _)); exact BK150.out) hg (Kd.R_away HO_7.out (fun _ hk => hk.2))); have n1_ := Aside0.mk (hb); have n2_ := Aside0.mk (ho); clear BK150; clear HB; clear HO_7; have BK150 := n0_; have HB := n1_; have HO153 := n2_; clear n0_ n1_ n2_; clear ho hb hg hat)); try go_wp2_with (first | ((with_reducible refine gate_dst (N := 9) rfl ?_); (try (refine gate_guard (by rfl) ?_; dsimp only)); refine box_event ?hg (N := 9) ?hd (cs := #[.int .i64 0, .int .i64 0, .int .i64 0, .bool false, .bool false, .bool false, .bool false, .int .i64 0, .int .i64 0, .bool false, .int .i64 0]) (t := 25) ?hr ?_; (case hd => rfl); (case hg => rfl); (case hr => first | (go_simp; done) | (go_simp; rfl)); intro gb150 hg w28 hbox hb; have n0_ := Aside0.mk (Kd.R_below (Kd.R_elderB (by (with_reducible repeat (first | apply Kd.R_alloc | apply Kd.R_drewN | apply Kd.R_drew)); exact HO_7.out) gb150 (Nat.le_of_eq hg.symm)) hb); have n1_ := Aside0.mk (below_step (by repeat (first | (with_reducible first | exact HB.out | apply below_alloc | apply pw_below_drewN | apply below_drew1) | exact HB.out)) hb); have n2_ := Aside0.mk (hbox); have n3_ := Aside0.mk ((by rw [hg]; exact (below_size (by repeat (first | (with_reducible first | exact HB.out | apply below_alloc | apply pw_below_drewN | apply below_drew1) | exact HB.out))) : w.heap.size ≤ gb150)); have n4_ := Aside0.mk ((by rw [hg]; exact (below_size (by repeat (first | (with_reducible first | exact HB.out | apply below_alloc | apply pw_below_drewN | apply below_drew1) | exact HB.out))) : w.heap.size ≤ gb150)); clear HO_7; clear HB; have HO_7 := n0_; have HB := n1_; have BK150 := n2_; have GW150 := n3_; have GE150 := n4_; clear n0_ n1_ n2_ n3_ n4_; clear hb hbox hg; have hcz29_0 : w28.cell? ⟨gb150, 0, none⟩ = some (.int .i64 0) := (blk_cell BK150.out 0).trans rfl; have hcz29_1 : w28.cell? ⟨gb150, 1, none⟩ = some (.int .i64 0) := (blk_cell BK150.out 1).trans rfl; have hcz29_2 : w28.cell? ⟨gb150, 2, none⟩ = some (.int .i64 0) := (blk_cell BK150.out 2).trans rfl; have hcz29_3 : w28.cell? ⟨gb150, 3, none⟩ = some (.bool false) := (blk_cell BK150.out 3).trans rfl; have hcz29_4 : w28.cell? ⟨gb150, 4, none⟩ = some (.bool false) := (blk_cell BK150.out 4).trans rfl; have hcz29_5 : w28.cell? ⟨gb150, 5, none⟩ = some (.bool false) := (blk_cell BK150.out 5).trans rfl; have hcz29_6 : w28.cell? ⟨gb150, 6, none⟩ = some (.bool false) := (blk_cell BK150.out 6).trans rfl; have hcz29_7 : w28.cell? ⟨gb150, 7, none⟩ = some (.int .i64 0) := (blk_cell BK150.out 7).trans rfl; have hcz29_8 : w28.cell? ⟨gb150, 8, none⟩ = some (.int .i64 0) := (blk_cell BK150.out 8).trans rfl; have hcz29_9 : w28.cell? ⟨gb150, 9, none⟩ = some (.bool false) := (blk_cell BK150.out 9).trans rfl; have hcz29_10 : w28.cell? ⟨gb150, 10, none⟩ = some (.int .i64 0) := (blk_cell BK150.out 10).trans rfl; have hfz29_0 := blk_frozen BK150.out 0; have hfz29_1 := blk_frozen BK150.out 1; have hfz29_2 := blk_frozen BK150.out 2; have hfz29_3 := blk_frozen BK150.out 3; have hfz29_4 := blk_frozen BK150.out 4; have hfz29_5 := blk_frozen BK150.out 5; have hfz29_6 := blk_frozen BK150.out 6; have hfz29_7 := blk_frozen BK150.out 7; have hfz29_8 := blk_frozen BK150.out 8; have hfz29_9 := blk_frozen BK150.out 9; have hfz29_10 := blk_frozen BK150.out 10) | ((with_reducible refine gate_builtin (b := .append) (xs := #[.tmp 62, .tmp 64]) rfl ?_); (try (refine gate_guard (by rfl) ?_; dsimp only)); at_builtin; refine Kd.R_append k25 (w0 := w) w.heap.size rfl (.tmp 62) (.tmp 64) 22 25 (.agg #[(.int .i64 0), (.int .i64 0), (.int .i64 0), (.bool false), (.bool false), (.bool false), (.bool false), (.int .i64 0), (.int .i64 0), (.bool false), (.int .i64 0)]) 64 rfl Try.underlying22 info25 rfl (by decide) (by omega) u7 x7_2 (⟨(rd_T25 l0 (ji12)).f0, (rd_T25 l0 (ji12)).f1, (rd_T25 l0 (ji12)).f2, (rd_T25 l0 (ji12)).f3, (rd_T25 l0 (ji12)).f4, (rd_T25 l0 (ji12)).f5, (rd_T25 l0 (ji12)).f6, (rd_T25 l0 (ji12)).f7, (rd_T25 l0 (ji12)).f8, (rd_T25 l0 (ji12)).f9, (rd_T25 l0 (ji12)).f10⟩ : S25) [.int .i64 ((rd_T25 l0 (ji12)).f0), .int .i64 ((rd_T25 l0 (ji12)).f1), .int .i64 ((rd_T25 l0 (ji12)).f2), .bool ((rd_T25 l0 (ji12)).f3), .bool ((rd_T25 l0 (ji12)).f4), .bool ((rd_T25 l0 (ji12)).f5), .bool ((rd_T25 l0 (ji12)).f6), .int .i64 ((rd_T25 l0 (ji12)).f7), .int .i64 ((rd_T25 l0 (ji12)).f8), .bool ((rd_T25 l0 (ji12)).f9), .int .i64 ((rd_T25 l0 (ji12)).f10)] (fun k_ => k_ ≠ gb150) (fun _ => False) rfl (by first | (go_simp; done) | (go_simp; rfl)) ?aP (fun _ hk => hk.elim) ?aF ?aO ?aB ?aS ?aL ?_; (case aP => exact k25_mkM _ _ _ (⟨(rd_T25 l0 (ji12)).f0, (rd_T25 l0 (ji12)).f1, (rd_T25 l0 (ji12)).f2, (rd_T25 l0 (ji12)).f3, (rd_T25 l0 (ji12)).f4, (rd_T25 l0 (ji12)).f5, (rd_T25 l0 (ji12)).f6, (rd_T25 l0 (ji12)).f7, (rd_T25 l0 (ji12)).f8, (rd_T25 l0 (ji12)).f9, (rd_T25 l0 (ji12)).f10⟩ : S25)); (case aB => exact (by repeat (first | (with_reducible first | exact HB.out | apply below_alloc | apply pw_below_drewN | apply below_drew1 | refine below_set ?_ GE150.out) | exact HB.out))); (case aF => exact (fun k_ hk => Kd.freshB (g := gb150) (o := .cells #[.int .i64 ((rd_T25 l0 (ji12)).f0), .int .i64 ((rd_T25 l0 (ji12)).f1), .int .i64 ((rd_T25 l0 (ji12)).f2), .bool ((rd_T25 l0 (ji12)).f3), .bool ((rd_T25 l0 (ji12)).f4), .bool ((rd_T25 l0 (ji12)).f5), .bool ((rd_T25 l0 (ji12)).f6), .int .i64 ((rd_T25 l0 (ji12)).f7), .int .i64 ((rd_T25 l0 (ji12)).f8), .bool ((rd_T25 l0 (ji12)).f9), .int .i64 ((rd_T25 l0 (ji12)).f10)] 25 (0, 0)) (by (with_reducible repeat (first | refine blk_drewN ?_ _ | refine blk_drew ?_ | refine blk_alloc ?_ _)); refine blk_put (cs := #[.int .i64 ((rd_T25 l0 (ji12)).f0), .int .i64 ((rd_T25 l0 (ji12)).f1), .int .i64 ((rd_T25 l0 (ji12)).f2), .bool ((rd_T25 l0 (ji12)).f3), .bool ((rd_T25 l0 (ji12)).f4), .bool ((rd_T25 l0 (ji12)).f5), .bool ((rd_T25 l0 (ji12)).f6), .int .i64 ((rd_T25 l0 (ji12)).f7), .int .i64 ((rd_T25 l0 (ji12)).f8), .bool ((rd_T25 l0 (ji12)).f9), .int .i64 0]) ?_ 10 _ rfl; (with_reducible repeat (first | refine blk_drewN ?_ _ | refine blk_drew ?_ | refine blk_alloc ?_ _)); refine blk_put (cs := #[.int .i64 ((rd_T25 l0 (ji12)).f0), .int .i64 ((rd_T25 l0 (ji12)).f1), .int .i64 ((rd_T25 l0 (ji12)).f2), .bool ((rd_T25 l0 (ji12)).f3), .bool ((rd_T25 l0 (ji12)).f4), .bool ((rd_T25 l0 (ji12)).f5), .bool ((rd_T25 l0 (ji12)).f6), .int .i64 ((rd_T25 l0 (ji12)).f7), .int .i64 ((rd_T25 l0 (ji12)).f8), .bool false, .int .i64 0]) ?_ 9 _ rfl; (with_reducible repeat (first | refine blk_drewN ?_ _ | refine blk_drew ?_ | refine blk_alloc ?_ _)); refine blk_put (cs := #[.int .i64 ((rd_T25 l0 (ji12)).f0), .int .i64 ((rd_T25 l0 (ji12)).f1), .int .i64 ((rd_T25 l0 (ji12)).f2), .bool ((rd_T25 l0 (ji12)).f3), .bool ((rd_T25 l0 (ji12)).f4), .bool ((rd_T25 l0 (ji12)).f5), .bool ((rd_T25 l0 (ji12)).f6), .int .i64 ((rd_T25 l0 (ji12)).f7), .int .i64 0, .bool false, .int .i64 0]) ?_ 8 _ rfl; (with_reducible repeat (first | refine blk_drewN ?_ _ | refine blk_drew ?_ | refine blk_alloc ?_ _)); refine blk_put (cs := #[.int .i64 ((rd_T25 l0 (ji12)).f0), .int .i64 ((rd_T25 l0 (ji12)).f1), .int .i64 ((rd_T25 l0 (ji12)).f2), .bool ((rd_T25 l0 (ji12)).f3), .bool ((rd_T25 l0 (ji12)).f4), .bool ((rd_T25 l0 (ji12)).f5), .bool ((rd_T25 l0 (ji12)).f6), .int .i64 0, .int .i64 0, .bool false, .int .i64 0]) ?_ 7 _ rfl; (with_reducible repeat (first | refine blk_drewN ?_ _ | refine blk_drew ?_ | refine blk_alloc ?_ _)); refine blk_put (cs := #[.int .i64 ((rd_T25 l0 (ji12)).f0), .int .i64 ((rd_T25 l0 (ji12)).f1), .int .i64 ((rd_T25 l0 (ji12)).f2), .bool ((rd_T25 l0 (ji12)).f3), .bool ((rd_T25 l0 (ji12)).f4), .bool ((rd_T25 l0 (ji12)).f5), .bool false, .int .i64 0, .int .i64 0, .bool false, .int .i64 0]) ?_ 6 _ rfl; (with_reducible repeat (first | refine blk_drewN ?_ _ | refine blk_drew ?_ | refine blk_alloc ?_ _)); refine blk_put (cs := #[.int .i64 ((rd_T25 l0 (ji12)).f0), .int .i64 ((rd_T25 l0 (ji12)).f1), .int .i64 ((rd_T25 l0 (ji12)).f2), .bool ((rd_T25 l0 (ji12)).f3), .bool ((rd_T25 l0 (ji12)).f4), .bool false, .bool false, .int .i64 0, .int .i64 0, .bool false, .int .i64 0]) ?_ 5 _ rfl; (with_reducible repeat (first | refine blk_drewN ?_ _ | refine blk_drew ?_ | refine blk_alloc ?_ _)); refine blk_put (cs := #[.int .i64 ((rd_T25 l0 (ji12)).f0), .int .i64 ((rd_T25 l0 (ji12)).f1), .int .i64 ((rd_T25 l0 (ji12)).f2), .bool ((rd_T25 l0 (ji12)).f3), .bool false, .bool false, .bool false, .int .i64 0, .int .i64 0, .bool false, .int .i64 0]) ?_ 4 _ rfl; (with_reducible repeat (first | refine blk_drewN ?_ _ | refine blk_drew ?_ | refine blk_alloc ?_ _)); refine blk_put (cs := #[.int .i64 ((rd_T25 l0 (ji12)).f0), .int .i64 ((rd_T25 l0 (ji12)).f1), .int .i64 ((rd_T25 l0 (ji12)).f2), .bool false, .bool false, .bool false, .bool false, .int .i64 0, .int .i64 0, .bool false, .int .i64 0]) ?_ 3 _ rfl; (with_reducible repeat (first | refine blk_drewN ?_ _ | refine blk_drew ?_ | refine blk_alloc ?_ _)); refine blk_put (cs := #[.int .i64 ((rd_T25 l0 (ji12)).f0), .int .i64 ((rd_T25 l0 (ji12)).f1), .int .i64 0, .bool false, .bool false, .bool false, .bool false, .int .i64 0, .int .i64 0, .bool false, .int .i64 0]) ?_ 2 _ rfl; (with_reducible repeat (first | refine blk_drewN ?_ _ | refine blk_drew ?_ | refine blk_alloc ?_ _)); refine blk_put (cs := #[.int .i64 ((rd_T25 l0 (ji12)).f0), .int .i64 0, .int .i64 0, .bool false, .bool false, .bool false, .bool false, .int .i64 0, .int .i64 0, .bool false, .int .i64 0]) ?_ 1 _ rfl; (with_reducible repeat (first | refine blk_drewN ?_ _ | refine blk_drew ?_ | refine blk_alloc ?_ _)); refine blk_put (cs := #[.int .i64 0, .int .i64 0, .int .i64 0, .bool false, .bool false, .bool false, .bool false, .int .i64 0, .int .i64 0, .bool false, .int .i64 0]) ?_ 0 _ rfl; (with_reducible repeat (first | refine blk_drewN ?_ _ | refine blk_drew ?_ | refine blk_alloc ?_ _)); exact BK150.out) k_ hk)); (case aO => exact (by (with_reducible repeat (first | apply Kd.R_alloc | apply Kd.R_drewN | apply Kd.R_drew)); exact Kd.R_mono (Kd.R_far (p := ⟨gb150, 10, none⟩) (Kd.R_far (p := ⟨gb150, 9, none⟩) (Kd.R_far (p := ⟨gb150, 8, none⟩) (Kd.R_far (p := ⟨gb150, 7, none⟩) (Kd.R_far (p := ⟨gb150, 6, none⟩) (Kd.R_far (p := ⟨gb150, 5, none⟩) (Kd.R_far (p := ⟨gb150, 4, none⟩) (Kd.R_far (p := ⟨gb150, 3, none⟩) (Kd.R_far (p := ⟨gb150, 2, none⟩) (Kd.R_far (p := ⟨gb150, 1, none⟩) (Kd.R_far (p := ⟨gb150, 0, none⟩) (Kd.R_mono HO_7.out (fun k_ hk => (⟨hk, hk.2⟩ : _ ∧ k_ ≠ gb150))) (fun _ hk => hk.2) (.int .i64 ((rd_T25 l0 (ji12)).f0))) (fun _ hk => hk.2) (.int .i64 ((rd_T25 l0 (ji12)).f1))) (fun _ hk => hk.2) (.int .i64 ((rd_T25 l0 (ji12)).f2))) (fun _ hk => hk.2) (.bool ((rd_T25 l0 (ji12)).f3))) (fun _ hk => hk.2) (.bool ((rd_T25 l0 (ji12)).f4))) (fun _ hk => hk.2) (.bool ((rd_T25 l0 (ji12)).f5))) (fun _ hk => hk.2) (.bool ((rd_T25 l0 (ji12)).f6))) (fun _ hk => hk.2) (.int .i64 ((rd_T25 l0 (ji12)).f7))) (fun _ hk => hk.2) (.int .i64 ((rd_T25 l0 (ji12)).f8))) (fun _ hk => hk.2) (.bool ((rd_T25 l0 (ji12)).f9))) (fun _ hk => hk.2) (.int .i64 ((rd_T25 l0 (ji12)).f10))) (fun _ hk => hk.1.2))); (case aS => exact (below_size (by repeat (first | (with_reducible first | exact HB.out | apply below_alloc | apply pw_below_drewN | apply below_drew1 | refine below_set ?_ GE150.out) | exact HB.out)))); (case aL => have := LMc27.out; omega); intro v152 w30 ho hb hg hat; rw [← Ny151.out] at ho; have n0_ := Aside0.mk (blk_grown (g := gb150) (o := .cells #[.int .i64 ((rd_T25 l0 (ji12)).f0), .int .i64 ((rd_T25 l0 (ji12)).f1), .int .i64 ((rd_T25 l0 (ji12)).f2), .bool ((rd_T25 l0 (ji12)).f3), .bool ((rd_T25 l0 (ji12)).f4), .bool ((rd_T25 l0 (ji12)).f5), .bool ((rd_T25 l0 (ji12)).f6), .int .i64 ((rd_T25 l0 (ji12)).f7), .int .i64 ((rd_T25 l0 (ji12)).f8), .bool ((rd_T25 l0 (ji12)).f9), .int .i64 ((rd_T25 l0 (ji12)).f10)] 25 (0, 0)) (by (with_reducible repeat (first | refine blk_drewN ?_ _ | refine blk_drew ?_ | refine blk_alloc ?_ _)); refine blk_put (cs := #[.int .i64 ((rd_T25 l0 (ji12)).f0), .int .i64 ((rd_T25 l0 (ji12)).f1), .int .i64 ((rd_T25 l0 (ji12)).f2), .bool ((rd_T25 l0 (ji12)).f3), .bool ((rd_T25 l0 (ji12)).f4), .bool ((rd_T25 l0 (ji12)).f5), .bool ((rd_T25 l0 (ji12)).f6), .int .i64 ((rd_T25 l0 (ji12)).f7), .int .i64 ((rd_T25 l0 (ji12)).f8), .bool ((rd_T25 l0 (ji12)).f9), .int .i64 0]) ?_ 10 _ rfl; (with_reducible repeat (first | refine blk_drewN ?_ _ | refine blk_drew ?_ | refine blk_alloc ?_ _)); refine blk_put (cs := #[.int .i64 ((rd_T25 l0 (ji12)).f0), .int .i64 ((rd_T25 l0 (ji12)).f1), .int .i64 ((rd_T25 l0 (ji12)).f2), .bool ((rd_T25 l0 (ji12)).f3), .bool ((rd_T25 l0 (ji12)).f4), .bool ((rd_T25 l0 (ji12)).f5), .bool ((rd_T25 l0 (ji12)).f6), .int .i64 ((rd_T25 l0 (ji12)).f7), .int .i64 ((rd_T25 l0 (ji12)).f8), .bool false, .int .i64 0]) ?_ 9 _ rfl; (with_reducible repeat (first | refine blk_drewN ?_ _ | refine blk_drew ?_ | refine blk_alloc ?_ _)); refine blk_put (cs := #[.int .i64 ((rd_T25 l0 (ji12)).f0), .int .i64 ((rd_T25 l0 (ji12)).f1), .int .i64 ((rd_T25 l0 (ji12)).f2), .bool ((rd_T25 l0 (ji12)).f3), .bool ((rd_T25 l0 (ji12)).f4), .bool ((rd_T25 l0 (ji12)).f5), .bool ((rd_T25 l0 (ji12)).f6), .int .i64 ((rd_T25 l0 (ji12)).f7), .int .i64 0, .bool false, .int .i64 0]) ?_ 8 _ rfl; (with_reducible repeat (first | refine blk_drewN ?_ _ | refine blk_drew ?_ | refine blk_alloc ?_ _)); refine blk_put (cs := #[.int .i64 ((rd_T25 l0 (ji12)).f0), .int .i64 ((rd_T25 l0 (ji12)).f1), .int .i64 ((rd_T25 l0 (ji12)).f2), .bool ((rd_T25 l0 (ji12)).f3), .bool ((rd_T25 l0 (ji12)).f4), .bool ((rd_T25 l0 (ji12)).f5), .bool ((rd_T25 l0 (ji12)).f6), .int .i64 0, .int .i64 0, .bool false, .int .i64 0]) ?_ 7 _ rfl; (with_reducible repeat (first | refine blk_drewN ?_ _ | refine blk_drew ?_ | refine blk_alloc ?_ _)); refine blk_put (cs := #[.int .i64 ((rd_T25 l0 (ji12)).f0), .int .i64 ((rd_T25 l0 (ji12)).f1), .int .i64 ((rd_T25 l0 (ji12)).f2), .bool ((rd_T25 l0 (ji12)).f3), .bool ((rd_T25 l0 (ji12)).f4), .bool ((rd_T25 l0 (ji12)).f5), .bool false, .int .i64 0, .int .i64 0, .bool false, .int .i64 0]) ?_ 6 _ rfl; (with_reducible repeat (first | refine blk_drewN ?_ _ | refine blk_drew ?_ | refine blk_alloc ?_ _)); refine blk_put (cs := #[.int .i64 ((rd_T25 l0 (ji12)).f0), .int .i64 ((rd_T25 l0 (ji12)).f1), .int .i64 ((rd_T25 l0 (ji12)).f2), .bool ((rd_T25 l0 (ji12)).f3), .bool ((rd_T25 l0 (ji12)).f4), .bool false, .bool false, .int .i64 0, .int .i64 0, .bool false, .int .i64 0]) ?_ 5 _ rfl; (with_reducible repeat (first | refine blk_drewN ?_ _ | refine blk_drew ?_ | refine blk_alloc ?_ _)); refine blk_put (cs := #[.int .i64 ((rd_T25 l0 (ji12)).f0), .int .i64 ((rd_T25 l0 (ji12)).f1), .int .i64 ((rd_T25 l0 (ji12)).f2), .bool ((rd_T25 l0 (ji12)).f3), .bool false, .bool false, .bool false, .int .i64 0, .int .i64 0, .bool false, .int .i64 0]) ?_ 4 _ rfl; (with_reducible repeat (first | refine blk_drewN ?_ _ | refine blk_drew ?_ | refine blk_alloc ?_ _)); refine blk_put (cs := #[.int .i64 ((rd_T25 l0 (ji12)).f0), .int .i64 ((rd_T25 l0 (ji12)).f1), .int .i64 ((rd_T25 l0 (ji12)).f2), .bool false, .bool false, .bool false, .bool false, .int .i64 0, .int .i64 0, .bool false, .int .i64 0]) ?_ 3 _ rfl; (with_reducible repeat (first | refine blk_drewN ?_ _ | refine blk_drew ?_ | refine blk_alloc ?_ _)); refine blk_put (cs := #[.int .i64 ((rd_T25 l0 (ji12)).f0), .int .i64 ((rd_T25 l0 (ji12)).f1), .int .i64 0, .bool false, .bool false, .bool false, .bool false, .int .i64 0, .int .i64 0, .bool false, .int .i64 0]) ?_ 2 _ rfl; (with_reducible repeat (first | refine blk_drewN ?_ _ | refine blk_drew ?_ | refine blk_alloc ?_ _)); refine blk_put (cs := #[.int .i64 ((rd_T25 l0 (ji12)).f0), .int .i64 0, .int .i64 0, .bool false, .bool false, .bool false, .bool false, .int .i64 0, .int .i64 0, .bool false, .int .i64 0]) ?_ 1 _ rfl; (with_reducible repeat (first | refine blk_drewN ?_ _ | refine blk_drew ?_ | refine blk_alloc ?_ _)); refine blk_put (cs := #[.int .i64 0, .int .i64 0, .int .i64 0, .bool false, .bool false, .bool false, .bool false, .int .i64 0, .int .i64 0, .bool false, .int .i64 0]) ?_ 0 _ rfl; (with_reducible repeat (first | refine blk_drewN ?_ _ | refine blk_drew ?_ | refine blk_alloc ?_ _)); exact BK150.out) hg (Kd.R_away HO_7.out (fun _ hk => hk.2))); have n1_ := Aside0.mk (hb); have n2_ := Aside0.mk (ho); clear BK150; clear HB; clear HO_7; have BK150 := n0_; have HB := n1_; have HO153 := n2_; clear n0_ n1_ n2_; clear ho hb hg hat)))
                                go_roundg k2
                                case measure => have := HJ5.out; have := HK2.out; omega
                                case rel => exact ⟨(y151), (wrap64 (x8_2 - 1)), (by first | rfl | (simp; done) | (simp [*]; done)), H', ⟨by have := HJ5.out; have := HK2.out; omega⟩, ⟨by (with_reducible repeat (first | apply Kd.R_alloc | apply Kd.R_drewN | apply Kd.R_drew)); exact Kd.R_mono HO153.out (fun _ hk => trivial)⟩, ⟨by repeat (first | (with_reducible first | exact HB.out | apply below_alloc | apply pw_below_drewN | apply below_drew1 | refine below_set ?_ GE150.out) | exact HB.out)⟩⟩
                              · rw [if_neg c27] at H
                                exact absurd H (by simp)
                    · rw [if_neg c14] at H
                      exact absurd H (by simp)
                  · rw [if_neg c13] at H
                    exact absurd H (by simp)
              · rw [if_neg c10] at H
                have c10b0 : decide (0 ≤ x8_2) = false := decide_eq_false c10
                clear c10
                replace H := Option.bind_eq_some_iff.mp H
                obtain ⟨t154, A310, H⟩ := H
                replace H : ((bounds_Next.f k2 t154 (wrap64 (a2))).bind fun bt157 => ((evenhandedlaw12_Rows.f k2 x7_2).bind fun t159 => ((bounds_Next.f k2 t159 (wrap64 (a2))).bind fun bt162 => ((evenhandedlaw12_Rows.f k2 l0).bind fun t164 => ((bounds_Lengths.f k2 t164 (wrap64 (a2))).bind fun t167 => ((evenhandedlaw12_Rows.f k2 x7_2).bind fun t170 => ((bounds_Lengths.f k2 t170 (wrap64 (a2))).bind fun t173 => (if bt157.1 = bt162.1 then (if (bt157.2 != bt162.2) = true then (evenhandedlaw16_BoundsOrders.j2 k2 t167 t173 true) else (evenhandedlaw16_BoundsOrders.j2 k2 t167 t173 ((t167.length : Int) != (t173.length : Int)))) else (evenhandedlaw16_BoundsOrders.j2 k2 t167 t173 true))))))))) = some r := H
                have A31 := Aside0.mk A310
                clear A310
                replace H := Option.bind_eq_some_iff.mp H
                obtain ⟨⟨t157, t158⟩, A320, H⟩ := H
                replace H : ((evenhandedlaw12_Rows.f k2 x7_2).bind fun t159 => ((bounds_Next.f k2 t159 (wrap64 (a2))).bind fun bt162 => ((evenhandedlaw12_Rows.f k2 l0).bind fun t164 => ((bounds_Lengths.f k2 t164 (wrap64 (a2))).bind fun t167 => ((evenhandedlaw12_Rows.f k2 x7_2).bind fun t170 => ((bounds_Lengths.f k2 t170 (wrap64 (a2))).bind fun t173 => (if t157 = bt162.1 then (if (t158 != bt162.2) = true then (evenhandedlaw16_BoundsOrders.j2 k2 t167 t173 true) else (evenhandedlaw16_BoundsOrders.j2 k2 t167 t173 ((t167.length : Int) != (t173.length : Int)))) else (evenhandedlaw16_BoundsOrders.j2 k2 t167 t173 true)))))))) = some r := H
                have A32 := Aside0.mk A320
                clear A320
                replace H := Option.bind_eq_some_iff.mp H
                obtain ⟨t159, A330, H⟩ := H
                replace H : ((bounds_Next.f k2 t159 (wrap64 (a2))).bind fun bt162 => ((evenhandedlaw12_Rows.f k2 l0).bind fun t164 => ((bounds_Lengths.f k2 t164 (wrap64 (a2))).bind fun t167 => ((evenhandedlaw12_Rows.f k2 x7_2).bind fun t170 => ((bounds_Lengths.f k2 t170 (wrap64 (a2))).bind fun t173 => (if t157 = bt162.1 then (if (t158 != bt162.2) = true then (evenhandedlaw16_BoundsOrders.j2 k2 t167 t173 true) else (evenhandedlaw16_BoundsOrders.j2 k2 t167 t173 ((t167.length : Int) != (t173.length : Int)))) else (evenhandedlaw16_BoundsOrders.j2 k2 t167 t173 true))))))) = some r := H
                have A33 := Aside0.mk A330
                clear A330
                replace H := Option.bind_eq_some_iff.mp H
                obtain ⟨⟨t162, t163⟩, A340, H⟩ := H
                replace H : ((evenhandedlaw12_Rows.f k2 l0).bind fun t164 => ((bounds_Lengths.f k2 t164 (wrap64 (a2))).bind fun t167 => ((evenhandedlaw12_Rows.f k2 x7_2).bind fun t170 => ((bounds_Lengths.f k2 t170 (wrap64 (a2))).bind fun t173 => (if t157 = t162 then (if (t158 != t163) = true then (evenhandedlaw16_BoundsOrders.j2 k2 t167 t173 true) else (evenhandedlaw16_BoundsOrders.j2 k2 t167 t173 ((t167.length : Int) != (t173.length : Int)))) else (evenhandedlaw16_BoundsOrders.j2 k2 t167 t173 true)))))) = some r := H
                have A34 := Aside0.mk A340
                clear A340
                replace H := Option.bind_eq_some_iff.mp H
                obtain ⟨t164, A350, H⟩ := H
                replace H : ((bounds_Lengths.f k2 t164 (wrap64 (a2))).bind fun t167 => ((evenhandedlaw12_Rows.f k2 x7_2).bind fun t170 => ((bounds_Lengths.f k2 t170 (wrap64 (a2))).bind fun t173 => (if t157 = t162 then (if (t158 != t163) = true then (evenhandedlaw16_BoundsOrders.j2 k2 t167 t173 true) else (evenhandedlaw16_BoundsOrders.j2 k2 t167 t173 ((t167.length : Int) != (t173.length : Int)))) else (evenhandedlaw16_BoundsOrders.j2 k2 t167 t173 true))))) = some r := H
                have A35 := Aside0.mk A350
                clear A350
                replace H := Option.bind_eq_some_iff.mp H
                obtain ⟨t167, A360, H⟩ := H
                replace H : ((evenhandedlaw12_Rows.f k2 x7_2).bind fun t170 => ((bounds_Lengths.f k2 t170 (wrap64 (a2))).bind fun t173 => (if t157 = t162 then (if (t158 != t163) = true then (evenhandedlaw16_BoundsOrders.j2 k2 t167 t173 true) else (evenhandedlaw16_BoundsOrders.j2 k2 t167 t173 ((t167.length : Int) != (t173.length : Int)))) else (evenhandedlaw16_BoundsOrders.j2 k2 t167 t173 true)))) = some r := H
                have A36 := Aside0.mk A360
                clear A360
                replace H := Option.bind_eq_some_iff.mp H
                obtain ⟨t170, A370, H⟩ := H
                replace H : ((bounds_Lengths.f k2 t170 (wrap64 (a2))).bind fun t173 => (if t157 = t162 then (if (t158 != t163) = true then (evenhandedlaw16_BoundsOrders.j2 k2 t167 t173 true) else (evenhandedlaw16_BoundsOrders.j2 k2 t167 t173 ((t167.length : Int) != (t173.length : Int)))) else (evenhandedlaw16_BoundsOrders.j2 k2 t167 t173 true))) = some r := H
                have A37 := Aside0.mk A370
                clear A370
                replace H := Option.bind_eq_some_iff.mp H
                obtain ⟨t173, A380, H⟩ := H
                replace H : (if t157 = t162 then (if (t158 != t163) = true then (evenhandedlaw16_BoundsOrders.j2 k2 t167 t173 true) else (evenhandedlaw16_BoundsOrders.j2 k2 t167 t173 ((t167.length : Int) != (t173.length : Int)))) else (evenhandedlaw16_BoundsOrders.j2 k2 t167 t173 true)) = some r := H
                have A38 := Aside0.mk A380
                clear A380
                have HC39 := Aside0.mk H
                clear H
                go_upto_region 16 with (first | (go_at_call 10; (fail_if_success (have hz_ := HO156)); (with_reducible refine (evenhandedlaw12_Rows.calls k2 _ _ l0 t154 _ ?side1 ?side2 A31.out).mono ?_); (case side1 => repeat (first | exact (Kd.C_below HR0.out HB.out) | (with_reducible refine Kd.C_alloc ?_ _) | (with_reducible refine Kd.C_drewN ?_ _) | (with_reducible refine Kd.C_drew ?_))); (case side2 => exact HC0.out); rintro e w40 ⟨v155, rfl, ho0, hb⟩; have n0_ := Aside0.mk (Kd.R_below (by (with_reducible repeat (first | apply Kd.R_alloc | apply Kd.R_drewN | apply Kd.R_drew)); exact HO_7.out) hb); have n1_ := Aside0.mk (Kd.R_lower ho0 (below_size (by repeat (first | (with_reducible first | exact HB.out | apply below_alloc | apply pw_below_drewN | apply below_drew1) | exact HB.out)))); have n2_ := Aside0.mk (below_step (by repeat (first | (with_reducible first | exact HB.out | apply below_alloc | apply pw_below_drewN | apply below_drew1) | exact HB.out)) hb); clear HO_7; clear HB; have HO_7 := n0_; have HO156 := n1_; have HB := n2_; clear n0_ n1_ n2_; (try clear hb); (try clear hb2); (try clear hk); (try clear hi); (try clear ho0); obtain ⟨Ao41, co41, eo41⟩ := Kd.R_slice HO156.out; subst eo41) | (go_at_call 9; (with_reducible refine (bounds_Next.calls k2 _ _ t154 (wrap64 (a2)) t157 t158 _ ?side1 ?side2 A32.out).mono ?_); (case side1 => repeat (first | exact (Kd.R_reads' HO156.out).2.2 | (with_reducible refine Kd.C_alloc ?_ _) | (with_reducible refine Kd.C_drewN ?_ _) | (with_reducible refine Kd.C_drew ?_))); (case side2 => exact (Kd.R_reads' HO156.out).2.1); rintro e w42 ⟨rfl, hb⟩; have n0_ := Aside0.mk (Kd.R_below (by (with_reducible repeat (first | apply Kd.R_alloc | apply Kd.R_drewN | apply Kd.R_drew)); exact HO_7.out) hb); have n1_ := Aside0.mk (Kd.R_below (by (with_reducible repeat (first | apply Kd.R_alloc | apply Kd.R_drewN | apply Kd.R_drew)); exact HO156.out) hb); have n2_ := Aside0.mk (below_step (by repeat (first | (with_reducible first | exact HB.out | apply below_alloc | apply pw_below_drewN | apply below_drew1) | exact HB.out)) hb); clear HO_7; clear HO156; clear HB; have HO_7 := n0_; have HO156 := n1_; have HB := n2_; clear n0_ n1_ n2_; (try clear hb); (try clear hb2); (try clear hk); (try clear hi); obtain ⟨Ao43, co43, eo43⟩ := Kd.R_slice HO_7.out; subst eo43) | (go_at_call 10; (fail_if_success (have hz_ := HO161)); (with_reducible refine (evenhandedlaw12_Rows.calls k2 _ _ x7_2 t159 _ ?side1 ?side2 A33.out).mono ?_); (case side1 => repeat (first | exact (Kd.R_reads' HO_7.out).2.2 | (with_reducible refine Kd.C_alloc ?_ _) | (with_reducible refine Kd.C_drewN ?_ _) | (with_reducible refine Kd.C_drew ?_))); (case side2 => exact (Kd.R_reads' HO_7.out).2.1); rintro e w44 ⟨v160, rfl, ho0, hb⟩; have n0_ := Aside0.mk (Kd.R_below (by (with_reducible repeat (first | apply Kd.R_alloc | apply Kd.R_drewN | apply Kd.R_drew)); exact HO_7.out) hb); have n1_ := Aside0.mk (Kd.R_elder' (by (with_reducible repeat (first | apply Kd.R_alloc | apply Kd.R_drewN | apply Kd.R_drew)); exact HO156.out) (Kd.R_base ho0) hb); have n2_ := Aside0.mk (Kd.R_lower (Kd.R_new' ho0 (Kd.R_lt (by (with_reducible repeat (first | apply Kd.R_alloc | apply Kd.R_drewN | apply Kd.R_drew)); exact HO156.out))) (below_size (by repeat (first | (with_reducible first | exact HB.out | apply below_alloc | apply pw_below_drewN | apply below_drew1) | exact HB.out)))); have n3_ := Aside0.mk (below_step (by repeat (first | (with_reducible first | exact HB.out | apply below_alloc | apply pw_below_drewN | apply below_drew1) | exact HB.out)) hb); clear HO_7; clear HO156; clear HB; have HO_7 := n0_; have HO156 := n1_; have HO161 := n2_; have HB := n3_; clear n0_ n1_ n2_ n3_; (try clear hb); (try clear hb2); (try clear hk); (try clear hi); (try clear ho0); obtain ⟨Ao45, co45, eo45⟩ := Kd.R_slice HO161.out; subst eo45) | (go_at_call 9; (with_reducible refine (bounds_Next.calls k2 _ _ t159 (wrap64 (a2)) t162 t163 _ ?side1 ?side2 A34.out).mono ?_); (case side1 => repeat (first | exact (Kd.R_reads' HO161.out).2.2 | (with_reducible refine Kd.C_alloc ?_ _) | (with_reducible refine Kd.C_drewN ?_ _) | (with_reducible refine Kd.C_drew ?_))); (case side2 => exact (Kd.R_reads' HO161.out).2.1); rintro e w46 ⟨rfl, hb⟩; have n0_ := Aside0.mk (Kd.R_below (by (with_reducible repeat (first | apply Kd.R_alloc | apply Kd.R_drewN | apply Kd.R_drew)); exact HO_7.out) hb); have n1_ := Aside0.mk (Kd.R_below (by (with_reducible repeat (first | apply Kd.R_alloc | apply Kd.R_drewN | apply Kd.R_drew)); exact HO156.out) hb); have n2_ := Aside0.mk (Kd.R_below (by (with_reducible repeat (first | apply Kd.R_alloc | apply Kd.R_drewN | apply Kd.R_drew)); exact HO161.out) hb); have n3_ := Aside0.mk (below_step (by repeat (first | (with_reducible first | exact HB.out | apply below_alloc | apply pw_below_drewN | apply below_drew1) | exact HB.out)) hb); clear HO_7; clear HO156; clear HO161; clear HB; have HO_7 := n0_; have HO156 := n1_; have HO161 := n2_; have HB := n3_; clear n0_ n1_ n2_ n3_; (try clear hb); (try clear hb2); (try clear hk); (try clear hi)) | (go_at_call 10; (fail_if_success (have hz_ := HO166)); (with_reducible refine (evenhandedlaw12_Rows.calls k2 _ _ l0 t164 _ ?side1 ?side2 A35.out).mono ?_); (case side1 => repeat (first | exact (Kd.C_below HR0.out HB.out) | (with_reducible refine Kd.C_alloc ?_ _) | (with_reducible refine Kd.C_drewN ?_ _) | (with_reducible refine Kd.C_drew ?_))); (case side2 => exact HC0.out); rintro e w47 ⟨v165, rfl, ho0, hb⟩; have n0_ := Aside0.mk (Kd.R_below (by (with_reducible repeat (first | apply Kd.R_alloc | apply Kd.R_drewN | apply Kd.R_drew)); exact HO_7.out) hb); have n1_ := Aside0.mk (Kd.R_elder' (by (with_reducible repeat (first | apply Kd.R_alloc | apply Kd.R_drewN | apply Kd.R_drew)); exact HO156.out) (Kd.R_base ho0) hb); have n2_ := Aside0.mk (Kd.R_elder' (by (with_reducible repeat (first | apply Kd.R_alloc | apply Kd.R_drewN | apply Kd.R_drew)); exact HO161.out) (Kd.R_base ho0) hb); have n3_ := Aside0.mk (Kd.R_lower (Kd.R_new' (Kd.R_new' ho0 (Kd.R_lt (by (with_reducible repeat (first | apply Kd.R_alloc | apply Kd.R_drewN | apply Kd.R_drew)); exact HO156.out))) (Kd.R_lt (by (with_reducible repeat (first | apply Kd.R_alloc | apply Kd.R_drewN | apply Kd.R_drew)); exact HO161.out))) (below_size (by repeat (first | (with_reducible first | exact HB.out | apply below_alloc | apply pw_below_drewN | apply below_drew1) | exact HB.out)))); have n4_ := Aside0.mk (below_step (by repeat (first | (with_reducible first | exact HB.out | apply below_alloc | apply pw_below_drewN | apply below_drew1) | exact HB.out)) hb); clear HO_7; clear HO156; clear HO161; clear HB; have HO_7 := n0_; have HO156 := n1_; have HO161 := n2_; have HO166 := n3_; have HB := n4_; clear n0_ n1_ n2_ n3_ n4_; (try clear hb); (try clear hb2); (try clear hk); (try clear hi); (try clear ho0); obtain ⟨Ao48, co48, eo48⟩ := Kd.R_slice HO166.out; subst eo48) | (go_at_call 12; (with_reducible refine (bounds_Lengths.calls k2 _ _ t164 (wrap64 (a2)) t167 _ ?side1 ?side2 A36.out).mono ?_); (case side1 => repeat (first | exact (Kd.R_reads' HO166.out).2.2 | (with_reducible refine Kd.C_alloc ?_ _) | (with_reducible refine Kd.C_drewN ?_ _) | (with_reducible refine Kd.C_drew ?_))); (case side2 => exact (Kd.R_reads' HO166.out).2.1); rintro e w49 ⟨v168, rfl, ho0, hb⟩; have n0_ := Aside0.mk (Kd.R_below (by (with_reducible repeat (first | apply Kd.R_alloc | apply Kd.R_drewN | apply Kd.R_drew)); exact HO_7.out) hb); have n1_ := Aside0.mk (Kd.R_below (by (with_reducible repeat (first | apply Kd.R_alloc | apply Kd.R_drewN | apply Kd.R_drew)); exact HO156.out) hb); have n2_ := Aside0.mk (Kd.R_below (by (with_reducible repeat (first | apply Kd.R_alloc | apply Kd.R_drewN | apply Kd.R_drew)); exact HO161.out) hb); have n3_ := Aside0.mk (Kd.R_below (by (with_reducible repeat (first | apply Kd.R_alloc | apply Kd.R_drewN | apply Kd.R_drew)); exact HO166.out) hb); have n4_ := Aside0.mk (Kd.R_lower ho0 (below_size (by repeat (first | (with_reducible first | exact HB.out | apply below_alloc | apply pw_below_drewN | apply below_drew1) | exact HB.out)))); have n5_ := Aside0.mk (below_step (by repeat (first | (with_reducible first | exact HB.out | apply below_alloc | apply pw_below_drewN | apply below_drew1) | exact HB.out)) hb); clear HO_7; clear HO156; clear HO161; clear HO166; clear HB; have HO_7 := n0_; have HO156 := n1_; have HO161 := n2_; have HO166 := n3_; have HO169 := n4_; have HB := n5_; clear n0_ n1_ n2_ n3_ n4_ n5_; (try clear hb); (try clear hb2); (try clear hk); (try clear hi); (try clear ho0)) | (go_at_call 10; (fail_if_success (have hz_ := HO172)); (with_reducible refine (evenhandedlaw12_Rows.calls k2 _ _ x7_2 t170 _ ?side1 ?side2 A37.out).mono ?_); (case side1 => repeat (first | exact (Kd.R_reads' HO_7.out).2.2 | (with_reducible refine Kd.C_alloc ?_ _) | (with_reducible refine Kd.C_drewN ?_ _) | (with_reducible refine Kd.C_drew ?_))); (case side2 => exact (Kd.R_reads' HO_7.out).2.1); rintro e w50 ⟨v171, rfl, ho0, hb⟩; have n0_ := Aside0.mk (Kd.R_below (by (with_reducible repeat (first | apply Kd.R_alloc | apply Kd.R_drewN | apply Kd.R_drew)); exact HO_7.out) hb); have n1_ := Aside0.mk (Kd.R_elder' (by (with_reducible repeat (first | apply Kd.R_alloc | apply Kd.R_drewN | apply Kd.R_drew)); exact HO156.out) (Kd.R_base ho0) hb); have n2_ := Aside0.mk (Kd.R_elder' (by (with_reducible repeat (first | apply Kd.R_alloc | apply Kd.R_drewN | apply Kd.R_drew)); exact HO161.out) (Kd.R_base ho0) hb); have n3_ := Aside0.mk (Kd.R_elder' (by (with_reducible repeat (first | apply Kd.R_alloc | apply Kd.R_drewN | apply Kd.R_drew)); exact HO166.out) (Kd.R_base ho0) hb); have n4_ := Aside0.mk (Kd.R_below (by (with_reducible repeat (first | apply Kd.R_alloc | apply Kd.R_drewN | apply Kd.R_drew)); exact HO169.out) hb); have n5_ := Aside0.mk (Kd.R_lower (Kd.R_new' (Kd.R_new' (Kd.R_new' ho0 (Kd.R_lt (by (with_reducible repeat (first | apply Kd.R_alloc | apply Kd.R_drewN | apply Kd.R_drew)); exact HO156.out))) (Kd.R_lt (by (with_reducible repeat (first | apply Kd.R_alloc | apply Kd.R_drewN | apply Kd.R_drew)); exact HO161.out))) (Kd.R_lt (by (with_reducible repeat (first | apply Kd.R_alloc | apply Kd.R_drewN | apply Kd.R_drew)); exact HO166.out))) (below_size (by repeat (first | (with_reducible first | exact HB.out | apply below_alloc | apply pw_below_drewN | apply below_drew1) | exact HB.out)))); have n6_ := Aside0.mk (below_step (by repeat (first | (with_reducible first | exact HB.out | apply below_alloc | apply pw_below_drewN | apply below_drew1) | exact HB.out)) hb); clear HO_7; clear HO156; clear HO161; clear HO166; clear HO169; clear HB; have HO_7 := n0_; have HO156 := n1_; have HO161 := n2_; have HO166 := n3_; have HO169 := n4_; have HO172 := n5_; have HB := n6_; clear n0_ n1_ n2_ n3_ n4_ n5_ n6_; (try clear hb); (try clear hb2); (try clear hk); (try clear hi); (try clear ho0); obtain ⟨Ao51, co51, eo51⟩ := Kd.R_slice HO172.out; subst eo51) | (go_at_call 12; (with_reducible refine (bounds_Lengths.calls k2 _ _ t170 (wrap64 (a2)) t173 _ ?side1 ?side2 A38.out).mono ?_); (case side1 => repeat (first | exact (Kd.R_reads' HO172.out).2.2 | (with_reducible refine Kd.C_alloc ?_ _) | (with_reducible refine Kd.C_drewN ?_ _) | (with_reducible refine Kd.C_drew ?_))); (case side2 => exact (Kd.R_reads' HO172.out).2.1); rintro e w52 ⟨v174, rfl, ho0, hb⟩; have n0_ := Aside0.mk (Kd.R_below (by (with_reducible repeat (first | apply Kd.R_alloc | apply Kd.R_drewN | apply Kd.R_drew)); exact HO_7.out) hb); have n1_ := Aside0.mk (Kd.R_below (by (with_reducible repeat (first | apply Kd.R_alloc | apply Kd.R_drewN | apply Kd.R_drew)); exact HO156.out) hb); have n2_ := Aside0.mk (Kd.R_below (by (with_reducible repeat (first | apply Kd.R_alloc | apply Kd.R_drewN | apply Kd.R_drew)); exact HO161.out) hb); have n3_ := Aside0.mk (Kd.R_below (by (with_reducible repeat (first | apply Kd.R_alloc | apply Kd.R_drewN | apply Kd.R_drew)); exact HO166.out) hb); have n4_ := Aside0.mk (Kd.R_elder' (by (with_reducible repeat (first | apply Kd.R_alloc | apply Kd.R_drewN | apply Kd.R_drew)); exact HO169.out) (Kd.R_base ho0) hb); have n5_ := Aside0.mk (Kd.R_below (by (with_reducible repeat (first | apply Kd.R_alloc | apply Kd.R_drewN | apply Kd.R_drew)); exact HO172.out) hb); have n6_ := Aside0.mk (Kd.R_lower (Kd.R_new' ho0 (Kd.R_lt (by (with_reducible repeat (first | apply Kd.R_alloc | apply Kd.R_drewN | apply Kd.R_drew)); exact HO169.out))) (below_size (by repeat (first | (with_reducible first | exact HB.out | apply below_alloc | apply pw_below_drewN | apply below_drew1) | exact HB.out)))); have n7_ := Aside0.mk (below_step (by repeat (first | (with_reducible first | exact HB.out | apply below_alloc | apply pw_below_drewN | apply below_drew1) | exact HB.out)) hb); clear HO_7; clear HO156; clear HO161; clear HO166; clear HO169; clear HO172; clear HB; have HO_7 := n0_; have HO156 := n1_; have HO161 := n2_; have HO166 := n3_; have HO169 := n4_; have HO172 := n5_; have HO175 := n6_; have HB := n7_; clear n0_ n1_ n2_ n3_ n4_ n5_ n6_ n7_; (try clear hb); (try clear hb2); (try clear hk); (try clear hi); (try clear ho0)))
                repeat (go_quiet (first | (go_at_call 10; (fail_if_success (have hz_ := HO156)); (with_reducible refine (evenhandedlaw12_Rows.calls k2 _ _ l0 t154 _ ?side1 ?side2 A31.out).mono ?_); (case side1 => repeat (first | exact (Kd.C_below HR0.out HB.out) | (with_reducible refine Kd.C_alloc ?_ _) | (with_reducible refine Kd.C_drewN ?_ _) | (with_reducible refine Kd.C_drew ?_))); (case side2 => exact HC0.out); rintro e w40 ⟨v155, rfl, ho0, hb⟩; have n0_ := Aside0.mk (Kd.R_below (by (with_reducible repeat (first | apply Kd.R_alloc | apply Kd.R_drewN | apply Kd.R_drew)); exact HO_7.out) hb); have n1_ := Aside0.mk (Kd.R_lower ho0 (below_size (by repeat (first | (with_reducible first | exact HB.out | apply below_alloc | apply pw_below_drewN | apply below_drew1) | exact HB.out)))); have n2_ := Aside0.mk (below_step (by repeat (first | (with_reducible first | exact HB.out | apply below_alloc | apply pw_below_drewN | apply below_drew1) | exact HB.out)) hb); clear HO_7; clear HB; have HO_7 := n0_; have HO156 := n1_; have HB := n2_; clear n0_ n1_ n2_; (try clear hb); (try clear hb2); (try clear hk); (try clear hi); (try clear ho0); obtain ⟨Ao41, co41, eo41⟩ := Kd.R_slice HO156.out; subst eo41) | (go_at_call 9; (with_reducible refine (bounds_Next.calls k2 _ _ t154 (wrap64 (a2)) t157 t158 _ ?side1 ?side2 A32.out).mono ?_); (case side1 => repeat (first | exact (Kd.R_reads' HO156.out).2.2 | (with_reducible refine Kd.C_alloc ?_ _) | (with_reducible refine Kd.C_drewN ?_ _) | (with_reducible refine Kd.C_drew ?_))); (case side2 => exact (Kd.R_reads' HO156.out).2.1); rintro e w42 ⟨rfl, hb⟩; have n0_ := Aside0.mk (Kd.R_below (by (with_reducible repeat (first | apply Kd.R_alloc | apply Kd.R_drewN | apply Kd.R_drew)); exact HO_7.out) hb); have n1_ := Aside0.mk (Kd.R_below (by (with_reducible repeat (first | apply Kd.R_alloc | apply Kd.R_drewN | apply Kd.R_drew)); exact HO156.out) hb); have n2_ := Aside0.mk (below_step (by repeat (first | (with_reducible first | exact HB.out | apply below_alloc | apply pw_below_drewN | apply below_drew1) | exact HB.out)) hb); clear HO_7; clear HO156; clear HB; have HO_7 := n0_; have HO156 := n1_; have HB := n2_; clear n0_ n1_ n2_; (try clear hb); (try clear hb2); (try clear hk); (try clear hi); obtain ⟨Ao43, co43, eo43⟩ := Kd.R_slice HO_7.out; subst eo43) | (go_at_call 10; (fail_if_success (have hz_ := HO161)); (with_reducible refine (evenhandedlaw12_Rows.calls k2 _ _ x7_2 t159 _ ?side1 ?side2 A33.out).mono ?_); (case side1 => repeat (first | exact (Kd.R_reads' HO_7.out).2.2 | (with_reducible refine Kd.C_alloc ?_ _) | (with_reducible refine Kd.C_drewN ?_ _) | (with_reducible refine Kd.C_drew ?_))); (case side2 => exact (Kd.R_reads' HO_7.out).2.1); rintro e w44 ⟨v160, rfl, ho0, hb⟩; have n0_ := Aside0.mk (Kd.R_below (by (with_reducible repeat (first | apply Kd.R_alloc | apply Kd.R_drewN | apply Kd.R_drew)); exact HO_7.out) hb); have n1_ := Aside0.mk (Kd.R_elder' (by (with_reducible repeat (first | apply Kd.R_alloc | apply Kd.R_drewN | apply Kd.R_drew)); exact HO156.out) (Kd.R_base ho0) hb); have n2_ := Aside0.mk (Kd.R_lower (Kd.R_new' ho0 (Kd.R_lt (by (with_reducible repeat (first | apply Kd.R_alloc | apply Kd.R_drewN | apply Kd.R_drew)); exact HO156.out))) (below_size (by repeat (first | (with_reducible first | exact HB.out | apply below_alloc | apply pw_below_drewN | apply below_drew1) | exact HB.out)))); have n3_ := Aside0.mk (below_step (by repeat (first | (with_reducible first | exact HB.out | apply below_alloc | apply pw_below_drewN | apply below_drew1) | exact HB.out)) hb); clear HO_7; clear HO156; clear HB; have HO_7 := n0_; have HO156 := n1_; have HO161 := n2_; have HB := n3_; clear n0_ n1_ n2_ n3_; (try clear hb); (try clear hb2); (try clear hk); (try clear hi); (try clear ho0); obtain ⟨Ao45, co45, eo45⟩ := Kd.R_slice HO161.out; subst eo45) | (go_at_call 9; (with_reducible refine (bounds_Next.calls k2 _ _ t159 (wrap64 (a2)) t162 t163 _ ?side1 ?side2 A34.out).mono ?_); (case side1 => repeat (first | exact (Kd.R_reads' HO161.out).2.2 | (with_reducible refine Kd.C_alloc ?_ _) | (with_reducible refine Kd.C_drewN ?_ _) | (with_reducible refine Kd.C_drew ?_))); (case side2 => exact (Kd.R_reads' HO161.out).2.1); rintro e w46 ⟨rfl, hb⟩; have n0_ := Aside0.mk (Kd.R_below (by (with_reducible repeat (first | apply Kd.R_alloc | apply Kd.R_drewN | apply Kd.R_drew)); exact HO_7.out) hb); have n1_ := Aside0.mk (Kd.R_below (by (with_reducible repeat (first | apply Kd.R_alloc | apply Kd.R_drewN | apply Kd.R_drew)); exact HO156.out) hb); have n2_ := Aside0.mk (Kd.R_below (by (with_reducible repeat (first | apply Kd.R_alloc | apply Kd.R_drewN | apply Kd.R_drew)); exact HO161.out) hb); have n3_ := Aside0.mk (below_step (by repeat (first | (with_reducible first | exact HB.out | apply below_alloc | apply pw_below_drewN | apply below_drew1) | exact HB.out)) hb); clear HO_7; clear HO156; clear HO161; clear HB; have HO_7 := n0_; have HO156 := n1_; have HO161 := n2_; have HB := n3_; clear n0_ n1_ n2_ n3_; (try clear hb); (try clear hb2); (try clear hk); (try clear hi)) | (go_at_call 10; (fail_if_success (have hz_ := HO166)); (with_reducible refine (evenhandedlaw12_Rows.calls k2 _ _ l0 t164 _ ?side1 ?side2 A35.out).mono ?_); (case side1 => repeat (first | exact (Kd.C_below HR0.out HB.out) | (with_reducible refine Kd.C_alloc ?_ _) | (with_reducible refine Kd.C_drewN ?_ _) | (with_reducible refine Kd.C_drew ?_))); (case side2 => exact HC0.out); rintro e w47 ⟨v165, rfl, ho0, hb⟩; have n0_ := Aside0.mk (Kd.R_below (by (with_reducible repeat (first | apply Kd.R_alloc | apply Kd.R_drewN | apply Kd.R_drew)); exact HO_7.out) hb); have n1_ := Aside0.mk (Kd.R_elder' (by (with_reducible repeat (first | apply Kd.R_alloc | apply Kd.R_drewN | apply Kd.R_drew)); exact HO156.out) (Kd.R_base ho0) hb); have n2_ := Aside0.mk (Kd.R_elder' (by (with_reducible repeat (first | apply Kd.R_alloc | apply Kd.R_drewN | apply Kd.R_drew)); exact HO161.out) (Kd.R_base ho0) hb); have n3_ := Aside0.mk (Kd.R_lower (Kd.R_new' (Kd.R_new' ho0 (Kd.R_lt (by (with_reducible repeat (first | apply Kd.R_alloc | apply Kd.R_drewN | apply Kd.R_drew)); exact HO156.out))) (Kd.R_lt (by (with_reducible repeat (first | apply Kd.R_alloc | apply Kd.R_drewN | apply Kd.R_drew)); exact HO161.out))) (below_size (by repeat (first | (with_reducible first | exact HB.out | apply below_alloc | apply pw_below_drewN | apply below_drew1) | exact HB.out)))); have n4_ := Aside0.mk (below_step (by repeat (first | (with_reducible first | exact HB.out | apply below_alloc | apply pw_below_drewN | apply below_drew1) | exact HB.out)) hb); clear HO_7; clear HO156; clear HO161; clear HB; have HO_7 := n0_; have HO156 := n1_; have HO161 := n2_; have HO166 := n3_; have HB := n4_; clear n0_ n1_ n2_ n3_ n4_; (try clear hb); (try clear hb2); (try clear hk); (try clear hi); (try clear ho0); obtain ⟨Ao48, co48, eo48⟩ := Kd.R_slice HO166.out; subst eo48) | (go_at_call 12; (with_reducible refine (bounds_Lengths.calls k2 _ _ t164 (wrap64 (a2)) t167 _ ?side1 ?side2 A36.out).mono ?_); (case side1 => repeat (first | exact (Kd.R_reads' HO166.out).2.2 | (with_reducible refine Kd.C_alloc ?_ _) | (with_reducible refine Kd.C_drewN ?_ _) | (with_reducible refine Kd.C_drew ?_))); (case side2 => exact (Kd.R_reads' HO166.out).2.1); rintro e w49 ⟨v168, rfl, ho0, hb⟩; have n0_ := Aside0.mk (Kd.R_below (by (with_reducible repeat (first | apply Kd.R_alloc | apply Kd.R_drewN | apply Kd.R_drew)); exact HO_7.out) hb); have n1_ := Aside0.mk (Kd.R_below (by (with_reducible repeat (first | apply Kd.R_alloc | apply Kd.R_drewN | apply Kd.R_drew)); exact HO156.out) hb); have n2_ := Aside0.mk (Kd.R_below (by (with_reducible repeat (first | apply Kd.R_alloc | apply Kd.R_drewN | apply Kd.R_drew)); exact HO161.out) hb); have n3_ := Aside0.mk (Kd.R_below (by (with_reducible repeat (first | apply Kd.R_alloc | apply Kd.R_drewN | apply Kd.R_drew)); exact HO166.out) hb); have n4_ := Aside0.mk (Kd.R_lower ho0 (below_size (by repeat (first | (with_reducible first | exact HB.out | apply below_alloc | apply pw_below_drewN | apply below_drew1) | exact HB.out)))); have n5_ := Aside0.mk (below_step (by repeat (first | (with_reducible first | exact HB.out | apply below_alloc | apply pw_below_drewN | apply below_drew1) | exact HB.out)) hb); clear HO_7; clear HO156; clear HO161; clear HO166; clear HB; have HO_7 := n0_; have HO156 := n1_; have HO161 := n2_; have HO166 := n3_; have HO169 := n4_; have HB := n5_; clear n0_ n1_ n2_ n3_ n4_ n5_; (try clear hb); (try clear hb2); (try clear hk); (try clear hi); (try clear ho0)) | (go_at_call 10; (fail_if_success (have hz_ := HO172)); (with_reducible refine (evenhandedlaw12_Rows.calls k2 _ _ x7_2 t170 _ ?side1 ?side2 A37.out).mono ?_); (case side1 => repeat (first | exact (Kd.R_reads' HO_7.out).2.2 | (with_reducible refine Kd.C_alloc ?_ _) | (with_reducible refine Kd.C_drewN ?_ _) | (with_reducible refine Kd.C_drew ?_))); (case side2 => exact (Kd.R_reads' HO_7.out).2.1); rintro e w50 ⟨v171, rfl, ho0, hb⟩; have n0_ := Aside0.mk (Kd.R_below (by (with_reducible repeat (first | apply Kd.R_alloc | apply Kd.R_drewN | apply Kd.R_drew)); exact HO_7.out) hb); have n1_ := Aside0.mk (Kd.R_elder' (by (with_reducible repeat (first | apply Kd.R_alloc | apply Kd.R_drewN | apply Kd.R_drew)); exact HO156.out) (Kd.R_base ho0) hb); have n2_ := Aside0.mk (Kd.R_elder' (by (with_reducible repeat (first | apply Kd.R_alloc | apply Kd.R_drewN | apply Kd.R_drew)); exact HO161.out) (Kd.R_base ho0) hb); have n3_ := Aside0.mk (Kd.R_elder' (by (with_reducible repeat (first | apply Kd.R_alloc | apply Kd.R_drewN | apply Kd.R_drew)); exact HO166.out) (Kd.R_base ho0) hb); have n4_ := Aside0.mk (Kd.R_below (by (with_reducible repeat (first | apply Kd.R_alloc | apply Kd.R_drewN | apply Kd.R_drew)); exact HO169.out) hb); have n5_ := Aside0.mk (Kd.R_lower (Kd.R_new' (Kd.R_new' (Kd.R_new' ho0 (Kd.R_lt (by (with_reducible repeat (first | apply Kd.R_alloc | apply Kd.R_drewN | apply Kd.R_drew)); exact HO156.out))) (Kd.R_lt (by (with_reducible repeat (first | apply Kd.R_alloc | apply Kd.R_drewN | apply Kd.R_drew)); exact HO161.out))) (Kd.R_lt (by (with_reducible repeat (first | apply Kd.R_alloc | apply Kd.R_drewN | apply Kd.R_drew)); exact HO166.out))) (below_size (by repeat (first | (with_reducible first | exact HB.out | apply below_alloc | apply pw_below_drewN | apply below_drew1) | exact HB.out)))); have n6_ := Aside0.mk (below_step (by repeat (first | (with_reducible first | exact HB.out | apply below_alloc | apply pw_below_drewN | apply below_drew1) | exact HB.out)) hb); clear HO_7; clear HO156; clear HO161; clear HO166; clear HO169; clear HB; have HO_7 := n0_; have HO156 := n1_; have HO161 := n2_; have HO166 := n3_; have HO169 := n4_; have HO172 := n5_; have HB := n6_; clear n0_ n1_ n2_ n3_ n4_ n5_ n6_; (try clear hb); (try clear hb2); (try clear hk); (try clear hi); (try clear ho0); obtain ⟨Ao51, co51, eo51⟩ := Kd.R_slice HO172.out; subst eo51) | (go_at_call 12; (with_reducible refine (bounds_Lengths.calls k2 _ _ t170 (wrap64 (a2)) t173 _ ?side1 ?side2 A38.out).mono ?_); (case side1 => repeat (first | exact (Kd.R_reads' HO172.out).2.2 | (with_reducible refine Kd.C_alloc ?_ _) | (with_reducible refine Kd.C_drewN ?_ _) | (with_reducible refine Kd.C_drew ?_))); (case side2 => exact (Kd.R_reads' HO172.out).2.1); rintro e w52 ⟨v174, rfl, ho0, hb⟩; have n0_ := Aside0.mk (Kd.R_below (by (with_reducible repeat (first | apply Kd.R_alloc | apply Kd.R_drewN | apply Kd.R_drew)); exact HO_7.out) hb); have n1_ := Aside0.mk (Kd.R_below (by (with_reducible repeat (first | apply Kd.R_alloc | apply Kd.R_drewN | apply Kd.R_drew)); exact HO156.out) hb); have n2_ := Aside0.mk (Kd.R_below (by (with_reducible repeat (first | apply Kd.R_alloc | apply Kd.R_drewN | apply Kd.R_drew)); exact HO161.out) hb); have n3_ := Aside0.mk (Kd.R_below (by (with_reducible repeat (first | apply Kd.R_alloc | apply Kd.R_drewN | apply Kd.R_drew)); exact HO166.out) hb); have n4_ := Aside0.mk (Kd.R_elder' (by (with_reducible repeat (first | apply Kd.R_alloc | apply Kd.R_drewN | apply Kd.R_drew)); exact HO169.out) (Kd.R_base ho0) hb); have n5_ := Aside0.mk (Kd.R_below (by (with_reducible repeat (first | apply Kd.R_alloc | apply Kd.R_drewN | apply Kd.R_drew)); exact HO172.out) hb); have n6_ := Aside0.mk (Kd.R_lower (Kd.R_new' ho0 (Kd.R_lt (by (with_reducible repeat (first | apply Kd.R_alloc | apply Kd.R_drewN | apply Kd.R_drew)); exact HO169.out))) (below_size (by repeat (first | (with_reducible first | exact HB.out | apply below_alloc | apply pw_below_drewN | apply below_drew1) | exact HB.out)))); have n7_ := Aside0.mk (below_step (by repeat (first | (with_reducible first | exact HB.out | apply below_alloc | apply pw_below_drewN | apply below_drew1) | exact HB.out)) hb); clear HO_7; clear HO156; clear HO161; clear HO166; clear HO169; clear HO172; clear HB; have HO_7 := n0_; have HO156 := n1_; have HO161 := n2_; have HO166 := n3_; have HO169 := n4_; have HO172 := n5_; have HO175 := n6_; have HB := n7_; clear n0_ n1_ n2_ n3_ n4_ n5_ n6_ n7_; (try clear hb); (try clear hb2); (try clear hk); (try clear hi); (try clear ho0))); go_upto_region 16 with (first | (go_at_call 10; (fail_if_success (have hz_ := HO156)); (with_reducible refine (evenhandedlaw12_Rows.calls k2 _ _ l0 t154 _ ?side1 ?side2 A31.out).mono ?_); (case side1 => repeat (first | exact (Kd.C_below HR0.out HB.out) | (with_reducible refine Kd.C_alloc ?_ _) | (with_reducible refine Kd.C_drewN ?_ _) | (with_reducible refine Kd.C_drew ?_))); (case side2 => exact HC0.out); rintro e w40 ⟨v155, rfl, ho0, hb⟩; have n0_ := Aside0.mk (Kd.R_below (by (with_reducible repeat (first | apply Kd.R_alloc | apply Kd.R_drewN | apply Kd.R_drew)); exact HO_7.out) hb); have n1_ := Aside0.mk (Kd.R_lower ho0 (below_size (by repeat (first | (with_reducible first | exact HB.out | apply below_alloc | apply pw_below_drewN | apply below_drew1) | exact HB.out)))); have n2_ := Aside0.mk (below_step (by repeat (first | (with_reducible first | exact HB.out | apply below_alloc | apply pw_below_drewN | apply below_drew1) | exact HB.out)) hb); clear HO_7; clear HB; have HO_7 := n0_; have HO156 := n1_; have HB := n2_; clear n0_ n1_ n2_; (try clear hb); (try clear hb2); (try clear hk); (try clear hi); (try clear ho0); obtain ⟨Ao41, co41, eo41⟩ := Kd.R_slice HO156.out; subst eo41) | (go_at_call 9; (with_reducible refine (bounds_Next.calls k2 _ _ t154 (wrap64 (a2)) t157 t158 _ ?side1 ?side2 A32.out).mono ?_); (case side1 => repeat (first | exact (Kd.R_reads' HO156.out).2.2 | (with_reducible refine Kd.C_alloc ?_ _) | (with_reducible refine Kd.C_drewN ?_ _) | (with_reducible refine Kd.C_drew ?_))); (case side2 => exact (Kd.R_reads' HO156.out).2.1); rintro e w42 ⟨rfl, hb⟩; have n0_ := Aside0.mk (Kd.R_below (by (with_reducible repeat (first | apply Kd.R_alloc | apply Kd.R_drewN | apply Kd.R_drew)); exact HO_7.out) hb); have n1_ := Aside0.mk (Kd.R_below (by (with_reducible repeat (first | apply Kd.R_alloc | apply Kd.R_drewN | apply Kd.R_drew)); exact HO156.out) hb); have n2_ := Aside0.mk (below_step (by repeat (first | (with_reducible first | exact HB.out | apply below_alloc | apply pw_below_drewN | apply below_drew1) | exact HB.out)) hb); clear HO_7; clear HO156; clear HB; have HO_7 := n0_; have HO156 := n1_; have HB := n2_; clear n0_ n1_ n2_; (try clear hb); (try clear hb2); (try clear hk); (try clear hi); obtain ⟨Ao43, co43, eo43⟩ := Kd.R_slice HO_7.out; subst eo43) | (go_at_call 10; (fail_if_success (have hz_ := HO161)); (with_reducible refine (evenhandedlaw12_Rows.calls k2 _ _ x7_2 t159 _ ?side1 ?side2 A33.out).mono ?_); (case side1 => repeat (first | exact (Kd.R_reads' HO_7.out).2.2 | (with_reducible refine Kd.C_alloc ?_ _) | (with_reducible refine Kd.C_drewN ?_ _) | (with_reducible refine Kd.C_drew ?_))); (case side2 => exact (Kd.R_reads' HO_7.out).2.1); rintro e w44 ⟨v160, rfl, ho0, hb⟩; have n0_ := Aside0.mk (Kd.R_below (by (with_reducible repeat (first | apply Kd.R_alloc | apply Kd.R_drewN | apply Kd.R_drew)); exact HO_7.out) hb); have n1_ := Aside0.mk (Kd.R_elder' (by (with_reducible repeat (first | apply Kd.R_alloc | apply Kd.R_drewN | apply Kd.R_drew)); exact HO156.out) (Kd.R_base ho0) hb); have n2_ := Aside0.mk (Kd.R_lower (Kd.R_new' ho0 (Kd.R_lt (by (with_reducible repeat (first | apply Kd.R_alloc | apply Kd.R_drewN | apply Kd.R_drew)); exact HO156.out))) (below_size (by repeat (first | (with_reducible first | exact HB.out | apply below_alloc | apply pw_below_drewN | apply below_drew1) | exact HB.out)))); have n3_ := Aside0.mk (below_step (by repeat (first | (with_reducible first | exact HB.out | apply below_alloc | apply pw_below_drewN | apply below_drew1) | exact HB.out)) hb); clear HO_7; clear HO156; clear HB; have HO_7 := n0_; have HO156 := n1_; have HO161 := n2_; have HB := n3_; clear n0_ n1_ n2_ n3_; (try clear hb); (try clear hb2); (try clear hk); (try clear hi); (try clear ho0); obtain ⟨Ao45, co45, eo45⟩ := Kd.R_slice HO161.out; subst eo45) | (go_at_call 9; (with_reducible refine (bounds_Next.calls k2 _ _ t159 (wrap64 (a2)) t162 t163 _ ?side1 ?side2 A34.out).mono ?_); (case side1 => repeat (first | exact (Kd.R_reads' HO161.out).2.2 | (with_reducible refine Kd.C_alloc ?_ _) | (with_reducible refine Kd.C_drewN ?_ _) | (with_reducible refine Kd.C_drew ?_))); (case side2 => exact (Kd.R_reads' HO161.out).2.1); rintro e w46 ⟨rfl, hb⟩; have n0_ := Aside0.mk (Kd.R_below (by (with_reducible repeat (first | apply Kd.R_alloc | apply Kd.R_drewN | apply Kd.R_drew)); exact HO_7.out) hb); have n1_ := Aside0.mk (Kd.R_below (by (with_reducible repeat (first | apply Kd.R_alloc | apply Kd.R_drewN | apply Kd.R_drew)); exact HO156.out) hb); have n2_ := Aside0.mk (Kd.R_below (by (with_reducible repeat (first | apply Kd.R_alloc | apply Kd.R_drewN | apply Kd.R_drew)); exact HO161.out) hb); have n3_ := Aside0.mk (below_step (by repeat (first | (with_reducible first | exact HB.out | apply below_alloc | apply pw_below_drewN | apply below_drew1) | exact HB.out)) hb); clear HO_7; clear HO156; clear HO161; clear HB; have HO_7 := n0_; have HO156 := n1_; have HO161 := n2_; have HB := n3_; clear n0_ n1_ n2_ n3_; (try clear hb); (try clear hb2); (try clear hk); (try clear hi)) | (go_at_call 10; (fail_if_success (have hz_ := HO166)); (with_reducible refine (evenhandedlaw12_Rows.calls k2 _ _ l0 t164 _ ?side1 ?side2 A35.out).mono ?_); (case side1 => repeat (first | exact (Kd.C_below HR0.out HB.out) | (with_reducible refine Kd.C_alloc ?_ _) | (with_reducible refine Kd.C_drewN ?_ _) | (with_reducible refine Kd.C_drew ?_))); (case side2 => exact HC0.out); rintro e w47 ⟨v165, rfl, ho0, hb⟩; have n0_ := Aside0.mk (Kd.R_below (by (with_reducible repeat (first | apply Kd.R_alloc | apply Kd.R_drewN | apply Kd.R_drew)); exact HO_7.out) hb); have n1_ := Aside0.mk (Kd.R_elder' (by (with_reducible repeat (first | apply Kd.R_alloc | apply Kd.R_drewN | apply Kd.R_drew)); exact HO156.out) (Kd.R_base ho0) hb); have n2_ := Aside0.mk (Kd.R_elder' (by (with_reducible repeat (first | apply Kd.R_alloc | apply Kd.R_drewN | apply Kd.R_drew)); exact HO161.out) (Kd.R_base ho0) hb); have n3_ := Aside0.mk (Kd.R_lower (Kd.R_new' (Kd.R_new' ho0 (Kd.R_lt (by (with_reducible repeat (first | apply Kd.R_alloc | apply Kd.R_drewN | apply Kd.R_drew)); exact HO156.out))) (Kd.R_lt (by (with_reducible repeat (first | apply Kd.R_alloc | apply Kd.R_drewN | apply Kd.R_drew)); exact HO161.out))) (below_size (by repeat (first | (with_reducible first | exact HB.out | apply below_alloc | apply pw_below_drewN | apply below_drew1) | exact HB.out)))); have n4_ := Aside0.mk (below_step (by repeat (first | (with_reducible first | exact HB.out | apply below_alloc | apply pw_below_drewN | apply below_drew1) | exact HB.out)) hb); clear HO_7; clear HO156; clear HO161; clear HB; have HO_7 := n0_; have HO156 := n1_; have HO161 := n2_; have HO166 := n3_; have HB := n4_; clear n0_ n1_ n2_ n3_ n4_; (try clear hb); (try clear hb2); (try clear hk); (try clear hi); (try clear ho0); obtain ⟨Ao48, co48, eo48⟩ := Kd.R_slice HO166.out; subst eo48) | (go_at_call 12; (with_reducible refine (bounds_Lengths.calls k2 _ _ t164 (wrap64 (a2)) t167 _ ?side1 ?side2 A36.out).mono ?_); (case side1 => repeat (first | exact (Kd.R_reads' HO166.out).2.2 | (with_reducible refine Kd.C_alloc ?_ _) | (with_reducible refine Kd.C_drewN ?_ _) | (with_reducible refine Kd.C_drew ?_))); (case side2 => exact (Kd.R_reads' HO166.out).2.1); rintro e w49 ⟨v168, rfl, ho0, hb⟩; have n0_ := Aside0.mk (Kd.R_below (by (with_reducible repeat (first | apply Kd.R_alloc | apply Kd.R_drewN | apply Kd.R_drew)); exact HO_7.out) hb); have n1_ := Aside0.mk (Kd.R_below (by (with_reducible repeat (first | apply Kd.R_alloc | apply Kd.R_drewN | apply Kd.R_drew)); exact HO156.out) hb); have n2_ := Aside0.mk (Kd.R_below (by (with_reducible repeat (first | apply Kd.R_alloc | apply Kd.R_drewN | apply Kd.R_drew)); exact HO161.out) hb); have n3_ := Aside0.mk (Kd.R_below (by (with_reducible repeat (first | apply Kd.R_alloc | apply Kd.R_drewN | apply Kd.R_drew)); exact HO166.out) hb); have n4_ := Aside0.mk (Kd.R_lower ho0 (below_size (by repeat (first | (with_reducible first | exact HB.out | apply below_alloc | apply pw_below_drewN | apply below_drew1) | exact HB.out)))); have n5_ := Aside0.mk (below_step (by repeat (first | (with_reducible first | exact HB.out | apply below_alloc | apply pw_below_drewN | apply below_drew1) | exact HB.out)) hb); clear HO_7; clear HO156; clear HO161; clear HO166; clear HB; have HO_7 := n0_; have HO156 := n1_; have HO161 := n2_; have HO166 := n3_; have HO169 := n4_; have HB := n5_; clear n0_ n1_ n2_ n3_ n4_ n5_; (try clear hb); (try clear hb2); (try clear hk); (try clear hi); (try clear ho0)) | (go_at_call 10; (fail_if_success (have hz_ := HO172)); (with_reducible refine (evenhandedlaw12_Rows.calls k2 _ _ x7_2 t170 _ ?side1 ?side2 A37.out).mono ?_); (case side1 => repeat (first | exact (Kd.R_reads' HO_7.out).2.2 | (with_reducible refine Kd.C_alloc ?_ _) | (with_reducible refine Kd.C_drewN ?_ _) | (with_reducible refine Kd.C_drew ?_))); (case side2 => exact (Kd.R_reads' HO_7.out).2.1); rintro e w50 ⟨v171, rfl, ho0, hb⟩; have n0_ := Aside0.mk (Kd.R_below (by (with_reducible repeat (first | apply Kd.R_alloc | apply Kd.R_drewN | apply Kd.R_drew)); exact HO_7.out) hb); have n1_ := Aside0.mk (Kd.R_elder' (by (with_reducible repeat (first | apply Kd.R_alloc | apply Kd.R_drewN | apply Kd.R_drew)); exact HO156.out) (Kd.R_base ho0) hb); have n2_ := Aside0.mk (Kd.R_elder' (by (with_reducible repeat (first | apply Kd.R_alloc | apply Kd.R_drewN | apply Kd.R_drew)); exact HO161.out) (Kd.R_base ho0) hb); have n3_ := Aside0.mk (Kd.R_elder' (by (with_reducible repeat (first | apply Kd.R_alloc | apply Kd.R_drewN | apply Kd.R_drew)); exact HO166.out) (Kd.R_base ho0) hb); have n4_ := Aside0.mk (Kd.R_below (by (with_reducible repeat (first | apply Kd.R_alloc | apply Kd.R_drewN | apply Kd.R_drew)); exact HO169.out) hb); have n5_ := Aside0.mk (Kd.R_lower (Kd.R_new' (Kd.R_new' (Kd.R_new' ho0 (Kd.R_lt (by (with_reducible repeat (first | apply Kd.R_alloc | apply Kd.R_drewN | apply Kd.R_drew)); exact HO156.out))) (Kd.R_lt (by (with_reducible repeat (first | apply Kd.R_alloc | apply Kd.R_drewN | apply Kd.R_drew)); exact HO161.out))) (Kd.R_lt (by (with_reducible repeat (first | apply Kd.R_alloc | apply Kd.R_drewN | apply Kd.R_drew)); exact HO166.out))) (below_size (by repeat (first | (with_reducible first | exact HB.out | apply below_alloc | apply pw_below_drewN | apply below_drew1) | exact HB.out)))); have n6_ := Aside0.mk (below_step (by repeat (first | (with_reducible first | exact HB.out | apply below_alloc | apply pw_below_drewN | apply below_drew1) | exact HB.out)) hb); clear HO_7; clear HO156; clear HO161; clear HO166; clear HO169; clear HB; have HO_7 := n0_; have HO156 := n1_; have HO161 := n2_; have HO166 := n3_; have HO169 := n4_; have HO172 := n5_; have HB := n6_; clear n0_ n1_ n2_ n3_ n4_ n5_ n6_; (try clear hb); (try clear hb2); (try clear hk); (try clear hi); (try clear ho0); obtain ⟨Ao51, co51, eo51⟩ := Kd.R_slice HO172.out; subst eo51) | (go_at_call 12; (with_reducible refine (bounds_Lengths.calls k2 _ _ t170 (wrap64 (a2)) t173 _ ?side1 ?side2 A38.out).mono ?_); (case side1 => repeat (first | exact (Kd.R_reads' HO172.out).2.2 | (with_reducible refine Kd.C_alloc ?_ _) | (with_reducible refine Kd.C_drewN ?_ _) | (with_reducible refine Kd.C_drew ?_))); (case side2 => exact (Kd.R_reads' HO172.out).2.1); rintro e w52 ⟨v174, rfl, ho0, hb⟩; have n0_ := Aside0.mk (Kd.R_below (by (with_reducible repeat (first | apply Kd.R_alloc | apply Kd.R_drewN | apply Kd.R_drew)); exact HO_7.out) hb); have n1_ := Aside0.mk (Kd.R_below (by (with_reducible repeat (first | apply Kd.R_alloc | apply Kd.R_drewN | apply Kd.R_drew)); exact HO156.out) hb); have n2_ := Aside0.mk (Kd.R_below (by (with_reducible repeat (first | apply Kd.R_alloc | apply Kd.R_drewN | apply Kd.R_drew)); exact HO161.out) hb); have n3_ := Aside0.mk (Kd.R_below (by (with_reducible repeat (first | apply Kd.R_alloc | apply Kd.R_drewN | apply Kd.R_drew)); exact HO166.out) hb); have n4_ := Aside0.mk (Kd.R_elder' (by (with_reducible repeat (first | apply Kd.R_alloc | apply Kd.R_drewN | apply Kd.R_drew)); exact HO169.out) (Kd.R_base ho0) hb); have n5_ := Aside0.mk (Kd.R_below (by (with_reducible repeat (first | apply Kd.R_alloc | apply Kd.R_drewN | apply Kd.R_drew)); exact HO172.out) hb); have n6_ := Aside0.mk (Kd.R_lower (Kd.R_new' ho0 (Kd.R_lt (by (with_reducible repeat (first | apply Kd.R_alloc | apply Kd.R_drewN | apply Kd.R_drew)); exact HO169.out))) (below_size (by repeat (first | (with_reducible first | exact HB.out | apply below_alloc | apply pw_below_drewN | apply below_drew1) | exact HB.out)))); have n7_ := Aside0.mk (below_step (by repeat (first | (with_reducible first | exact HB.out | apply below_alloc | apply pw_below_drewN | apply below_drew1) | exact HB.out)) hb); clear HO_7; clear HO156; clear HO161; clear HO166; clear HO169; clear HO172; clear HB; have HO_7 := n0_; have HO156 := n1_; have HO161 := n2_; have HO166 := n3_; have HO169 := n4_; have HO172 := n5_; have HO175 := n6_; have HB := n7_; clear n0_ n1_ n2_ n3_ n4_ n5_ n6_ n7_; (try clear hb); (try clear hb2); (try clear hk); (try clear hi); (try clear ho0))))
                (try simp only [Act.put, List.setIfInBounds_toArray, List.set_cons_zero, List.set_cons_succ])
                go_cut [106] (fun v106 wc => ∃ (kq : Nat) (x106_38 : Bool), v106 = .bool x106_38 ∧ Aside0 (evenhandedlaw16_BoundsOrders.j2 kq t167 t173 x106_38 = some r) ∧ Aside0 (kq ≤ k2) ∧ Aside0 (Kd.R (Kd.int .i64) 3 wc w.heap.size (fun k_ => some k_ ≠ (v174 : Value).ownBlock) v168 t167) ∧ Aside0 (Kd.R (Kd.int .i64) 3 wc w.heap.size (fun k_ => some k_ ≠ (v168 : Value).ownBlock) v174 t173) ∧ Aside0 (Below w.heap.size w wc))
                case first =>
                  have H := HC39.out
                  clear HC39
                  by_cases c53 : t157 = t162
                  · rw [if_pos c53] at H
                    have c53b0 : (t157 == t162) = true := beq_iff_eq.mpr c53
                    have c53b1 : (t157 != t162) = false := bne_eq_false_iff_eq.mpr c53
                    clear c53
                    (first | rw [c53b0] | (simp only [i64_w, i32_w]; rw [c53b0]) | skip)
                    by_cases c54 : (t158 != t163) = true
                    · rw [if_pos c54] at H
                      have c54b0 : (t158 != t163) = true := c54
                      (try (have c54b1 : decide (t158 = t163) = false := by simpa using c54))
                      (try (have c54b2 : (t158 == t163) = false := by simpa using c54))
                      (try (have c54b3 : ¬ (t158 = t163) := by simpa using c54))
                      clear c54
                      have H' := Aside0.mk H
                      clear H
                      go_wp2
                      repeat (go_quiet (fail); try go_wp2)
                      go_meet
                      case rel => exact ⟨_, (true), (by first | rfl | (simp; done) | (simp [*]; done)), H', ⟨by have := HJ5.out; have := HK2.out; first | omega | exact Nat.le_refl _⟩, ⟨by (with_reducible repeat (first | apply Kd.R_alloc | apply Kd.R_drewN | apply Kd.R_drew)); exact Kd.R_mono HO169.out (fun _ hk => hk.2)⟩, ⟨by (with_reducible repeat (first | apply Kd.R_alloc | apply Kd.R_drewN | apply Kd.R_drew)); exact Kd.R_mono HO175.out (fun _ hk => hk.2)⟩, ⟨by repeat (first | (with_reducible first | exact HB.out | apply below_alloc | apply pw_below_drewN | apply below_drew1) | exact HB.out)⟩⟩
                    · rw [if_neg c54] at H
                      have c54b0 : (t158 != t163) = false := by simpa using c54
                      (try (have c54b1 : decide (t158 = t163) = true := by simpa using c54))
                      (try (have c54b2 : (t158 == t163) = true := by simpa using c54))
                      clear c54
                      have H' := Aside0.mk H
                      clear H
                      obtain ⟨Ao55, co55, eo55⟩ := Kd.R_slice HO169.out
                      subst eo55
                      obtain ⟨Ao56, co56, eo56⟩ := Kd.R_slice HO175.out
                      subst eo56
                      go_wp2
                      repeat (go_quiet (fail); try go_wp2)
                      go_meet
                      case rel => exact ⟨_, (((t167.length : Int) != (t173.length : Int))), (by first | rfl | (simp; done) | (simp [*]; done)), H', ⟨by have := HJ5.out; have := HK2.out; first | omega | exact Nat.le_refl _⟩, ⟨by (with_reducible repeat (first | apply Kd.R_alloc | apply Kd.R_drewN | apply Kd.R_drew)); exact Kd.R_mono HO169.out (fun _ hk => hk.2)⟩, ⟨by (with_reducible repeat (first | apply Kd.R_alloc | apply Kd.R_drewN | apply Kd.R_drew)); exact Kd.R_mono HO175.out (fun _ hk => hk.2)⟩, ⟨by repeat (first | (with_reducible first | exact HB.out | apply below_alloc | apply pw_below_drewN | apply below_drew1) | exact HB.out)⟩⟩
                  · rw [if_neg c53] at H
                    have c53b0 : (t157 == t162) = false := beq_eq_false_iff_ne.mpr c53
                    have c53b1 : (t157 != t162) = true := bne_iff_ne.mpr c53
                    (first | rw [c53b0] | (simp only [i64_w, i32_w]; rw [c53b0]) | skip)
                    have H' := Aside0.mk H
                    clear H
                    go_wp2
                    repeat (go_quiet (fail); try go_wp2)
                    go_meet
                    case rel => exact ⟨_, (true), (by first | rfl | (simp; done) | (simp [*]; done)), H', ⟨by have := HJ5.out; have := HK2.out; first | omega | exact Nat.le_refl _⟩, ⟨by (with_reducible repeat (first | apply Kd.R_alloc | apply Kd.R_drewN | apply Kd.R_drew)); exact Kd.R_mono HO169.out (fun _ hk => hk.2)⟩, ⟨by (with_reducible repeat (first | apply Kd.R_alloc | apply Kd.R_drewN | apply Kd.R_drew)); exact Kd.R_mono HO175.out (fun _ hk => hk.2)⟩, ⟨by repeat (first | (with_reducible first | exact HB.out | apply below_alloc | apply pw_below_drewN | apply below_drew1) | exact HB.out)⟩⟩
                case rest =>
                  clear HC39
                  try clear c1
                  try clear p1
                  try clear q1
                  try clear hx1
                  try clear c2
                  try clear p2
                  try clear c5
                  try clear p6
                  try clear c7
                  try clear c8
                  try clear c8b0
                  try clear c8b1
                  try clear c8b2
                  try clear c9
                  try clear c10
                  try clear c10b0
                  try clear c11
                  try clear c11b0
                  try clear c11b1
                  try clear c11b2
                  try clear c13
                  try clear c13b0
                  try clear c14
                  try clear c14b0
                  try clear p14
                  try clear q14
                  try clear hx14
                  try clear c15
                  try clear c15b0
                  try clear c18
                  try clear c18b0
                  try clear c21
                  try clear c21b0
                  try clear c24
                  try clear c24b0
                  try clear c27
                  try clear c53
                  try clear c53b0
                  try clear c53b1
                  try clear c54
                  try clear c54b0
                  try clear c54b1
                  try clear c54b2
                  try clear hcz17_0
                  try clear hcz17_1
                  try clear hcz17_10
                  try clear hcz17_2
                  try clear hcz17_3
                  try clear hcz17_4
                  try clear hcz17_5
                  try clear hcz17_6
                  try clear hcz17_7
                  try clear hcz17_8
                  try clear hcz17_9
                  try clear hcz20_0
                  try clear hcz20_1
                  try clear hcz20_10
                  try clear hcz20_2
                  try clear hcz20_3
                  try clear hcz20_4
                  try clear hcz20_5
                  try clear hcz20_6
                  try clear hcz20_7
                  try clear hcz20_8
                  try clear hcz20_9
                  try clear hcz23_0
                  try clear hcz23_1
                  try clear hcz23_10
                  try clear hcz23_2
                  try clear hcz23_3
                  try clear hcz23_4
                  try clear hcz23_5
                  try clear hcz23_6
                  try clear hcz23_7
                  try clear hcz23_8
                  try clear hcz23_9
                  try clear hcz26_0
                  try clear hcz26_1
                  try clear hcz26_10
                  try clear hcz26_2
                  try clear hcz26_3
                  try clear hcz26_4
                  try clear hcz26_5
                  try clear hcz26_6
                  try clear hcz26_7
                  try clear hcz26_8
                  try clear hcz26_9
                  try clear hcz29_0
                  try clear hcz29_1
                  try clear hcz29_10
                  try clear hcz29_2
                  try clear hcz29_3
                  try clear hcz29_4
                  try clear hcz29_5
                  try clear hcz29_6
                  try clear hcz29_7
                  try clear hcz29_8
                  try clear hcz29_9
                  try clear hfz17_0
                  try clear hfz17_1
                  try clear hfz17_10
                  try clear hfz17_2
                  try clear hfz17_3
                  try clear hfz17_4
                  try clear hfz17_5
                  try clear hfz17_6
                  try clear hfz17_7
                  try clear hfz17_8
                  try clear hfz17_9
                  try clear hfz20_0
                  try clear hfz20_1
                  try clear hfz20_10
                  try clear hfz20_2
                  try clear hfz20_3
                  try clear hfz20_4
                  try clear hfz20_5
                  try clear hfz20_6
                  try clear hfz20_7
                  try clear hfz20_8
                  try clear hfz20_9
                  try clear hfz23_0
                  try clear hfz23_1
                  try clear hfz23_10
                  try clear hfz23_2
                  try clear hfz23_3
                  try clear hfz23_4
                  try clear hfz23_5
                  try clear hfz23_6
                  try clear hfz23_7
                  try clear hfz23_8
                  try clear hfz23_9
                  try clear hfz26_0
                  try clear hfz26_1
                  try clear hfz26_10
                  try clear hfz26_2
                  try clear hfz26_3
                  try clear hfz26_4
                  try clear hfz26_5
                  try clear hfz26_6
                  try clear hfz26_7
                  try clear hfz26_8
                  try clear hfz26_9
                  try clear hfz29_0
                  try clear hfz29_1
                  try clear hfz29_10
                  try clear hfz29_2
                  try clear hfz29_3
                  try clear hfz29_4
                  try clear hfz29_5
                  try clear hfz29_6
                  try clear hfz29_7
                  try clear hfz29_8
                  try clear hfz29_9
                  try clear hx149_0
                  try clear hx149_1
                  try clear hx149_10
                  try clear hx149_2
                  try clear hx149_3
                  try clear hx149_4
                  try clear hx149_5
                  try clear hx149_6
                  try clear hx149_7
                  try clear hx149_8
                  try clear hx149_9
                  try clear p149
                  try clear p2
                  try clear p6
                  try clear q149
                  obtain ⟨kq, x106_38, rfl, HA, HJ38, HO_14, HO_15, HB⟩ := hcut
                  cases kq with
                  | zero => exact absurd HA.out (by simp [evenhandedlaw16_BoundsOrders.j2])
                  | succ kj38 =>
                    have H := HA.out
                    clear HA
                    simp only [evenhandedlaw16_BoundsOrders.j2] at H
                    by_cases c57 : x106_38 = true
                    · subst c57
                      have H1 : (some false) = some r := by rw [if_pos rfl] at H; exact H
                      clear H
                      have H := H1
                      clear H1
                      obtain rfl := Option.some.inj H
                      go_wp2
                      repeat (go_quiet (fail); try go_wp2)
                      go_ret
                      exact ⟨by first | rfl | (simp [errW_none, errW_some] <;> rfl) | (simp [*, errW_none, errW_some] <;> rfl), by repeat (first | (with_reducible first | exact HB.out | apply below_alloc | apply pw_below_drewN | apply below_drew1) | exact HB.out)⟩
                    · replace c57 := Bool.eq_false_iff.mpr c57
                      subst c57
                      have H1 : (evenhandedlaw16_BoundsOrders.l1 kj38 t167 t173 0) = some r := by rw [if_neg (show ¬ (false = true) by decide)] at H; exact H
                      clear H
                      have H := H1
                      clear H1
                      have H' := Aside0.mk H
                      clear H
                      go_wp2
                      repeat (go_quiet (fail); try go_wp2)
                      go_loopg [16] kj38 (fun kq v16 w' => ∃ (x16_4 : Int), v16 = .int .i64 x16_4 ∧ Aside0 (evenhandedlaw16_BoundsOrders.l1 kq t167 t173 x16_4 = some r) ∧ Aside0 (kq ≤ kj38) ∧ Aside0 (Kd.R (Kd.int .i64) 3 w' w.heap.size (fun k_ => some k_ ≠ (v174 : Value).ownBlock) v168 t167) ∧ Aside0 (Kd.R (Kd.int .i64) 3 w' w.heap.size (fun k_ => some k_ ≠ (v168 : Value).ownBlock) v174 t173) ∧ Aside0 (Below w.heap.size w w'))
                      case atStart => exact ⟨(0), (by first | rfl | (simp; done) | (simp [*]; done)), H', ⟨Nat.le_refl _⟩, ⟨by (with_reducible repeat (first | apply Kd.R_alloc | apply Kd.R_drewN | apply Kd.R_drew)); exact HO_14.out⟩, ⟨by (with_reducible repeat (first | apply Kd.R_alloc | apply Kd.R_drewN | apply Kd.R_drew)); exact HO_15.out⟩, ⟨by repeat (first | (with_reducible first | exact HB.out | apply below_alloc | apply pw_below_drewN | apply below_drew1) | exact HB.out)⟩⟩
                      case round =>
                        clear H'
                        try clear c1
                        try clear p1
                        try clear q1
                        try clear hx1
                        try clear c2
                        try clear p2
                        try clear c5
                        try clear p6
                        try clear c7
                        try clear c8
                        try clear c8b0
                        try clear c8b1
                        try clear c8b2
                        try clear c9
                        try clear c10
                        try clear c10b0
                        try clear c11
                        try clear c11b0
                        try clear c11b1
                        try clear c11b2
                        try clear c13
                        try clear c13b0
                        try clear c14
                        try clear c14b0
                        try clear p14
                        try clear q14
                        try clear hx14
                        try clear c15
                        try clear c15b0
                        try clear c18
                        try clear c18b0
                        try clear c21
                        try clear c21b0
                        try clear c24
                        try clear c24b0
                        try clear c27
                        try clear c53
                        try clear c53b0
                        try clear c53b1
                        try clear c54
                        try clear c54b0
                        try clear c54b1
                        try clear c54b2
                        try clear c57
                        try clear hcz17_0
                        try clear hcz17_1
                        try clear hcz17_10
                        try clear hcz17_2
                        try clear hcz17_3
                        try clear hcz17_4
                        try clear hcz17_5
                        try clear hcz17_6
                        try clear hcz17_7
                        try clear hcz17_8
                        try clear hcz17_9
                        try clear hcz20_0
                        try clear hcz20_1
                        try clear hcz20_10
                        try clear hcz20_2
                        try clear hcz20_3
                        try clear hcz20_4
                        try clear hcz20_5
                        try clear hcz20_6
                        try clear hcz20_7
                        try clear hcz20_8
                        try clear hcz20_9
                        try clear hcz23_0
                        try clear hcz23_1
                        try clear hcz23_10
                        try clear hcz23_2
                        try clear hcz23_3
                        try clear hcz23_4
                        try clear hcz23_5
                        try clear hcz23_6
                        try clear hcz23_7
                        try clear hcz23_8
                        try clear hcz23_9
                        try clear hcz26_0
                        try clear hcz26_1
                        try clear hcz26_10
                        try clear hcz26_2
                        try clear hcz26_3
                        try clear hcz26_4
                        try clear hcz26_5
                        try clear hcz26_6
                        try clear hcz26_7
                        try clear hcz26_8
                        try clear hcz26_9
                        try clear hcz29_0
                        try clear hcz29_1
                        try clear hcz29_10
                        try clear hcz29_2
                        try clear hcz29_3
                        try clear hcz29_4
                        try clear hcz29_5
                        try clear hcz29_6
                        try clear hcz29_7
                        try clear hcz29_8
                        try clear hcz29_9
                        try clear hfz17_0
                        try clear hfz17_1
                        try clear hfz17_10
                        try clear hfz17_2
                        try clear hfz17_3
                        try clear hfz17_4
                        try clear hfz17_5
                        try clear hfz17_6
                        try clear hfz17_7
                        try clear hfz17_8
                        try clear hfz17_9
                        try clear hfz20_0
                        try clear hfz20_1
                        try clear hfz20_10
                        try clear hfz20_2
                        try clear hfz20_3
                        try clear hfz20_4
                        try clear hfz20_5
                        try clear hfz20_6
                        try clear hfz20_7
                        try clear hfz20_8
                        try clear hfz20_9
                        try clear hfz23_0
                        try clear hfz23_1
                        try clear hfz23_10
                        try clear hfz23_2
                        try clear hfz23_3
                        try clear hfz23_4
                        try clear hfz23_5
                        try clear hfz23_6
                        try clear hfz23_7
                        try clear hfz23_8
                        try clear hfz23_9
                        try clear hfz26_0
                        try clear hfz26_1
                        try clear hfz26_10
                        try clear hfz26_2
                        try clear hfz26_3
                        try clear hfz26_4
                        try clear hfz26_5
                        try clear hfz26_6
                        try clear hfz26_7
                        try clear hfz26_8
                        try clear hfz26_9
                        try clear hfz29_0
                        try clear hfz29_1
                        try clear hfz29_10
                        try clear hfz29_2
                        try clear hfz29_3
                        try clear hfz29_4
                        try clear hfz29_5
                        try clear hfz29_6
                        try clear hfz29_7
                        try clear hfz29_8
                        try clear hfz29_9
                        try clear hx149_0
                        try clear hx149_1
                        try clear hx149_10
                        try clear hx149_2
                        try clear hx149_3
                        try clear hx149_4
                        try clear hx149_5
                        try clear hx149_6
                        try clear hx149_7
                        try clear hx149_8
                        try clear hx149_9
                        try clear p1
                        try clear p14
                        try clear p149
                        try clear p2
                        try clear p6
                        try clear q1
                        try clear q14
                        try clear q149
                        obtain ⟨x16_4, rfl, HA, HK4, HO_14, HO_15, HB⟩ := hrel
                        cases gk with
                        | zero => exact absurd HA.out (by simp [evenhandedlaw16_BoundsOrders.l1])
                        | succ k4 =>
                          have H := HA.out
                          clear HA
                          simp only [evenhandedlaw16_BoundsOrders.l1] at H
                          by_cases c58 : x16_4 < (t167.length : Int)
                          · rw [if_pos c58] at H
                            have c58b0 : decide (x16_4 < (t167.length : Int)) = true := decide_eq_true c58
                            clear c58
                            by_cases c59 : 0 ≤ x16_4
                            · rw [if_pos c59] at H
                              have c59b0 : decide (0 ≤ x16_4) = true := decide_eq_true c59
                              clear c59
                              by_cases c60 : x16_4 < (t173.length : Int)
                              · rw [if_pos c60] at H
                                have c60b0 : decide (x16_4 < (t173.length : Int)) = true := decide_eq_true c60
                                clear c60
                                by_cases c61 : (rd t167 x16_4) = (rd t173 x16_4)
                                · rw [if_pos c61] at H
                                  have c61b0 : ((rd t167 x16_4) == (rd t173 x16_4)) = true := beq_iff_eq.mpr c61
                                  have c61b1 : ((rd t167 x16_4) != (rd t173 x16_4)) = false := bne_eq_false_iff_eq.mpr c61
                                  clear c61
                                  have H' := Aside0.mk H
                                  clear H
                                  obtain ⟨Ao62, co62, eo62⟩ := Kd.R_slice HO_14.out
                                  subst eo62
                                  have p176 : 0 ≤ (x16_4 : Int) := of_decide_eq_true (by first | (with_reducible assumption) | assumption)
                                  have q176 : x16_4 < (t167.length : Int) := of_decide_eq_true (by first | (with_reducible assumption) | assumption)
                                  obtain ⟨ad176, e176, hx176_0⟩ := Kd.at_int (Kd.R_reads' HO_14.out).2.2 x16_4 p176 q176
                                  cases e176
                                  replace p176 := eq_true p176
                                  replace q176 := eq_true q176
                                  obtain ⟨Ao63, co63, eo63⟩ := Kd.R_slice HO_15.out
                                  subst eo63
                                  have p177 : 0 ≤ (x16_4 : Int) := of_decide_eq_true (by first | (with_reducible assumption) | assumption)
                                  have q177 : x16_4 < (t173.length : Int) := of_decide_eq_true (by first | (with_reducible assumption) | assumption)
                                  obtain ⟨ad177, e177, hx177_0⟩ := Kd.at_int (Kd.R_reads' HO_15.out).2.2 x16_4 p177 q177
                                  cases e177
                                  replace p177 := eq_true p177
                                  replace q177 := eq_true q177
                                  go_wp2
                                  repeat (go_quiet (fail); try go_wp2)
                                  go_roundg k4
                                  case measure => have := HJ5.out; have := HK2.out; have := HJ38.out; have := HK4.out; omega
                                  case rel => exact ⟨(wrap64 (x16_4 + 1)), (by first | rfl | (simp; done) | (simp [*]; done)), H', ⟨by have := HJ5.out; have := HK2.out; have := HJ38.out; have := HK4.out; omega⟩, ⟨by (with_reducible repeat (first | apply Kd.R_alloc | apply Kd.R_drewN | apply Kd.R_drew)); exact HO_14.out⟩, ⟨by (with_reducible repeat (first | apply Kd.R_alloc | apply Kd.R_drewN | apply Kd.R_drew)); exact HO_15.out⟩, ⟨by repeat (first | (with_reducible first | exact HB.out | apply below_alloc | apply pw_below_drewN | apply below_drew1) | exact HB.out)⟩⟩
                                · rw [if_neg c61] at H
                                  have c61b0 : ((rd t167 x16_4) == (rd t173 x16_4)) = false := beq_eq_false_iff_ne.mpr c61
                                  have c61b1 : ((rd t167 x16_4) != (rd t173 x16_4)) = true := bne_iff_ne.mpr c61
                                  obtain rfl := Option.some.inj H
                                  obtain ⟨Ao64, co64, eo64⟩ := Kd.R_slice HO_14.out
                                  subst eo64
                                  have p176 : 0 ≤ (x16_4 : Int) := of_decide_eq_true (by first | (with_reducible assumption) | assumption)
                                  have q176 : x16_4 < (t167.length : Int) := of_decide_eq_true (by first | (with_reducible assumption) | assumption)
                                  obtain ⟨ad176, e176, hx176_0⟩ := Kd.at_int (Kd.R_reads' HO_14.out).2.2 x16_4 p176 q176
                                  cases e176
                                  replace p176 := eq_true p176
                                  replace q176 := eq_true q176
                                  obtain ⟨Ao65, co65, eo65⟩ := Kd.R_slice HO_15.out
                                  subst eo65
                                  have p177 : 0 ≤ (x16_4 : Int) := of_decide_eq_true (by first | (with_reducible assumption) | assumption)
                                  have q177 : x16_4 < (t173.length : Int) := of_decide_eq_true (by first | (with_reducible assumption) | assumption)
                                  obtain ⟨ad177, e177, hx177_0⟩ := Kd.at_int (Kd.R_reads' HO_15.out).2.2 x16_4 p177 q177
                                  cases e177
                                  replace p177 := eq_true p177
                                  replace q177 := eq_true q177
                                  go_wp2
                                  repeat (go_quiet (fail); try go_wp2)
                                  go_ret
                                  exact ⟨by first | rfl | (simp [errW_none, errW_some] <;> rfl) | (simp [*, errW_none, errW_some] <;> rfl), by repeat (first | (with_reducible first | exact HB.out | apply below_alloc | apply pw_below_drewN | apply below_drew1) | exact HB.out)⟩
                              · rw [if_neg c60] at H
                                exact absurd H (by simp)
                            · rw [if_neg c59] at H
                              exact absurd H (by simp)
                          · rw [if_neg c58] at H
                            have c58b0 : decide (x16_4 < (t167.length : Int)) = false := decide_eq_false c58
                            clear c58
                            obtain rfl := Option.some.inj H
                            obtain ⟨Ao66, co66, eo66⟩ := Kd.R_slice HO_14.out
                            subst eo66
                            go_wp2
                            repeat (go_quiet (fail); try go_wp2)
                            go_ret
                            exact ⟨by first | rfl | (simp [errW_none, errW_some] <;> rfl) | (simp [*, errW_none, errW_some] <;> rfl), by repeat (first | (with_reducible first | exact HB.out | apply below_alloc | apply pw_below_drewN | apply below_drew1) | exact HB.out)⟩
  · replace c5 := Bool.eq_false_iff.mpr c5
    subst c5
    have H1 : (some false) = some r := by rw [if_neg (show ¬ (false = true) by decide)] at H; exact H
    clear H
    have H := H1
    clear H1
    obtain rfl := Option.some.inj H
    go_enter Try.func7, Try.ntmps7
    go_wp2_with (first | (go_at_call 8; (with_reducible refine (evenhandedlaw16_awake.calls k  false _ A4.out).mono ?_); rintro e w67 ⟨rfl, hb⟩; have n0_ := Aside0.mk (below_step (by repeat (first | (with_reducible first | exact HB.out | apply below_alloc | apply pw_below_drewN | apply below_drew1) | exact HB.out)) hb); clear HB; have HB := n0_; clear n0_; (try clear hb); (try clear hb2); (try clear hk); (try clear hi)))
    repeat (go_quiet (first | (go_at_call 8; (with_reducible refine (evenhandedlaw16_awake.calls k  false _ A4.out).mono ?_); rintro e w67 ⟨rfl, hb⟩; have n0_ := Aside0.mk (below_step (by repeat (first | (with_reducible first | exact HB.out | apply below_alloc | apply pw_below_drewN | apply below_drew1) | exact HB.out)) hb); clear HB; have HB := n0_; clear n0_; (try clear hb); (try clear hb2); (try clear hk); (try clear hi))); try go_wp2_with (first | (go_at_call 8; (with_reducible refine (evenhandedlaw16_awake.calls k  false _ A4.out).mono ?_); rintro e w67 ⟨rfl, hb⟩; have n0_ := Aside0.mk (below_step (by repeat (first | (with_reducible first | exact HB.out | apply below_alloc | apply pw_below_drewN | apply below_drew1) | exact HB.out)) hb); clear HB; have HB := n0_; clear n0_; (try clear hb); (try clear hb2); (try clear hk); (try clear hi))))
    go_ret
    exact ⟨by first | rfl | (simp [errW_none, errW_some] <;> rfl) | (simp [*, errW_none, errW_some] <;> rfl), by repeat (first | (with_reducible first | exact HB.out | apply below_alloc | apply pw_below_drewN | apply below_drew1) | exact HB.out)⟩

end Go.Proofs.Ytiljdmlganploaa.PBoundsOrders
