/- The machine's side of the law, written by the kit's print program for the functions that it takes. -/
import Derived.Test.YtiljdmlganploaaPBoundsMorex0
import Derived.Test.YtiljdmlganploaaPBoundsMorex1
namespace Go.Proofs.Ytiljdmlganploaa.PBoundsMore
open Go.RowKit Go.Proofs.YtiljdmlganploaaW.PrintWords Go.Proofs.YtiljdmlganploaaW.PrintLast Go.Proofs.YtiljdmlganploaaW.PrintMore
attribute [local go_sem] max2_int min2_int max_two min_two max_three min_three max_four min_four   -- for this text's walks alone
set_option linter.unusedVariables false
set_option linter.unusedSimpArgs false

/-! ### evenhandedlaw16_BoundsMore: function 6 -/
mutual
def evenhandedlaw16_BoundsMore.j0 : Nat → List (S25) → Int → Bool → Int → Int → Int → Bool → Bool → Bool → Bool → Int → Int → Bool → Int → Option (Bool)
  | 0, _, _, _, _, _, _, _, _, _, _, _, _, _, _ => none
  | k + 1, x0, x2, x37, x149000, x149001, x149002, x149003, x149004, x149005, x149006, x149007, x149008, x149009, x149010 => if x37 = true then (some true) else (evenhandedlaw16_BoundsMore.l0 k x0 x2 0 x149000 x149001 x149002 x149003 x149004 x149005 x149006 x149007 x149008 x149009 x149010)
def evenhandedlaw16_BoundsMore.l0 : Nat → List (S25) → Int → Int → Int → Int → Int → Bool → Bool → Bool → Bool → Int → Int → Bool → Int → Option (Bool)
  | 0, _, _, _, _, _, _, _, _, _, _, _, _, _, _ => none
  | k + 1, x0, x2, x7, x149000, x149001, x149002, x149003, x149004, x149005, x149006, x149007, x149008, x149009, x149010 => if x7 < (x0.length : Int) then (if 0 ≤ x7 then (if ((rd_T25 x0 x7).f7) < (-1048576) then (some true) else (if ((rd_T25 x0 x7).f7) > 1048576 then (some true) else (if ((rd_T25 x0 x7).f2) > 1048576 then (some true) else (if ((rd_T25 x0 x7).f2) < (-1048576) then (some true) else (evenhandedlaw16_BoundsMore.l0 k x0 x2 (wrap64 (x7 + 1)) x149000 x149001 x149002 x149003 x149004 x149005 x149006 x149007 x149008 x149009 x149010))))) else (none)) else ((evenhandedlaw12_Rows.f k x0).bind fun t154 => ((bounds_Next.f k t154 (wrap64 (x2))).bind fun bt157 => ((some (([] : List (S25)) : List (S25))).bind fun y159 => (if y159.length + x0.length < 2199023255552 then ((some (y159 ++ x0 : List (S25))).bind fun y162 => ((some (([(⟨x149000, x149001, x149002, x149003, x149004, x149005, x149006, x149007, x149008, x149009, x149010⟩ : S25)] : List (S25)) : List (S25))).bind fun y165 => (if y162.length + y165.length < 2199023255552 then ((evenhandedlaw12_Rows.f k (y162 ++ y165)).bind fun t171 => ((bounds_Next.f k t171 (wrap64 (x2))).bind fun bt174 => (if x149006 = true then (if (wrap64 (x149007 + x149002)) ≤ (wrap64 (x2)) then (if bt157.1 = bt174.1 then (some (bt157.2 == bt174.2)) else (some false)) else (if bt174.2 = true then (if bt174.1 = (mn (wrap64 (x149007 + x149002)) bt174.1) then (if bt157.2 = true then (some (bt174.1 == (mn bt157.1 (wrap64 (x149007 + x149002))))) else (if bt174.1 = (wrap64 (x149007 + x149002)) then (some true) else (some false))) else (some false)) else (some false))) else (if bt157.1 = bt174.1 then (some (bt157.2 == bt174.2)) else (some false))))) else (none)))) else (none)))))
end
def evenhandedlaw16_BoundsMore.f (k : Nat) (l0 : List (S25)) (a1_0 : Int) (a1_1 : Int) (a1_2 : Int) (a1_3 : Bool) (a1_4 : Bool) (a1_5 : Bool) (a1_6 : Bool) (a1_7 : Int) (a1_8 : Int) (a1_9 : Bool) (a1_10 : Int) (a2 : Int) : Option (Bool) := (evenhandedlaw16_awake.f k).bind fun t149 => (if t149 = true then (if (l0.length : Int) > 60 then (evenhandedlaw16_BoundsMore.j0 k l0 a2 true a1_0 a1_1 a1_2 a1_3 a1_4 a1_5 a1_6 a1_7 a1_8 a1_9 a1_10) else (if a1_7 < (-1048576) then (evenhandedlaw16_BoundsMore.j0 k l0 a2 true a1_0 a1_1 a1_2 a1_3 a1_4 a1_5 a1_6 a1_7 a1_8 a1_9 a1_10) else (if a1_7 > 1048576 then (evenhandedlaw16_BoundsMore.j0 k l0 a2 true a1_0 a1_1 a1_2 a1_3 a1_4 a1_5 a1_6 a1_7 a1_8 a1_9 a1_10) else (if a1_2 < (-1048576) then (evenhandedlaw16_BoundsMore.j0 k l0 a2 true a1_0 a1_1 a1_2 a1_3 a1_4 a1_5 a1_6 a1_7 a1_8 a1_9 a1_10) else (evenhandedlaw16_BoundsMore.j0 k l0 a2 (decide (a1_2 > 1048576)) a1_0 a1_1 a1_2 a1_3 a1_4 a1_5 a1_6 a1_7 a1_8 a1_9 a1_10))))) else (some false))
theorem evenhandedlaw16_BoundsMore.mono_l : ∀ k, (∀ y0 y1 y2 y3 y4 y5 y6 y7 y8 y9 y10 y11 y12 y13, LeO (evenhandedlaw16_BoundsMore.j0 k y0 y1 y2 y3 y4 y5 y6 y7 y8 y9 y10 y11 y12 y13) (evenhandedlaw16_BoundsMore.j0 (k + 1) y0 y1 y2 y3 y4 y5 y6 y7 y8 y9 y10 y11 y12 y13)) ∧ (∀ y0 y1 y2 y3 y4 y5 y6 y7 y8 y9 y10 y11 y12 y13, LeO (evenhandedlaw16_BoundsMore.l0 k y0 y1 y2 y3 y4 y5 y6 y7 y8 y9 y10 y11 y12 y13) (evenhandedlaw16_BoundsMore.l0 (k + 1) y0 y1 y2 y3 y4 y5 y6 y7 y8 y9 y10 y11 y12 y13))
  | 0 => ⟨fun _ _ _ _ _ _ _ _ _ _ _ _ _ _ r h => by simp [evenhandedlaw16_BoundsMore.j0] at h, fun _ _ _ _ _ _ _ _ _ _ _ _ _ _ r h => by simp [evenhandedlaw16_BoundsMore.l0] at h⟩
  | k + 1 => by
    obtain ⟨ih0, ih1⟩ := evenhandedlaw16_BoundsMore.mono_l k
    refine ⟨?_, ?_⟩
    · intro y0 y1 y2 y3 y4 y5 y6 y7 y8 y9 y10 y11 y12 y13
      unfold evenhandedlaw16_BoundsMore.j0
      repeat' first
      | (with_reducible exact ih0 _ _ _ _ _ _ _ _ _ _ _ _ _ _)
      | (with_reducible exact ih1 _ _ _ _ _ _ _ _ _ _ _ _ _ _)
      | (with_reducible exact bounds_Next.mono _ _ _)
      | (with_reducible exact evenhandedlaw12_Rows.mono _ _)
      | (with_reducible exact evenhandedlaw16_awake.mono _)
      | (with_reducible exact LeO.refl _)
      | (with_reducible exact LeO.none _)
      | (with_reducible refine LeO.ite ?_ ?_)
      | (with_reducible refine LeO.bind ?_ (fun _ => ?_))
      | exact ih0 _ _ _ _ _ _ _ _ _ _ _ _ _ _
      | exact ih1 _ _ _ _ _ _ _ _ _ _ _ _ _ _
      | exact bounds_Next.mono _ _ _
      | exact evenhandedlaw12_Rows.mono _ _
      | exact evenhandedlaw16_awake.mono _
      | exact LeO.none _
      | refine LeO.ite ?_ ?_
      | refine LeO.bind ?_ (fun _ => ?_)
    · intro y0 y1 y2 y3 y4 y5 y6 y7 y8 y9 y10 y11 y12 y13
      unfold evenhandedlaw16_BoundsMore.l0
      repeat' first
      | (with_reducible exact ih0 _ _ _ _ _ _ _ _ _ _ _ _ _ _)
      | (with_reducible exact ih1 _ _ _ _ _ _ _ _ _ _ _ _ _ _)
      | (with_reducible exact bounds_Next.mono _ _ _)
      | (with_reducible exact evenhandedlaw12_Rows.mono _ _)
      | (with_reducible exact evenhandedlaw16_awake.mono _)
      | (with_reducible exact LeO.refl _)
      | (with_reducible exact LeO.none _)
      | (with_reducible refine LeO.ite ?_ ?_)
      | (with_reducible refine LeO.bind ?_ (fun _ => ?_))
      | exact ih0 _ _ _ _ _ _ _ _ _ _ _ _ _ _
      | exact ih1 _ _ _ _ _ _ _ _ _ _ _ _ _ _
      | exact bounds_Next.mono _ _ _
      | exact evenhandedlaw12_Rows.mono _ _
      | exact evenhandedlaw16_awake.mono _
      | exact LeO.none _
      | refine LeO.ite ?_ ?_
      | refine LeO.bind ?_ (fun _ => ?_)
theorem evenhandedlaw16_BoundsMore.mono : ∀ a0 a1 a2 a3 a4 a5 a6 a7 a8 a9 a10 a11 a12 k, LeO (evenhandedlaw16_BoundsMore.f k a0 a1 a2 a3 a4 a5 a6 a7 a8 a9 a10 a11 a12) (evenhandedlaw16_BoundsMore.f (k + 1) a0 a1 a2 a3 a4 a5 a6 a7 a8 a9 a10 a11 a12) := by
  intro a0 a1 a2 a3 a4 a5 a6 a7 a8 a9 a10 a11 a12 k
  obtain ⟨ih0, ih1⟩ := evenhandedlaw16_BoundsMore.mono_l k
  unfold evenhandedlaw16_BoundsMore.f
  repeat' first
      | (with_reducible exact ih0 _ _ _ _ _ _ _ _ _ _ _ _ _ _)
      | (with_reducible exact ih1 _ _ _ _ _ _ _ _ _ _ _ _ _ _)
      | (with_reducible exact bounds_Next.mono _ _ _)
      | (with_reducible exact evenhandedlaw12_Rows.mono _ _)
      | (with_reducible exact evenhandedlaw16_awake.mono _)
      | (with_reducible exact LeO.refl _)
      | (with_reducible exact LeO.none _)
      | (with_reducible refine LeO.ite ?_ ?_)
      | (with_reducible refine LeO.bind ?_ (fun _ => ?_))
      | exact ih0 _ _ _ _ _ _ _ _ _ _ _ _ _ _
      | exact ih1 _ _ _ _ _ _ _ _ _ _ _ _ _ _
      | exact bounds_Next.mono _ _ _
      | exact evenhandedlaw12_Rows.mono _ _
      | exact evenhandedlaw16_awake.mono _
      | exact LeO.none _
      | refine LeO.ite ?_ ?_
      | refine LeO.bind ?_ (fun _ => ?_)
def evenhandedlaw16_BoundsMore.T11 : Bool × List (List Nat × List Nat) := (true, [([], []), ([], []), ([0, 1], [0, 1]), ([], []), ([3], [3]), ([2, 4, 2], [2, 4]), ([5, 5], [5]), ([], []), ([7], [7]), ([6, 8, 6], [6, 8]), ([9], [9]), ([10], [10]), ([10], [10]), ([11, 9, 0, 1, 2, 3, 4, 5, 6, 7, 8, 9, 10, 11], [11]), ([12, 13, 0, 1, 2, 3, 4, 5, 6, 7, 8, 9, 10, 11, 12, 13], [12])])
def evenhandedlaw16_BoundsMore.B11 : List Nat := [0, 0, 3, 0, 8, 31, 63, 0, 128, 511, 1023, 2047, 2047, 4095, 16383]
theorem evenhandedlaw16_BoundsMore.tab11 : rtab .any (opsOf Try.f6 11) = evenhandedlaw16_BoundsMore.T11 := by kernel_rfl
theorem evenhandedlaw16_BoundsMore.bits11 : waitsOk evenhandedlaw16_BoundsMore.T11.2 evenhandedlaw16_BoundsMore.B11 = true := by kernel_rfl
set_option maxHeartbeats 8000000 in
set_option maxRecDepth 100000 in
theorem evenhandedlaw16_BoundsMore.calls (k : Nat) (A0 : Option Addr) (c0 : Nat) (l0 : List (S25)) (a1_0 : Int) (a1_1 : Int) (a1_2 : Int) (a1_3 : Bool) (a1_4 : Bool) (a1_5 : Bool) (a1_6 : Bool) (a1_7 : Int) (a1_8 : Int) (a1_9 : Bool) (a1_10 : Int) (a2 : Int) (r : Bool) (w : World) (hr0 : Kd.C k25 w A0 l0.length l0) (hc0 : l0.length ≤ c0) (h : evenhandedlaw16_BoundsMore.f k l0 a1_0 a1_1 a1_2 a1_3 a1_4 a1_5 a1_6 a1_7 a1_8 a1_9 a1_10 a2 = some r) :
    Calls Try.prog 6 #[.slice A0 l0.length c0, .agg #[.int .i64 a1_0, .int .i64 a1_1, .int .i64 a1_2, .bool a1_3, .bool a1_4, .bool a1_5, .bool a1_6, .int .i64 a1_7, .int .i64 a1_8, .bool a1_9, .int .i64 a1_10], .int .u8 a2] w fun e w' => e = .returned (.bool r) ∧ Below w.heap.size w w' := by
  have hu25 := Try.underlying25
  have HR0 := Aside0.mk hr0
  have HC0 := Aside0.mk hc0
  clear hr0 hc0
  have HB := Aside0.mk (Below.refl w.heap.size w)
  have H : ((evenhandedlaw16_awake.f k).bind fun t149 => (if t149 = true then (if (l0.length : Int) > 60 then (evenhandedlaw16_BoundsMore.j0 k l0 a2 true a1_0 a1_1 a1_2 a1_3 a1_4 a1_5 a1_6 a1_7 a1_8 a1_9 a1_10) else (if a1_7 < (-1048576) then (evenhandedlaw16_BoundsMore.j0 k l0 a2 true a1_0 a1_1 a1_2 a1_3 a1_4 a1_5 a1_6 a1_7 a1_8 a1_9 a1_10) else (if a1_7 > 1048576 then (evenhandedlaw16_BoundsMore.j0 k l0 a2 true a1_0 a1_1 a1_2 a1_3 a1_4 a1_5 a1_6 a1_7 a1_8 a1_9 a1_10) else (if a1_2 < (-1048576) then (evenhandedlaw16_BoundsMore.j0 k l0 a2 true a1_0 a1_1 a1_2 a1_3 a1_4 a1_5 a1_6 a1_7 a1_8 a1_9 a1_10) else (evenhandedlaw16_BoundsMore.j0 k l0 a2 (decide (a1_2 > 1048576)) a1_0 a1_1 a1_2 a1_3 a1_4 a1_5 a1_6 a1_7 a1_8 a1_9 a1_10))))) else (some false))) = some r := h
  clear h
  replace H := Option.bind_eq_some_iff.mp H
  obtain ⟨t149, A40, H⟩ := H
  replace H : (if t149 = true then (if (l0.length : Int) > 60 then (evenhandedlaw16_BoundsMore.j0 k l0 a2 true a1_0 a1_1 a1_2 a1_3 a1_4 a1_5 a1_6 a1_7 a1_8 a1_9 a1_10) else (if a1_7 < (-1048576) then (evenhandedlaw16_BoundsMore.j0 k l0 a2 true a1_0 a1_1 a1_2 a1_3 a1_4 a1_5 a1_6 a1_7 a1_8 a1_9 a1_10) else (if a1_7 > 1048576 then (evenhandedlaw16_BoundsMore.j0 k l0 a2 true a1_0 a1_1 a1_2 a1_3 a1_4 a1_5 a1_6 a1_7 a1_8 a1_9 a1_10) else (if a1_2 < (-1048576) then (evenhandedlaw16_BoundsMore.j0 k l0 a2 true a1_0 a1_1 a1_2 a1_3 a1_4 a1_5 a1_6 a1_7 a1_8 a1_9 a1_10) else (evenhandedlaw16_BoundsMore.j0 k l0 a2 (decide (a1_2 > 1048576)) a1_0 a1_1 a1_2 a1_3 a1_4 a1_5 a1_6 a1_7 a1_8 a1_9 a1_10))))) else (some false)) = some r := H
  have A4 := Aside0.mk A40
  clear A40
  by_cases c5 : t149 = true
  · subst c5
    have H1 : (if (l0.length : Int) > 60 then (evenhandedlaw16_BoundsMore.j0 k l0 a2 true a1_0 a1_1 a1_2 a1_3 a1_4 a1_5 a1_6 a1_7 a1_8 a1_9 a1_10) else (if a1_7 < (-1048576) then (evenhandedlaw16_BoundsMore.j0 k l0 a2 true a1_0 a1_1 a1_2 a1_3 a1_4 a1_5 a1_6 a1_7 a1_8 a1_9 a1_10) else (if a1_7 > 1048576 then (evenhandedlaw16_BoundsMore.j0 k l0 a2 true a1_0 a1_1 a1_2 a1_3 a1_4 a1_5 a1_6 a1_7 a1_8 a1_9 a1_10) else (if a1_2 < (-1048576) then (evenhandedlaw16_BoundsMore.j0 k l0 a2 true a1_0 a1_1 a1_2 a1_3 a1_4 a1_5 a1_6 a1_7 a1_8 a1_9 a1_10) else (evenhandedlaw16_BoundsMore.j0 k l0 a2 (decide (a1_2 > 1048576)) a1_0 a1_1 a1_2 a1_3 a1_4 a1_5 a1_6 a1_7 a1_8 a1_9 a1_10))))) = some r := by rw [if_pos rfl] at H; exact H
    clear H
    have H := H1
    clear H1
    have HC6 := Aside0.mk H
    clear H
    go_enter Try.func6, Try.ntmps6
    go_upto_region 3 with (first | ((with_reducible refine gate_dst (N := 4) rfl ?_); (try (refine gate_guard (by rfl) ?_; dsimp only)); refine box_event ?hg (N := 4) ?hd (cs := #[.int .i64 a1_0, .int .i64 a1_1, .int .i64 a1_2, .bool a1_3, .bool a1_4, .bool a1_5, .bool a1_6, .int .i64 a1_7, .int .i64 a1_8, .bool a1_9, .int .i64 a1_10]) (t := 25) ?hr ?_; (case hd => rfl); (case hg => rfl); (case hr => first | (go_simp; done) | (go_simp; rfl)); intro gb148 hg w7 hbox hb; have n0_ := Aside0.mk (below_step (by repeat (first | (with_reducible first | exact HB.out | apply below_alloc | apply pw_below_drewN | apply below_drew1) | exact HB.out)) hb); have n1_ := Aside0.mk (hbox); have n2_ := Aside0.mk ((by rw [hg]; exact (below_size (by repeat (first | (with_reducible first | exact HB.out | apply below_alloc | apply pw_below_drewN | apply below_drew1) | exact HB.out))) : w.heap.size ≤ gb148)); have n3_ := Aside0.mk ((by rw [hg]; exact (below_size (by repeat (first | (with_reducible first | exact HB.out | apply below_alloc | apply pw_below_drewN | apply below_drew1) | exact HB.out))) : w.heap.size ≤ gb148)); clear HB; have HB := n0_; have BK148 := n1_; have GW148 := n2_; have GE148 := n3_; clear n0_ n1_ n2_ n3_; clear hb hbox hg) | ((with_reducible refine gate_callee (f := 8) rfl ?_); refine goesL_ (some 13) rfl rfl Try.func8 (by kernel_rfl) rfl #[] rfl (by (try simp only [List.map_toArray, List.map_cons, List.map_nil]); first | done | rfl | (simp only [List.length_drop, List.length_take]; rfl)) ?_; (with_reducible refine (evenhandedlaw16_awake.calls k  true _ A4.out).mono ?_); rintro e w8 ⟨rfl, hb⟩; refine ⟨_, rfl, ?_⟩; have n0_ := Aside0.mk (blk_below (g := gb148) (o := .cells #[.int .i64 a1_0, .int .i64 a1_1, .int .i64 a1_2, .bool a1_3, .bool a1_4, .bool a1_5, .bool a1_6, .int .i64 a1_7, .int .i64 a1_8, .bool a1_9, .int .i64 a1_10] 25 (0, 0)) (by (with_reducible repeat (first | refine blk_drewN ?_ _ | refine blk_drew ?_ | refine blk_alloc ?_ _)); exact BK148.out) hb); have n1_ := Aside0.mk (below_step (by repeat (first | (with_reducible first | exact HB.out | apply below_alloc | apply pw_below_drewN | apply below_drew1 | refine below_set ?_ GE148.out) | exact HB.out)) hb); clear BK148; clear HB; have BK148 := n0_; have HB := n1_; clear n0_ n1_; (try clear hb); (try clear hb2); (try clear hk); (try clear hi)))
    (try simp only [Act.put, List.setIfInBounds_toArray, List.set_cons_zero, List.set_cons_succ])
    go_cut [37] (fun v37 wc => ∃ (kq : Nat) (x37_5 : Bool), v37 = .bool x37_5 ∧ Aside0 (evenhandedlaw16_BoundsMore.j0 kq l0 a2 x37_5 a1_0 a1_1 a1_2 a1_3 a1_4 a1_5 a1_6 a1_7 a1_8 a1_9 a1_10 = some r) ∧ Aside0 (kq ≤ k) ∧ Aside0 (wc.heap[gb148]? = some (.cells #[.int .i64 a1_0, .int .i64 a1_1, .int .i64 a1_2, .bool a1_3, .bool a1_4, .bool a1_5, .bool a1_6, .int .i64 a1_7, .int .i64 a1_8, .bool a1_9, .int .i64 a1_10] 25 (0, 0))) ∧ Aside0 (Below w.heap.size w wc))
    case first =>
        have H := HC6.out
        clear HC6
        by_cases c9 : (l0.length : Int) > 60
        · rw [if_pos c9] at H
          have c9b0 : decide (60 < (l0.length : Int)) = true := decide_eq_true c9
          have c9b1 : decide (60 < l0.length) = true := decide_eq_true (by omega)
          clear c9
          (first | rw [c9b0] | (simp only [i64_w, i32_w]; rw [c9b0]) | skip)
          have H' := Aside0.mk H
          clear H
          go_wp2
          go_meet
          case rel => exact ⟨_, (true), (by first | rfl | (simp; done) | (simp [*]; done)), H', ⟨by first | omega | exact Nat.le_refl _⟩, ⟨by (with_reducible repeat (first | refine blk_drewN ?_ _ | refine blk_drew ?_ | refine blk_alloc ?_ _)); exact BK148.out⟩, ⟨by repeat (first | (with_reducible first | exact HB.out | apply below_alloc | apply pw_below_drewN | apply below_drew1 | refine below_set ?_ GE148.out) | exact HB.out)⟩⟩
        · rw [if_neg c9] at H
          have c9b0 : decide (60 < (l0.length : Int)) = false := decide_eq_false c9
          have c9b1 : decide (60 < l0.length) = false := decide_eq_false (by omega)
          clear c9
          (first | rw [c9b0] | (simp only [i64_w, i32_w]; rw [c9b0]) | skip)
          by_cases c10 : a1_7 < (-1048576)
          · rw [if_pos c10] at H
            have c10b0 : decide (a1_7 < (-1048576)) = true := decide_eq_true c10
            clear c10
            have H' := Aside0.mk H
            clear H
            have hcz11_0 : w8.cell? ⟨gb148, 0, none⟩ = some (.int .i64 a1_0) := (blk_cell BK148.out 0).trans rfl
            have hcz11_1 : w8.cell? ⟨gb148, 1, none⟩ = some (.int .i64 a1_1) := (blk_cell BK148.out 1).trans rfl
            have hcz11_2 : w8.cell? ⟨gb148, 2, none⟩ = some (.int .i64 a1_2) := (blk_cell BK148.out 2).trans rfl
            have hcz11_3 : w8.cell? ⟨gb148, 3, none⟩ = some (.bool a1_3) := (blk_cell BK148.out 3).trans rfl
            have hcz11_4 : w8.cell? ⟨gb148, 4, none⟩ = some (.bool a1_4) := (blk_cell BK148.out 4).trans rfl
            have hcz11_5 : w8.cell? ⟨gb148, 5, none⟩ = some (.bool a1_5) := (blk_cell BK148.out 5).trans rfl
            have hcz11_6 : w8.cell? ⟨gb148, 6, none⟩ = some (.bool a1_6) := (blk_cell BK148.out 6).trans rfl
            have hcz11_7 : w8.cell? ⟨gb148, 7, none⟩ = some (.int .i64 a1_7) := (blk_cell BK148.out 7).trans rfl
            have hcz11_8 : w8.cell? ⟨gb148, 8, none⟩ = some (.int .i64 a1_8) := (blk_cell BK148.out 8).trans rfl
            have hcz11_9 : w8.cell? ⟨gb148, 9, none⟩ = some (.bool a1_9) := (blk_cell BK148.out 9).trans rfl
            have hcz11_10 : w8.cell? ⟨gb148, 10, none⟩ = some (.int .i64 a1_10) := (blk_cell BK148.out 10).trans rfl
            have hfz11_0 := blk_frozen BK148.out 0
            have hfz11_1 := blk_frozen BK148.out 1
            have hfz11_2 := blk_frozen BK148.out 2
            have hfz11_3 := blk_frozen BK148.out 3
            have hfz11_4 := blk_frozen BK148.out 4
            have hfz11_5 := blk_frozen BK148.out 5
            have hfz11_6 := blk_frozen BK148.out 6
            have hfz11_7 := blk_frozen BK148.out 7
            have hfz11_8 := blk_frozen BK148.out 8
            have hfz11_9 := blk_frozen BK148.out 9
            have hfz11_10 := blk_frozen BK148.out 10
            go_wp2
            go_meet
            case rel => exact ⟨_, (true), (by first | rfl | (simp; done) | (simp [*]; done)), H', ⟨by first | omega | exact Nat.le_refl _⟩, ⟨by (with_reducible repeat (first | refine blk_drewN ?_ _ | refine blk_drew ?_ | refine blk_alloc ?_ _)); exact BK148.out⟩, ⟨by repeat (first | (with_reducible first | exact HB.out | apply below_alloc | apply pw_below_drewN | apply below_drew1 | refine below_set ?_ GE148.out) | exact HB.out)⟩⟩
          · rw [if_neg c10] at H
            have c10b0 : decide (a1_7 < (-1048576)) = false := decide_eq_false c10
            clear c10
            by_cases c12 : a1_7 > 1048576
            · rw [if_pos c12] at H
              have c12b0 : decide (1048576 < a1_7) = true := decide_eq_true c12
              clear c12
              have H' := Aside0.mk H
              clear H
              have hcz13_0 : w8.cell? ⟨gb148, 0, none⟩ = some (.int .i64 a1_0) := (blk_cell BK148.out 0).trans rfl
              have hcz13_1 : w8.cell? ⟨gb148, 1, none⟩ = some (.int .i64 a1_1) := (blk_cell BK148.out 1).trans rfl
              have hcz13_2 : w8.cell? ⟨gb148, 2, none⟩ = some (.int .i64 a1_2) := (blk_cell BK148.out 2).trans rfl
              have hcz13_3 : w8.cell? ⟨gb148, 3, none⟩ = some (.bool a1_3) := (blk_cell BK148.out 3).trans rfl
              have hcz13_4 : w8.cell? ⟨gb148, 4, none⟩ = some (.bool a1_4) := (blk_cell BK148.out 4).trans rfl
              have hcz13_5 : w8.cell? ⟨gb148, 5, none⟩ = some (.bool a1_5) := (blk_cell BK148.out 5).trans rfl
              have hcz13_6 : w8.cell? ⟨gb148, 6, none⟩ = some (.bool a1_6) := (blk_cell BK148.out 6).trans rfl
              have hcz13_7 : w8.cell? ⟨gb148, 7, none⟩ = some (.int .i64 a1_7) := (blk_cell BK148.out 7).trans rfl
              have hcz13_8 : w8.cell? ⟨gb148, 8, none⟩ = some (.int .i64 a1_8) := (blk_cell BK148.out 8).trans rfl
              have hcz13_9 : w8.cell? ⟨gb148, 9, none⟩ = some (.bool a1_9) := (blk_cell BK148.out 9).trans rfl
              have hcz13_10 : w8.cell? ⟨gb148, 10, none⟩ = some (.int .i64 a1_10) := (blk_cell BK148.out 10).trans rfl
              have hfz13_0 := blk_frozen BK148.out 0
              have hfz13_1 := blk_frozen BK148.out 1
              have hfz13_2 := blk_frozen BK148.out 2
              have hfz13_3 := blk_frozen BK148.out 3
              have hfz13_4 := blk_frozen BK148.out 4
              have hfz13_5 := blk_frozen BK148.out 5
              have hfz13_6 := blk_frozen BK148.out 6
              have hfz13_7 := blk_frozen BK148.out 7
              have hfz13_8 := blk_frozen BK148.out 8
              have hfz13_9 := blk_frozen BK148.out 9
              have hfz13_10 := blk_frozen BK148.out 10
              go_wp2
              go_meet
              case rel => exact ⟨_, (true), (by first | rfl | (simp; done) | (simp [*]; done)), H', ⟨by first | omega | exact Nat.le_refl _⟩, ⟨by (with_reducible repeat (first | refine blk_drewN ?_ _ | refine blk_drew ?_ | refine blk_alloc ?_ _)); exact BK148.out⟩, ⟨by repeat (first | (with_reducible first | exact HB.out | apply below_alloc | apply pw_below_drewN | apply below_drew1 | refine below_set ?_ GE148.out) | exact HB.out)⟩⟩
            · rw [if_neg c12] at H
              have c12b0 : decide (1048576 < a1_7) = false := decide_eq_false c12
              clear c12
              by_cases c14 : a1_2 < (-1048576)
              · rw [if_pos c14] at H
                have c14b0 : decide (a1_2 < (-1048576)) = true := decide_eq_true c14
                clear c14
                have H' := Aside0.mk H
                clear H
                have hcz15_0 : w8.cell? ⟨gb148, 0, none⟩ = some (.int .i64 a1_0) := (blk_cell BK148.out 0).trans rfl
                have hcz15_1 : w8.cell? ⟨gb148, 1, none⟩ = some (.int .i64 a1_1) := (blk_cell BK148.out 1).trans rfl
                have hcz15_2 : w8.cell? ⟨gb148, 2, none⟩ = some (.int .i64 a1_2) := (blk_cell BK148.out 2).trans rfl
                have hcz15_3 : w8.cell? ⟨gb148, 3, none⟩ = some (.bool a1_3) := (blk_cell BK148.out 3).trans rfl
                have hcz15_4 : w8.cell? ⟨gb148, 4, none⟩ = some (.bool a1_4) := (blk_cell BK148.out 4).trans rfl
                have hcz15_5 : w8.cell? ⟨gb148, 5, none⟩ = some (.bool a1_5) := (blk_cell BK148.out 5).trans rfl
                have hcz15_6 : w8.cell? ⟨gb148, 6, none⟩ = some (.bool a1_6) := (blk_cell BK148.out 6).trans rfl
                have hcz15_7 : w8.cell? ⟨gb148, 7, none⟩ = some (.int .i64 a1_7) := (blk_cell BK148.out 7).trans rfl
                have hcz15_8 : w8.cell? ⟨gb148, 8, none⟩ = some (.int .i64 a1_8) := (blk_cell BK148.out 8).trans rfl
                have hcz15_9 : w8.cell? ⟨gb148, 9, none⟩ = some (.bool a1_9) := (blk_cell BK148.out 9).trans rfl
                have hcz15_10 : w8.cell? ⟨gb148, 10, none⟩ = some (.int .i64 a1_10) := (blk_cell BK148.out 10).trans rfl
                have hfz15_0 := blk_frozen BK148.out 0
                have hfz15_1 := blk_frozen BK148.out 1
                have hfz15_2 := blk_frozen BK148.out 2
                have hfz15_3 := blk_frozen BK148.out 3
                have hfz15_4 := blk_frozen BK148.out 4
                have hfz15_5 := blk_frozen BK148.out 5
                have hfz15_6 := blk_frozen BK148.out 6
                have hfz15_7 := blk_frozen BK148.out 7
                have hfz15_8 := blk_frozen BK148.out 8
                have hfz15_9 := blk_frozen BK148.out 9
                have hfz15_10 := blk_frozen BK148.out 10
                go_wp2
                go_meet
                case rel => exact ⟨_, (true), (by first | rfl | (simp; done) | (simp [*]; done)), H', ⟨by first | omega | exact Nat.le_refl _⟩, ⟨by (with_reducible repeat (first | refine blk_drewN ?_ _ | refine blk_drew ?_ | refine blk_alloc ?_ _)); exact BK148.out⟩, ⟨by repeat (first | (with_reducible first | exact HB.out | apply below_alloc | apply pw_below_drewN | apply below_drew1 | refine below_set ?_ GE148.out) | exact HB.out)⟩⟩
              · rw [if_neg c14] at H
                have c14b0 : decide (a1_2 < (-1048576)) = false := decide_eq_false c14
                clear c14
                have H' := Aside0.mk H
                clear H
                have hcz16_0 : w8.cell? ⟨gb148, 0, none⟩ = some (.int .i64 a1_0) := (blk_cell BK148.out 0).trans rfl
                have hcz16_1 : w8.cell? ⟨gb148, 1, none⟩ = some (.int .i64 a1_1) := (blk_cell BK148.out 1).trans rfl
                have hcz16_2 : w8.cell? ⟨gb148, 2, none⟩ = some (.int .i64 a1_2) := (blk_cell BK148.out 2).trans rfl
                have hcz16_3 : w8.cell? ⟨gb148, 3, none⟩ = some (.bool a1_3) := (blk_cell BK148.out 3).trans rfl
                have hcz16_4 : w8.cell? ⟨gb148, 4, none⟩ = some (.bool a1_4) := (blk_cell BK148.out 4).trans rfl
                have hcz16_5 : w8.cell? ⟨gb148, 5, none⟩ = some (.bool a1_5) := (blk_cell BK148.out 5).trans rfl
                have hcz16_6 : w8.cell? ⟨gb148, 6, none⟩ = some (.bool a1_6) := (blk_cell BK148.out 6).trans rfl
                have hcz16_7 : w8.cell? ⟨gb148, 7, none⟩ = some (.int .i64 a1_7) := (blk_cell BK148.out 7).trans rfl
                have hcz16_8 : w8.cell? ⟨gb148, 8, none⟩ = some (.int .i64 a1_8) := (blk_cell BK148.out 8).trans rfl
                have hcz16_9 : w8.cell? ⟨gb148, 9, none⟩ = some (.bool a1_9) := (blk_cell BK148.out 9).trans rfl
                have hcz16_10 : w8.cell? ⟨gb148, 10, none⟩ = some (.int .i64 a1_10) := (blk_cell BK148.out 10).trans rfl
                have hfz16_0 := blk_frozen BK148.out 0
                have hfz16_1 := blk_frozen BK148.out 1
                have hfz16_2 := blk_frozen BK148.out 2
                have hfz16_3 := blk_frozen BK148.out 3
                have hfz16_4 := blk_frozen BK148.out 4
                have hfz16_5 := blk_frozen BK148.out 5
                have hfz16_6 := blk_frozen BK148.out 6
                have hfz16_7 := blk_frozen BK148.out 7
                have hfz16_8 := blk_frozen BK148.out 8
                have hfz16_9 := blk_frozen BK148.out 9
                have hfz16_10 := blk_frozen BK148.out 10
                go_wp2
                go_meet
                case rel => exact ⟨_, (decide (a1_2 > 1048576)), (by first | rfl | (simp; done) | (simp [*]; done)), H', ⟨by first | omega | exact Nat.le_refl _⟩, ⟨by (with_reducible repeat (first | refine blk_drewN ?_ _ | refine blk_drew ?_ | refine blk_alloc ?_ _)); exact BK148.out⟩, ⟨by repeat (first | (with_reducible first | exact HB.out | apply below_alloc | apply pw_below_drewN | apply below_drew1 | refine below_set ?_ GE148.out) | exact HB.out)⟩⟩
    case rest =>
        clear HC6
        try clear c1
        try clear p2
        try clear c5
        try clear c6
        try clear c8
        try clear c9
        try clear c9b0
        try clear c9b1
        try clear c10
        try clear c10b0
        try clear c12
        try clear c12b0
        try clear c14
        try clear c14b0
        try clear hcz11_0
        try clear hcz11_1
        try clear hcz11_10
        try clear hcz11_2
        try clear hcz11_3
        try clear hcz11_4
        try clear hcz11_5
        try clear hcz11_6
        try clear hcz11_7
        try clear hcz11_8
        try clear hcz11_9
        try clear hcz13_0
        try clear hcz13_1
        try clear hcz13_10
        try clear hcz13_2
        try clear hcz13_3
        try clear hcz13_4
        try clear hcz13_5
        try clear hcz13_6
        try clear hcz13_7
        try clear hcz13_8
        try clear hcz13_9
        try clear hcz15_0
        try clear hcz15_1
        try clear hcz15_10
        try clear hcz15_2
        try clear hcz15_3
        try clear hcz15_4
        try clear hcz15_5
        try clear hcz15_6
        try clear hcz15_7
        try clear hcz15_8
        try clear hcz15_9
        try clear hcz16_0
        try clear hcz16_1
        try clear hcz16_10
        try clear hcz16_2
        try clear hcz16_3
        try clear hcz16_4
        try clear hcz16_5
        try clear hcz16_6
        try clear hcz16_7
        try clear hcz16_8
        try clear hcz16_9
        try clear hfz11_0
        try clear hfz11_1
        try clear hfz11_10
        try clear hfz11_2
        try clear hfz11_3
        try clear hfz11_4
        try clear hfz11_5
        try clear hfz11_6
        try clear hfz11_7
        try clear hfz11_8
        try clear hfz11_9
        try clear hfz13_0
        try clear hfz13_1
        try clear hfz13_10
        try clear hfz13_2
        try clear hfz13_3
        try clear hfz13_4
        try clear hfz13_5
        try clear hfz13_6
        try clear hfz13_7
        try clear hfz13_8
        try clear hfz13_9
        try clear hfz15_0
        try clear hfz15_1
        try clear hfz15_10
        try clear hfz15_2
        try clear hfz15_3
        try clear hfz15_4
        try clear hfz15_5
        try clear hfz15_6
        try clear hfz15_7
        try clear hfz15_8
        try clear hfz15_9
        try clear hfz16_0
        try clear hfz16_1
        try clear hfz16_10
        try clear hfz16_2
        try clear hfz16_3
        try clear hfz16_4
        try clear hfz16_5
        try clear hfz16_6
        try clear hfz16_7
        try clear hfz16_8
        try clear hfz16_9
        obtain ⟨kq, x37_5, rfl, HA, HJ5, BK148, HB⟩ := hcut
        cases kq with
        | zero => exact absurd HA.out (by simp [evenhandedlaw16_BoundsMore.j0])
        | succ kj5 =>
          have H := HA.out
          clear HA
          simp only [evenhandedlaw16_BoundsMore.j0] at H
          by_cases c17 : x37_5 = true
          · subst c17
            have H1 : (some true) = some r := by rw [if_pos rfl] at H; exact H
            clear H
            have H := H1
            clear H1
            obtain rfl := Option.some.inj H
            go_wp2
            go_ret
            exact ⟨by first | rfl | (simp [errW_none, errW_some] <;> rfl) | (simp [*, errW_none, errW_some] <;> rfl), by repeat (first | (with_reducible first | exact HB.out | apply below_alloc | apply pw_below_drewN | apply below_drew1 | refine below_set ?_ GE148.out) | exact HB.out)⟩
          · replace c17 := Bool.eq_false_iff.mpr c17
            subst c17
            have H1 : (evenhandedlaw16_BoundsMore.l0 kj5 l0 a2 0 a1_0 a1_1 a1_2 a1_3 a1_4 a1_5 a1_6 a1_7 a1_8 a1_9 a1_10) = some r := by rw [if_neg (show ¬ (false = true) by decide)] at H; exact H
            clear H
            have H := H1
            clear H1
            have H' := Aside0.mk H
            clear H
            go_wp2
            go_loopg [7] kj5 (fun kq v7 w' => ∃ (x7_2 : Int), v7 = .int .i64 x7_2 ∧ Aside0 (evenhandedlaw16_BoundsMore.l0 kq l0 a2 x7_2 a1_0 a1_1 a1_2 a1_3 a1_4 a1_5 a1_6 a1_7 a1_8 a1_9 a1_10 = some r) ∧ Aside0 (kq ≤ kj5) ∧ Aside0 (w'.heap[gb148]? = some (.cells #[.int .i64 a1_0, .int .i64 a1_1, .int .i64 a1_2, .bool a1_3, .bool a1_4, .bool a1_5, .bool a1_6, .int .i64 a1_7, .int .i64 a1_8, .bool a1_9, .int .i64 a1_10] 25 (0, 0))) ∧ Aside0 (Below w.heap.size w w'))
            case atStart => exact ⟨(0), (by first | rfl | (simp; done) | (simp [*]; done)), H', ⟨Nat.le_refl _⟩, ⟨by (with_reducible repeat (first | refine blk_drewN ?_ _ | refine blk_drew ?_ | refine blk_alloc ?_ _)); exact BK148.out⟩, ⟨by repeat (first | (with_reducible first | exact HB.out | apply below_alloc | apply pw_below_drewN | apply below_drew1 | refine below_set ?_ GE148.out) | exact HB.out)⟩⟩
            case round =>
                clear H'
                try clear c1
                try clear p2
                try clear c5
                try clear c6
                try clear c8
                try clear c9
                try clear c9b0
                try clear c9b1
                try clear c10
                try clear c10b0
                try clear c12
                try clear c12b0
                try clear c14
                try clear c14b0
                try clear c17
                try clear hcz11_0
                try clear hcz11_1
                try clear hcz11_10
                try clear hcz11_2
                try clear hcz11_3
                try clear hcz11_4
                try clear hcz11_5
                try clear hcz11_6
                try clear hcz11_7
                try clear hcz11_8
                try clear hcz11_9
                try clear hcz13_0
                try clear hcz13_1
                try clear hcz13_10
                try clear hcz13_2
                try clear hcz13_3
                try clear hcz13_4
                try clear hcz13_5
                try clear hcz13_6
                try clear hcz13_7
                try clear hcz13_8
                try clear hcz13_9
                try clear hcz15_0
                try clear hcz15_1
                try clear hcz15_10
                try clear hcz15_2
                try clear hcz15_3
                try clear hcz15_4
                try clear hcz15_5
                try clear hcz15_6
                try clear hcz15_7
                try clear hcz15_8
                try clear hcz15_9
                try clear hcz16_0
                try clear hcz16_1
                try clear hcz16_10
                try clear hcz16_2
                try clear hcz16_3
                try clear hcz16_4
                try clear hcz16_5
                try clear hcz16_6
                try clear hcz16_7
                try clear hcz16_8
                try clear hcz16_9
                try clear hfz11_0
                try clear hfz11_1
                try clear hfz11_10
                try clear hfz11_2
                try clear hfz11_3
                try clear hfz11_4
                try clear hfz11_5
                try clear hfz11_6
                try clear hfz11_7
                try clear hfz11_8
                try clear hfz11_9
                try clear hfz13_0
                try clear hfz13_1
                try clear hfz13_10
                try clear hfz13_2
                try clear hfz13_3
                try clear hfz13_4
                try clear hfz13_5
                try clear hfz13_6
                try clear hfz13_7
                try clear hfz13_8
                try clear hfz13_9
                try clear hfz15_0
                try clear hfz15_1
                try clear hfz15_10
                try clear hfz15_2
                try clear hfz15_3
                try clear hfz15_4
                try clear hfz15_5
                try clear hfz15_6
                try clear hfz15_7
                try clear hfz15_8
                try clear hfz15_9
                try clear hfz16_0
                try clear hfz16_1
                try clear hfz16_10
                try clear hfz16_2
                try clear hfz16_3
                try clear hfz16_4
                try clear hfz16_5
                try clear hfz16_6
                try clear hfz16_7
                try clear hfz16_8
                try clear hfz16_9
                try clear p2
                obtain ⟨x7_2, rfl, HA, HK2, BK148, HB⟩ := hrel
                cases gk with
                | zero => exact absurd HA.out (by simp [evenhandedlaw16_BoundsMore.l0])
                | succ k2 =>
                  have H := HA.out
                  clear HA
                  simp only [evenhandedlaw16_BoundsMore.l0] at H
                  by_cases c18 : x7_2 < (l0.length : Int)
                  · rw [if_pos c18] at H
                    have c18b0 : decide (x7_2 < (l0.length : Int)) = true := decide_eq_true c18
                    clear c18
                    by_cases c19 : 0 ≤ x7_2
                    · rw [if_pos c19] at H
                      have c19b0 : decide (0 ≤ x7_2) = true := decide_eq_true c19
                      clear c19
                      by_cases c20 : ((rd_T25 l0 x7_2).f7) < (-1048576)
                      · rw [if_pos c20] at H
                        have c20b0 : decide (((rd_T25 l0 x7_2).f7) < (-1048576)) = true := decide_eq_true c20
                        clear c20
                        obtain rfl := Option.some.inj H
                        have p150 : 0 ≤ (x7_2 : Int) := of_decide_eq_true (by first | (with_reducible assumption) | assumption)
                        have q150 : x7_2 < (l0.length : Int) := of_decide_eq_true (by first | (with_reducible assumption) | assumption)
                        obtain ⟨ad150, e150, -, -, hx150_2, -, -, -, hx150_6, hx150_7, -, -, -⟩ := at_T25 HR0.out x7_2 p150 q150
                        cases e150
                        replace hx150_2 := (HB.out.cell (World.block_lt_of_cell? w _ hx150_2)).trans hx150_2
                        replace hx150_6 := (HB.out.cell (World.block_lt_of_cell? w _ hx150_6)).trans hx150_6
                        replace hx150_7 := (HB.out.cell (World.block_lt_of_cell? w _ hx150_7)).trans hx150_7
                        replace p150 := eq_true p150
                        replace q150 := eq_true q150
                        go_wp2
                        go_ret
                        exact ⟨by first | rfl | (simp [errW_none, errW_some] <;> rfl) | (simp [*, errW_none, errW_some] <;> rfl), by repeat (first | (with_reducible first | exact HB.out | apply below_alloc | apply pw_below_drewN | apply below_drew1 | refine below_set ?_ GE148.out) | exact HB.out)⟩
                      · rw [if_neg c20] at H
                        have c20b0 : decide (((rd_T25 l0 x7_2).f7) < (-1048576)) = false := decide_eq_false c20
                        clear c20
                        by_cases c21 : ((rd_T25 l0 x7_2).f7) > 1048576
                        · rw [if_pos c21] at H
                          have c21b0 : decide (1048576 < ((rd_T25 l0 x7_2).f7)) = true := decide_eq_true c21
                          clear c21
                          obtain rfl := Option.some.inj H
                          have p150 : 0 ≤ (x7_2 : Int) := of_decide_eq_true (by first | (with_reducible assumption) | assumption)
                          have q150 : x7_2 < (l0.length : Int) := of_decide_eq_true (by first | (with_reducible assumption) | assumption)
                          obtain ⟨ad150, e150, -, -, hx150_2, -, -, -, hx150_6, hx150_7, -, -, -⟩ := at_T25 HR0.out x7_2 p150 q150
                          cases e150
                          replace hx150_2 := (HB.out.cell (World.block_lt_of_cell? w _ hx150_2)).trans hx150_2
                          replace hx150_6 := (HB.out.cell (World.block_lt_of_cell? w _ hx150_6)).trans hx150_6
                          replace hx150_7 := (HB.out.cell (World.block_lt_of_cell? w _ hx150_7)).trans hx150_7
                          replace p150 := eq_true p150
                          replace q150 := eq_true q150
                          have p151 : 0 ≤ (x7_2 : Int) := of_decide_eq_true (by first | (with_reducible assumption) | assumption)
                          have q151 : x7_2 < (l0.length : Int) := of_decide_eq_true (by first | (with_reducible assumption) | assumption)
                          obtain ⟨ad151, e151, -, -, hx151_2, -, -, -, hx151_6, hx151_7, -, -, -⟩ := at_T25 HR0.out x7_2 p151 q151
                          obtain rfl : ad150 = ad151 := (by injection e151)
                          replace hx151_2 := (HB.out.cell (World.block_lt_of_cell? w _ hx151_2)).trans hx151_2
                          replace hx151_6 := (HB.out.cell (World.block_lt_of_cell? w _ hx151_6)).trans hx151_6
                          replace hx151_7 := (HB.out.cell (World.block_lt_of_cell? w _ hx151_7)).trans hx151_7
                          replace p151 := eq_true p151
                          replace q151 := eq_true q151
                          go_wp2
                          go_ret
                          exact ⟨by first | rfl | (simp [errW_none, errW_some] <;> rfl) | (simp [*, errW_none, errW_some] <;> rfl), by repeat (first | (with_reducible first | exact HB.out | apply below_alloc | apply pw_below_drewN | apply below_drew1 | refine below_set ?_ GE148.out) | exact HB.out)⟩
                        · rw [if_neg c21] at H
                          have c21b0 : decide (1048576 < ((rd_T25 l0 x7_2).f7)) = false := decide_eq_false c21
                          clear c21
                          by_cases c22 : ((rd_T25 l0 x7_2).f2) > 1048576
                          · rw [if_pos c22] at H
                            have c22b0 : decide (1048576 < ((rd_T25 l0 x7_2).f2)) = true := decide_eq_true c22
                            clear c22
                            obtain rfl := Option.some.inj H
                            have p150 : 0 ≤ (x7_2 : Int) := of_decide_eq_true (by first | (with_reducible assumption) | assumption)
                            have q150 : x7_2 < (l0.length : Int) := of_decide_eq_true (by first | (with_reducible assumption) | assumption)
                            obtain ⟨ad150, e150, -, -, hx150_2, -, -, -, hx150_6, hx150_7, -, -, -⟩ := at_T25 HR0.out x7_2 p150 q150
                            cases e150
                            replace hx150_2 := (HB.out.cell (World.block_lt_of_cell? w _ hx150_2)).trans hx150_2
                            replace hx150_6 := (HB.out.cell (World.block_lt_of_cell? w _ hx150_6)).trans hx150_6
                            replace hx150_7 := (HB.out.cell (World.block_lt_of_cell? w _ hx150_7)).trans hx150_7
                            replace p150 := eq_true p150
                            replace q150 := eq_true q150
                            have p151 : 0 ≤ (x7_2 : Int) := of_decide_eq_true (by first | (with_reducible assumption) | assumption)
                            have q151 : x7_2 < (l0.length : Int) := of_decide_eq_true (by first | (with_reducible assumption) | assumption)
                            obtain ⟨ad151, e151, -, -, hx151_2, -, -, -, hx151_6, hx151_7, -, -, -⟩ := at_T25 HR0.out x7_2 p151 q151
                            obtain rfl : ad150 = ad151 := (by injection e151)
                            replace hx151_2 := (HB.out.cell (World.block_lt_of_cell? w _ hx151_2)).trans hx151_2
                            replace hx151_6 := (HB.out.cell (World.block_lt_of_cell? w _ hx151_6)).trans hx151_6
                            replace hx151_7 := (HB.out.cell (World.block_lt_of_cell? w _ hx151_7)).trans hx151_7
                            replace p151 := eq_true p151
                            replace q151 := eq_true q151
                            have p152 : 0 ≤ (x7_2 : Int) := of_decide_eq_true (by first | (with_reducible assumption) | assumption)
                            have q152 : x7_2 < (l0.length : Int) := of_decide_eq_true (by first | (with_reducible assumption) | assumption)
                            obtain ⟨ad152, e152, -, -, hx152_2, -, -, -, hx152_6, hx152_7, -, -, -⟩ := at_T25 HR0.out x7_2 p152 q152
                            obtain rfl : ad150 = ad152 := (by injection e152)
                            replace hx152_2 := (HB.out.cell (World.block_lt_of_cell? w _ hx152_2)).trans hx152_2
                            replace hx152_6 := (HB.out.cell (World.block_lt_of_cell? w _ hx152_6)).trans hx152_6
                            replace hx152_7 := (HB.out.cell (World.block_lt_of_cell? w _ hx152_7)).trans hx152_7
                            replace p152 := eq_true p152
                            replace q152 := eq_true q152
                            go_wp2
                            go_ret
                            exact ⟨by first | rfl | (simp [errW_none, errW_some] <;> rfl) | (simp [*, errW_none, errW_some] <;> rfl), by repeat (first | (with_reducible first | exact HB.out | apply below_alloc | apply pw_below_drewN | apply below_drew1 | refine below_set ?_ GE148.out) | exact HB.out)⟩
                          · rw [if_neg c22] at H
                            have c22b0 : decide (1048576 < ((rd_T25 l0 x7_2).f2)) = false := decide_eq_false c22
                            clear c22
                            by_cases c23 : ((rd_T25 l0 x7_2).f2) < (-1048576)
                            · rw [if_pos c23] at H
                              have c23b0 : decide (((rd_T25 l0 x7_2).f2) < (-1048576)) = true := decide_eq_true c23
                              clear c23
                              obtain rfl := Option.some.inj H
                              have p150 : 0 ≤ (x7_2 : Int) := of_decide_eq_true (by first | (with_reducible assumption) | assumption)
                              have q150 : x7_2 < (l0.length : Int) := of_decide_eq_true (by first | (with_reducible assumption) | assumption)
                              obtain ⟨ad150, e150, -, -, hx150_2, -, -, -, hx150_6, hx150_7, -, -, -⟩ := at_T25 HR0.out x7_2 p150 q150
                              cases e150
                              replace hx150_2 := (HB.out.cell (World.block_lt_of_cell? w _ hx150_2)).trans hx150_2
                              replace hx150_6 := (HB.out.cell (World.block_lt_of_cell? w _ hx150_6)).trans hx150_6
                              replace hx150_7 := (HB.out.cell (World.block_lt_of_cell? w _ hx150_7)).trans hx150_7
                              replace p150 := eq_true p150
                              replace q150 := eq_true q150
                              have p151 : 0 ≤ (x7_2 : Int) := of_decide_eq_true (by first | (with_reducible assumption) | assumption)
                              have q151 : x7_2 < (l0.length : Int) := of_decide_eq_true (by first | (with_reducible assumption) | assumption)
                              obtain ⟨ad151, e151, -, -, hx151_2, -, -, -, hx151_6, hx151_7, -, -, -⟩ := at_T25 HR0.out x7_2 p151 q151
                              obtain rfl : ad150 = ad151 := (by injection e151)
                              replace hx151_2 := (HB.out.cell (World.block_lt_of_cell? w _ hx151_2)).trans hx151_2
                              replace hx151_6 := (HB.out.cell (World.block_lt_of_cell? w _ hx151_6)).trans hx151_6
                              replace hx151_7 := (HB.out.cell (World.block_lt_of_cell? w _ hx151_7)).trans hx151_7
                              replace p151 := eq_true p151
                              replace q151 := eq_true q151
                              have p152 : 0 ≤ (x7_2 : Int) := of_decide_eq_true (by first | (with_reducible assumption) | assumption)
                              have q152 : x7_2 < (l0.length : Int) := of_decide_eq_true (by first | (with_reducible assumption) | assumption)
                              obtain ⟨ad152, e152, -, -, hx152_2, -, -, -, hx152_6, hx152_7, -, -, -⟩ := at_T25 HR0.out x7_2 p152 q152
                              obtain rfl : ad150 = ad152 := (by injection e152)
                              replace hx152_2 := (HB.out.cell (World.block_lt_of_cell? w _ hx152_2)).trans hx152_2
                              replace hx152_6 := (HB.out.cell (World.block_lt_of_cell? w _ hx152_6)).trans hx152_6
                              replace hx152_7 := (HB.out.cell (World.block_lt_of_cell? w _ hx152_7)).trans hx152_7
                              replace p152 := eq_true p152
                              replace q152 := eq_true q152
                              have p153 : 0 ≤ (x7_2 : Int) := of_decide_eq_true (by first | (with_reducible assumption) | assumption)
                              have q153 : x7_2 < (l0.length : Int) := of_decide_eq_true (by first | (with_reducible assumption) | assumption)
                              obtain ⟨ad153, e153, -, -, hx153_2, -, -, -, hx153_6, hx153_7, -, -, -⟩ := at_T25 HR0.out x7_2 p153 q153
                              obtain rfl : ad150 = ad153 := (by injection e153)
                              replace hx153_2 := (HB.out.cell (World.block_lt_of_cell? w _ hx153_2)).trans hx153_2
                              replace hx153_6 := (HB.out.cell (World.block_lt_of_cell? w _ hx153_6)).trans hx153_6
                              replace hx153_7 := (HB.out.cell (World.block_lt_of_cell? w _ hx153_7)).trans hx153_7
                              replace p153 := eq_true p153
                              replace q153 := eq_true q153
                              go_wp2
                              go_ret
                              exact ⟨by first | rfl | (simp [errW_none, errW_some] <;> rfl) | (simp [*, errW_none, errW_some] <;> rfl), by repeat (first | (with_reducible first | exact HB.out | apply below_alloc | apply pw_below_drewN | apply below_drew1 | refine below_set ?_ GE148.out) | exact HB.out)⟩
                            · rw [if_neg c23] at H
                              have c23b0 : decide (((rd_T25 l0 x7_2).f2) < (-1048576)) = false := decide_eq_false c23
                              clear c23
                              have H' := Aside0.mk H
                              clear H
                              have p150 : 0 ≤ (x7_2 : Int) := of_decide_eq_true (by first | (with_reducible assumption) | assumption)
                              have q150 : x7_2 < (l0.length : Int) := of_decide_eq_true (by first | (with_reducible assumption) | assumption)
                              obtain ⟨ad150, e150, -, -, hx150_2, -, -, -, hx150_6, hx150_7, -, -, -⟩ := at_T25 HR0.out x7_2 p150 q150
                              cases e150
                              replace hx150_2 := (HB.out.cell (World.block_lt_of_cell? w _ hx150_2)).trans hx150_2
                              replace hx150_6 := (HB.out.cell (World.block_lt_of_cell? w _ hx150_6)).trans hx150_6
                              replace hx150_7 := (HB.out.cell (World.block_lt_of_cell? w _ hx150_7)).trans hx150_7
                              replace p150 := eq_true p150
                              replace q150 := eq_true q150
                              have p151 : 0 ≤ (x7_2 : Int) := of_decide_eq_true (by first | (with_reducible assumption) | assumption)
                              have q151 : x7_2 < (l0.length : Int) := of_decide_eq_true (by first | (with_reducible assumption) | assumption)
                              obtain ⟨ad151, e151, -, -, hx151_2, -, -, -, hx151_6, hx151_7, -, -, -⟩ := at_T25 HR0.out x7_2 p151 q151
                              obtain rfl : ad150 = ad151 := (by injection e151)
                              replace hx151_2 := (HB.out.cell (World.block_lt_of_cell? w _ hx151_2)).trans hx151_2
                              replace hx151_6 := (HB.out.cell (World.block_lt_of_cell? w _ hx151_6)).trans hx151_6
                              replace hx151_7 := (HB.out.cell (World.block_lt_of_cell? w _ hx151_7)).trans hx151_7
                              replace p151 := eq_true p151
                              replace q151 := eq_true q151
                              have p152 : 0 ≤ (x7_2 : Int) := of_decide_eq_true (by first | (with_reducible assumption) | assumption)
                              have q152 : x7_2 < (l0.length : Int) := of_decide_eq_true (by first | (with_reducible assumption) | assumption)
                              obtain ⟨ad152, e152, -, -, hx152_2, -, -, -, hx152_6, hx152_7, -, -, -⟩ := at_T25 HR0.out x7_2 p152 q152
                              obtain rfl : ad150 = ad152 := (by injection e152)
                              replace hx152_2 := (HB.out.cell (World.block_lt_of_cell? w _ hx152_2)).trans hx152_2
                              replace hx152_6 := (HB.out.cell (World.block_lt_of_cell? w _ hx152_6)).trans hx152_6
                              replace hx152_7 := (HB.out.cell (World.block_lt_of_cell? w _ hx152_7)).trans hx152_7
                              replace p152 := eq_true p152
                              replace q152 := eq_true q152
                              have p153 : 0 ≤ (x7_2 : Int) := of_decide_eq_true (by first | (with_reducible assumption) | assumption)
                              have q153 : x7_2 < (l0.length : Int) := of_decide_eq_true (by first | (with_reducible assumption) | assumption)
                              obtain ⟨ad153, e153, -, -, hx153_2, -, -, -, hx153_6, hx153_7, -, -, -⟩ := at_T25 HR0.out x7_2 p153 q153
                              obtain rfl : ad150 = ad153 := (by injection e153)
                              replace hx153_2 := (HB.out.cell (World.block_lt_of_cell? w _ hx153_2)).trans hx153_2
                              replace hx153_6 := (HB.out.cell (World.block_lt_of_cell? w _ hx153_6)).trans hx153_6
                              replace hx153_7 := (HB.out.cell (World.block_lt_of_cell? w _ hx153_7)).trans hx153_7
                              replace p153 := eq_true p153
                              replace q153 := eq_true q153
                              go_wp2
                              go_roundg k2
                              case measure => have := HJ5.out; have := HK2.out; omega
                              case rel => exact ⟨(wrap64 (x7_2 + 1)), (by first | rfl | (simp; done) | (simp [*]; done)), H', ⟨by have := HJ5.out; have := HK2.out; omega⟩, ⟨by (with_reducible repeat (first | refine blk_drewN ?_ _ | refine blk_drew ?_ | refine blk_alloc ?_ _)); exact BK148.out⟩, ⟨by repeat (first | (with_reducible first | exact HB.out | apply below_alloc | apply pw_below_drewN | apply below_drew1 | refine below_set ?_ GE148.out) | exact HB.out)⟩⟩
                    · rw [if_neg c19] at H
                      exact absurd H (by simp)
                  · rw [if_neg c18] at H
                    have c18b0 : decide (x7_2 < (l0.length : Int)) = false := decide_eq_false c18
                    clear c18
                    replace H := Option.bind_eq_some_iff.mp H
                    obtain ⟨t154, A240, H⟩ := H
                    replace H : ((bounds_Next.f k2 t154 (wrap64 (a2))).bind fun bt157 => ((some (([] : List (S25)) : List (S25))).bind fun y159 => (if y159.length + l0.length < 2199023255552 then ((some (y159 ++ l0 : List (S25))).bind fun y162 => ((some (([(⟨a1_0, a1_1, a1_2, a1_3, a1_4, a1_5, a1_6, a1_7, a1_8, a1_9, a1_10⟩ : S25)] : List (S25)) : List (S25))).bind fun y165 => (if y162.length + y165.length < 2199023255552 then ((evenhandedlaw12_Rows.f k2 (y162 ++ y165)).bind fun t171 => ((bounds_Next.f k2 t171 (wrap64 (a2))).bind fun bt174 => (if a1_6 = true then (if (wrap64 (a1_7 + a1_2)) ≤ (wrap64 (a2)) then (if bt157.1 = bt174.1 then (some (bt157.2 == bt174.2)) else (some false)) else (if bt174.2 = true then (if bt174.1 = (mn (wrap64 (a1_7 + a1_2)) bt174.1) then (if bt157.2 = true then (some (bt174.1 == (mn bt157.1 (wrap64 (a1_7 + a1_2))))) else (if bt174.1 = (wrap64 (a1_7 + a1_2)) then (some true) else (some false))) else (some false)) else (some false))) else (if bt157.1 = bt174.1 then (some (bt157.2 == bt174.2)) else (some false))))) else (none)))) else (none)))) = some r := H
                    have A24 := Aside0.mk A240
                    clear A240
                    replace H := Option.bind_eq_some_iff.mp H
                    obtain ⟨⟨t157, t158⟩, A250, H⟩ := H
                    replace H : ((some (([] : List (S25)) : List (S25))).bind fun y159 => (if y159.length + l0.length < 2199023255552 then ((some (y159 ++ l0 : List (S25))).bind fun y162 => ((some (([(⟨a1_0, a1_1, a1_2, a1_3, a1_4, a1_5, a1_6, a1_7, a1_8, a1_9, a1_10⟩ : S25)] : List (S25)) : List (S25))).bind fun y165 => (if y162.length + y165.length < 2199023255552 then ((evenhandedlaw12_Rows.f k2 (y162 ++ y165)).bind fun t171 => ((bounds_Next.f k2 t171 (wrap64 (a2))).bind fun bt174 => (if a1_6 = true then (if (wrap64 (a1_7 + a1_2)) ≤ (wrap64 (a2)) then (if t157 = bt174.1 then (some (t158 == bt174.2)) else (some false)) else (if bt174.2 = true then (if bt174.1 = (mn (wrap64 (a1_7 + a1_2)) bt174.1) then (if t158 = true then (some (bt174.1 == (mn t157 (wrap64 (a1_7 + a1_2))))) else (if bt174.1 = (wrap64 (a1_7 + a1_2)) then (some true) else (some false))) else (some false)) else (some false))) else (if t157 = bt174.1 then (some (t158 == bt174.2)) else (some false))))) else (none)))) else (none))) = some r := H
                    have A25 := Aside0.mk A250
                    clear A250
                    obtain ⟨y159, hy159⟩ : ∃ y_ : List (S25), y_ = (([] : List (S25))) := ⟨_, rfl⟩
                    replace H : (if y159.length + l0.length < 2199023255552 then ((some (y159 ++ l0 : List (S25))).bind fun y162 => ((some (([(⟨a1_0, a1_1, a1_2, a1_3, a1_4, a1_5, a1_6, a1_7, a1_8, a1_9, a1_10⟩ : S25)] : List (S25)) : List (S25))).bind fun y165 => (if y162.length + y165.length < 2199023255552 then ((evenhandedlaw12_Rows.f k2 (y162 ++ y165)).bind fun t171 => ((bounds_Next.f k2 t171 (wrap64 (a2))).bind fun bt174 => (if a1_6 = true then (if (wrap64 (a1_7 + a1_2)) ≤ (wrap64 (a2)) then (if t157 = bt174.1 then (some (t158 == bt174.2)) else (some false)) else (if bt174.2 = true then (if bt174.1 = (mn (wrap64 (a1_7 + a1_2)) bt174.1) then (if t158 = true then (some (bt174.1 == (mn t157 (wrap64 (a1_7 + a1_2))))) else (if bt174.1 = (wrap64 (a1_7 + a1_2)) then (some true) else (some false))) else (some false)) else (some false))) else (if t157 = bt174.1 then (some (t158 == bt174.2)) else (some false))))) else (none)))) else (none)) = some r := by first | (rw [hy159]; with_reducible exact H) | (have H2_ := (Option.bind_some _ _).symm.trans H; rw [hy159]; with_reducible exact H2_) | (have H2_ := (Option.bind_some _ _).symm.trans H; with_reducible exact H2_) | with_reducible exact H | (rw [hy159]; exact H) | exact H
                    have Ny159 := Aside0.mk hy159
                    clear hy159
                    by_cases c26 : y159.length + l0.length < 2199023255552
                    · rw [if_pos c26] at H
                      have LMc26 := Aside0.mk c26
                      clear c26
                      obtain ⟨y162, hy162⟩ : ∃ y_ : List (S25), y_ = (y159 ++ l0) := ⟨_, rfl⟩
                      replace H : ((some (([(⟨a1_0, a1_1, a1_2, a1_3, a1_4, a1_5, a1_6, a1_7, a1_8, a1_9, a1_10⟩ : S25)] : List (S25)) : List (S25))).bind fun y165 => (if y162.length + y165.length < 2199023255552 then ((evenhandedlaw12_Rows.f k2 (y162 ++ y165)).bind fun t171 => ((bounds_Next.f k2 t171 (wrap64 (a2))).bind fun bt174 => (if a1_6 = true then (if (wrap64 (a1_7 + a1_2)) ≤ (wrap64 (a2)) then (if t157 = bt174.1 then (some (t158 == bt174.2)) else (some false)) else (if bt174.2 = true then (if bt174.1 = (mn (wrap64 (a1_7 + a1_2)) bt174.1) then (if t158 = true then (some (bt174.1 == (mn t157 (wrap64 (a1_7 + a1_2))))) else (if bt174.1 = (wrap64 (a1_7 + a1_2)) then (some true) else (some false))) else (some false)) else (some false))) else (if t157 = bt174.1 then (some (t158 == bt174.2)) else (some false))))) else (none))) = some r := by first | (rw [hy162]; with_reducible exact H) | (have H2_ := (Option.bind_some _ _).symm.trans H; rw [hy162]; with_reducible exact H2_) | (have H2_ := (Option.bind_some _ _).symm.trans H; with_reducible exact H2_) | with_reducible exact H | (rw [hy162]; exact H) | exact H
                      have Ny162 := Aside0.mk hy162
                      clear hy162
                      obtain ⟨y165, hy165⟩ : ∃ y_ : List (S25), y_ = (([(⟨a1_0, a1_1, a1_2, a1_3, a1_4, a1_5, a1_6, a1_7, a1_8, a1_9, a1_10⟩ : S25)] : List (S25))) := ⟨_, rfl⟩
                      replace H : (if y162.length + y165.length < 2199023255552 then ((evenhandedlaw12_Rows.f k2 (y162 ++ y165)).bind fun t171 => ((bounds_Next.f k2 t171 (wrap64 (a2))).bind fun bt174 => (if a1_6 = true then (if (wrap64 (a1_7 + a1_2)) ≤ (wrap64 (a2)) then (if t157 = bt174.1 then (some (t158 == bt174.2)) else (some false)) else (if bt174.2 = true then (if bt174.1 = (mn (wrap64 (a1_7 + a1_2)) bt174.1) then (if t158 = true then (some (bt174.1 == (mn t157 (wrap64 (a1_7 + a1_2))))) else (if bt174.1 = (wrap64 (a1_7 + a1_2)) then (some true) else (some false))) else (some false)) else (some false))) else (if t157 = bt174.1 then (some (t158 == bt174.2)) else (some false))))) else (none)) = some r := by first | (rw [hy165]; with_reducible exact H) | (have H2_ := (Option.bind_some _ _).symm.trans H; rw [hy165]; with_reducible exact H2_) | (have H2_ := (Option.bind_some _ _).symm.trans H; with_reducible exact H2_) | with_reducible exact H | (rw [hy165]; exact H) | exact H
                      have Ny165 := Aside0.mk hy165
                      clear hy165
                      by_cases c27 : y162.length + y165.length < 2199023255552
                      · rw [if_pos c27] at H
                        have LMc27 := Aside0.mk c27
                        clear c27
                        obtain ⟨y168, hy168⟩ : ∃ y_ : List (S25), y_ = (y162 ++ y165) := ⟨_, rfl⟩
                        replace H : ((evenhandedlaw12_Rows.f k2 y168).bind fun t171 => ((bounds_Next.f k2 t171 (wrap64 (a2))).bind fun bt174 => (if a1_6 = true then (if (wrap64 (a1_7 + a1_2)) ≤ (wrap64 (a2)) then (if t157 = bt174.1 then (some (t158 == bt174.2)) else (some false)) else (if bt174.2 = true then (if bt174.1 = (mn (wrap64 (a1_7 + a1_2)) bt174.1) then (if t158 = true then (some (bt174.1 == (mn t157 (wrap64 (a1_7 + a1_2))))) else (if bt174.1 = (wrap64 (a1_7 + a1_2)) then (some true) else (some false))) else (some false)) else (some false))) else (if t157 = bt174.1 then (some (t158 == bt174.2)) else (some false))))) = some r := by first | (rw [hy168]; with_reducible exact H) | (have H2_ := (Option.bind_some _ _).symm.trans H; rw [hy168]; with_reducible exact H2_) | (have H2_ := (Option.bind_some _ _).symm.trans H; with_reducible exact H2_) | with_reducible exact H | (rw [hy168]; exact H) | exact H
                        have Ny168 := Aside0.mk hy168
                        clear hy168
                        replace H := Option.bind_eq_some_iff.mp H
                        obtain ⟨t171, A280, H⟩ := H
                        replace H : ((bounds_Next.f k2 t171 (wrap64 (a2))).bind fun bt174 => (if a1_6 = true then (if (wrap64 (a1_7 + a1_2)) ≤ (wrap64 (a2)) then (if t157 = bt174.1 then (some (t158 == bt174.2)) else (some false)) else (if bt174.2 = true then (if bt174.1 = (mn (wrap64 (a1_7 + a1_2)) bt174.1) then (if t158 = true then (some (bt174.1 == (mn t157 (wrap64 (a1_7 + a1_2))))) else (if bt174.1 = (wrap64 (a1_7 + a1_2)) then (some true) else (some false))) else (some false)) else (some false))) else (if t157 = bt174.1 then (some (t158 == bt174.2)) else (some false)))) = some r := H
                        have A28 := Aside0.mk A280
                        clear A280
                        replace H := Option.bind_eq_some_iff.mp H
                        obtain ⟨⟨t174, t175⟩, A290, H⟩ := H
                        replace H : (if a1_6 = true then (if (wrap64 (a1_7 + a1_2)) ≤ (wrap64 (a2)) then (if t157 = t174 then (some (t158 == t175)) else (some false)) else (if t175 = true then (if t174 = (mn (wrap64 (a1_7 + a1_2)) t174) then (if t158 = true then (some (t174 == (mn t157 (wrap64 (a1_7 + a1_2))))) else (if t174 = (wrap64 (a1_7 + a1_2)) then (some true) else (some false))) else (some false)) else (some false))) else (if t157 = t174 then (some (t158 == t175)) else (some false))) = some r := H
                        have A29 := Aside0.mk A290
                        clear A290
                        try go_wp2_with (first | ((with_reducible refine gate_callee (f := 10) rfl ?_); refine goesL_ (some 76) rfl rfl Try.func10 (by kernel_rfl) rfl #[.slice A0 l0.length c0] rfl (by (try simp only [List.map_toArray, List.map_cons, List.map_nil]); first | done | rfl | (simp only [List.length_drop, List.length_take]; rfl)) ?_; (with_reducible refine (evenhandedlaw12_Rows.calls k2 _ _ l0 t154 _ ?side1 ?side2 A24.out).mono ?_); (case side1 => repeat (first | exact (Kd.C_below HR0.out HB.out) | (with_reducible refine Kd.C_alloc ?_ _) | (with_reducible refine Kd.C_drewN ?_ _) | (with_reducible refine Kd.C_drew ?_))); (case side2 => exact HC0.out); rintro e w33 ⟨v155, rfl, ho0, hb⟩; refine ⟨_, rfl, ?_⟩; have n0_ := Aside0.mk (Kd.R_lower ho0 (below_size (by repeat (first | (with_reducible first | exact HB.out | apply below_alloc | apply pw_below_drewN | apply below_drew1 | refine below_set ?_ GE148.out) | exact HB.out)))); have n1_ := Aside0.mk (blk_below (g := gb148) (o := .cells #[.int .i64 a1_0, .int .i64 a1_1, .int .i64 a1_2, .bool a1_3, .bool a1_4, .bool a1_5, .bool a1_6, .int .i64 a1_7, .int .i64 a1_8, .bool a1_9, .int .i64 a1_10] 25 (0, 0)) (by (with_reducible repeat (first | refine blk_drewN ?_ _ | refine blk_drew ?_ | refine blk_alloc ?_ _)); exact BK148.out) hb); have n2_ := Aside0.mk (below_step (by repeat (first | (with_reducible first | exact HB.out | apply below_alloc | apply pw_below_drewN | apply below_drew1 | refine below_set ?_ GE148.out) | exact HB.out)) hb); clear BK148; clear HB; have HO156 := n0_; have BK148 := n1_; have HB := n2_; clear n0_ n1_ n2_; (try clear hb); (try clear hb2); (try clear hk); (try clear hi); (try clear ho0); obtain ⟨Ao34, co34, eo34⟩ := Kd.R_slice HO156.out; subst eo34) | ((with_reducible refine gate_callee (f := 9) rfl ?_); refine goesL_ (some 79) rfl rfl Try.func9 (by kernel_rfl) rfl #[.slice Ao34 t154.length co34, .int .i64 (wrap64 (a2))] rfl (by (try simp only [List.map_toArray, List.map_cons, List.map_nil]); first | done | rfl | (simp only [List.length_drop, List.length_take]; rfl)) ?_; (with_reducible refine (bounds_Next.calls k2 _ _ t154 (wrap64 (a2)) t157 t158 _ ?side1 ?side2 A25.out).mono ?_); (case side1 => repeat (first | exact (Kd.R_reads' HO156.out).2.2 | (with_reducible refine Kd.C_alloc ?_ _) | (with_reducible refine Kd.C_drewN ?_ _) | (with_reducible refine Kd.C_drew ?_))); (case side2 => exact (Kd.R_reads' HO156.out).2.1); rintro e w35 ⟨rfl, hb⟩; refine ⟨_, rfl, ?_⟩; have n0_ := Aside0.mk (Kd.R_below (by (with_reducible repeat (first | apply Kd.R_alloc | apply Kd.R_drewN | apply Kd.R_drew)); exact HO156.out) hb); have n1_ := Aside0.mk (blk_below (g := gb148) (o := .cells #[.int .i64 a1_0, .int .i64 a1_1, .int .i64 a1_2, .bool a1_3, .bool a1_4, .bool a1_5, .bool a1_6, .int .i64 a1_7, .int .i64 a1_8, .bool a1_9, .int .i64 a1_10] 25 (0, 0)) (by (with_reducible repeat (first | refine blk_drewN ?_ _ | refine blk_drew ?_ | refine blk_alloc ?_ _)); exact BK148.out) hb); have n2_ := Aside0.mk (below_step (by repeat (first | (with_reducible first | exact HB.out | apply below_alloc | apply pw_below_drewN | apply below_drew1 | refine below_set ?_ GE148.out) | exact HB.out)) hb); clear HO156; clear BK148; clear HB; have HO156 := n0_; have BK148 := n1_; have HB := n2_; clear n0_ n1_ n2_; (try clear hb); (try clear hb2); (try clear hk); (try clear hi)))
                        have n0_ := Aside0.mk (Kd.R_drew HO156.out)
                        have n1_ := Aside0.mk (blk_drew BK148.out)
                        have n2_ := Aside0.mk (below_drew1 HB.out)
                        clear HO156
                        clear BK148
                        clear HB
                        have HO156 := n0_
                        have BK148 := n1_
                        have HB := n2_
                        clear n0_ n1_ n2_
                        refine start_ (n := 15) (S := fun w' => w'.cell? ⟨gb148, 0, none⟩ = some (.int .i64 a1_0) ∧ w'.cell? ⟨gb148, 1, none⟩ = some (.int .i64 a1_1) ∧ w'.cell? ⟨gb148, 2, none⟩ = some (.int .i64 a1_2) ∧ w'.cell? ⟨gb148, 3, none⟩ = some (.bool a1_3) ∧ w'.cell? ⟨gb148, 4, none⟩ = some (.bool a1_4) ∧ w'.cell? ⟨gb148, 5, none⟩ = some (.bool a1_5) ∧ w'.cell? ⟨gb148, 6, none⟩ = some (.bool a1_6) ∧ w'.cell? ⟨gb148, 7, none⟩ = some (.int .i64 a1_7) ∧ w'.cell? ⟨gb148, 8, none⟩ = some (.int .i64 a1_8) ∧ w'.cell? ⟨gb148, 9, none⟩ = some (.bool a1_9) ∧ w'.cell? ⟨gb148, 10, none⟩ = some (.int .i64 a1_10)) (ds := []) #[false, false, false, false, false, false, false, false, false, false, false, false, false, false, false] (by kernel_rfl) rfl rfl ⟨(blk_cell BK148.out 0).trans rfl, (blk_cell BK148.out 1).trans rfl, (blk_cell BK148.out 2).trans rfl, (blk_cell BK148.out 3).trans rfl, (blk_cell BK148.out 4).trans rfl, (blk_cell BK148.out 5).trans rfl, (blk_cell BK148.out 6).trans rfl, (blk_cell BK148.out 7).trans rfl, (blk_cell BK148.out 8).trans rfl, (blk_cell BK148.out 9).trans rfl, (blk_cell BK148.out 10).trans rfl⟩ (fun hHeld => ?_); refine with_tabW evenhandedlaw16_BoundsMore.tab11 evenhandedlaw16_BoundsMore.bits11 (fun HT_ HW_ => ?_)
                        generalize w35.drew = w36 at HO156 BK148 HB hHeld ⊢
                        refine pure_ (i := 1) (N := some 84) (v := ?_) (a' := ?_) #[false, true, false, false, false, false, false, false, false, false, false, false, false, false, false] rfl rfl (any_of HT_.out (by kernel_rfl)) (fun _ _ _ h => h) (Or.inl ⟨by rfl, ?_⟩) ?_ ?_
                        rotate_left
                        · intro w'
                          go_simp
                          with_reducible rfl
                        rotate_left
                        · simp only [Act.put, List.setIfInBounds_toArray, List.set_cons_zero, List.set_cons_succ, i64_w, i32_w]
                          rfl
                        refine pure_ (i := 7) (N := some 90) (v := ?_) (a' := ?_) #[false, true, false, false, false, false, false, true, false, false, false, false, false, false, false] rfl rfl (any_of HT_.out (by kernel_rfl)) (fun _ _ _ h => h) (Or.inl ⟨by rfl, ?_⟩) ?_ ?_
                        rotate_left
                        · intro w'
                          go_simp
                          with_reducible rfl
                        rotate_left
                        · simp only [Act.put, List.setIfInBounds_toArray, List.set_cons_zero, List.set_cons_succ, i64_w, i32_w]
                          rfl
                        refine pure_ (i := 8) (N := some 91) (v := ?_) (a' := ?_) #[false, true, false, false, false, false, false, true, true, false, false, false, false, false, false] rfl rfl (any_of HT_.out (by kernel_rfl)) (fun _ _ _ h => h) (Or.inl ⟨by rfl, ?_⟩) ?_ ?_
                        rotate_left
                        · intro w'
                          go_simp
                          with_reducible rfl
                        rotate_left
                        · simp only [Act.put, List.setIfInBounds_toArray, List.set_cons_zero, List.set_cons_succ, i64_w, i32_w]
                          rfl
                        refine take_ (i := 3) (N := some 86) (v := ?_) (a' := ?_) #[false, true, false, true, false, false, false, true, true, false, false, false, false, false, false] rfl rfl (take_ofW HT_.out HW_.out (by kernel_rfl)) (fun _ _ _ h => h) (Or.inl ⟨by rfl, ?_⟩) hHeld ?_ ?_
                        rotate_left
                        · rintro w' ⟨s0, s1, s2, s3, s4, s5, s6, s7, s8, s9, s10⟩
                          go_simp
                          with_reducible rfl
                        rotate_left
                        · simp only [Act.put, List.setIfInBounds_toArray, List.set_cons_zero, List.set_cons_succ, i64_w, i32_w]
                          rfl
                        refine join_ (σ := Value × Value × Value) 8 #[true, true, true, true, true, false, false, true, true, false, false, false, false, false, false] (fun s_ => [(83, s_.1), (85, s_.2.1), (87, s_.2.2)]) (fun s_ w' => (w'.cell? ⟨gb148, 0, none⟩ = some (.int .i64 a1_0) ∧ w'.cell? ⟨gb148, 1, none⟩ = some (.int .i64 a1_1) ∧ w'.cell? ⟨gb148, 2, none⟩ = some (.int .i64 a1_2) ∧ w'.cell? ⟨gb148, 3, none⟩ = some (.bool a1_3) ∧ w'.cell? ⟨gb148, 4, none⟩ = some (.bool a1_4) ∧ w'.cell? ⟨gb148, 5, none⟩ = some (.bool a1_5) ∧ w'.cell? ⟨gb148, 6, none⟩ = some (.bool a1_6) ∧ w'.cell? ⟨gb148, 7, none⟩ = some (.int .i64 a1_7) ∧ w'.cell? ⟨gb148, 8, none⟩ = some (.int .i64 a1_8) ∧ w'.cell? ⟨gb148, 9, none⟩ = some (.bool a1_9) ∧ w'.cell? ⟨gb148, 10, none⟩ = some (.int .i64 a1_10)) ∧ (Kd.R k37 37 w' w.heap.size (fun _ => True) (.slice Ao34 t154.length co34) t154) ∧ (Kd.R k25 25 w' w.heap.size (fun k_ => some k_ ≠ (s_.2.2 : Value).ownBlock ∧ k_ ≠ gb148) s_.2.1 y162) ∧ (Kd.R k25 25 w' w.heap.size (fun k_ => some k_ ≠ (s_.2.1 : Value).ownBlock ∧ k_ ≠ gb148) s_.2.2 y165) ∧ (w'.heap[gb148]? = some (.cells #[.int .i64 a1_0, .int .i64 a1_1, .int .i64 a1_2, .bool a1_3, .bool a1_4, .bool a1_5, .bool a1_6, .int .i64 a1_7, .int .i64 a1_8, .bool a1_9, .int .i64 a1_10] 25 (0, 0))) ∧ (Below w.heap.size w w')) ?_ ?_
                        rotate_left
                        · intro hCont
                          refine two_ (i := 0) (j := 4) (Ni := some 83) (Nj := some 87) #[true, true, false, true, false, false, false, true, true, false, false, false, false, false, false] #[false, true, false, true, true, false, false, true, true, false, false, false, false, false, false] rfl rfl rfl rfl (two_of HT_.out (by kernel_rfl)) (by decide) (by decide) (fun K hK => ?_) (fun K hK => ?_)
                          · skip
                            refine Kd.R_lit_step k25 _ 25 ?hg (N := 83) ?hd (xs := ([] : List (S25))) (inner := []) (ok := fun _ => True) (okp := fun _ => True) ?hr ?hp (fun _ hk => hk) trivial (Below.refl _ _) (Nat.le_refl _) (by simp) ?_; (case hd => rfl); (case hg => rfl); (case hr => first | (go_simp; done) | (go_simp; rfl)); (case hp => exact (Reps.none _ _))
                            intro v160 w37 ho38 hb hg_ hnew_
                            clear hg_ hnew_
                            (first | rw [← Ny159.out] at ho38 | (simp only [Int.reduceToNat] at ho38; rw [← Ny159.out] at ho38))
                            have n0_ := Aside0.mk (Kd.R_below (by (with_reducible repeat (first | apply Kd.R_alloc | apply Kd.R_drewN | apply Kd.R_drew)); exact HO156.out) hb)
                            have n1_ := Aside0.mk (Kd.R_lower (Kd.R_newB ho38 (g := gb148) (o := .cells #[.int .i64 a1_0, .int .i64 a1_1, .int .i64 a1_2, .bool a1_3, .bool a1_4, .bool a1_5, .bool a1_6, .int .i64 a1_7, .int .i64 a1_8, .bool a1_9, .int .i64 a1_10] 25 (0, 0)) (by (with_reducible repeat (first | refine blk_drewN ?_ _ | refine blk_drew ?_ | refine blk_alloc ?_ _)); exact BK148.out)) (below_size (by repeat (first | (with_reducible first | exact HB.out | apply below_alloc | apply pw_below_drewN | apply below_drew1 | refine below_set ?_ GE148.out) | exact HB.out))))
                            have n2_ := Aside0.mk (blk_below (g := gb148) (o := .cells #[.int .i64 a1_0, .int .i64 a1_1, .int .i64 a1_2, .bool a1_3, .bool a1_4, .bool a1_5, .bool a1_6, .int .i64 a1_7, .int .i64 a1_8, .bool a1_9, .int .i64 a1_10] 25 (0, 0)) (by (with_reducible repeat (first | refine blk_drewN ?_ _ | refine blk_drew ?_ | refine blk_alloc ?_ _)); exact BK148.out) hb)
                            have n3_ := Aside0.mk (below_step (by repeat (first | (with_reducible first | exact HB.out | apply below_alloc | apply pw_below_drewN | apply below_drew1 | refine below_set ?_ GE148.out) | exact HB.out)) hb)
                            clear HO156
                            clear BK148
                            clear HB
                            have HO156 := n0_
                            have HO161 := n1_
                            have BK148 := n2_
                            have HB := n3_
                            clear n0_ n1_ n2_ n3_
                            clear hb ho38
                            refine hK.out _ _ ⟨(blk_cell BK148.out 0).trans rfl, (blk_cell BK148.out 1).trans rfl, (blk_cell BK148.out 2).trans rfl, (blk_cell BK148.out 3).trans rfl, (blk_cell BK148.out 4).trans rfl, (blk_cell BK148.out 5).trans rfl, (blk_cell BK148.out 6).trans rfl, (blk_cell BK148.out 7).trans rfl, (blk_cell BK148.out 8).trans rfl, (blk_cell BK148.out 9).trans rfl, (blk_cell BK148.out 10).trans rfl⟩ (fun hHeld => ?_)
                            clear hK K
                            refine norm_ (a' := ?_) ?_ ?_
                            rotate_left
                            · show Act.put _ (some 83) _ = _
                              simp only [Act.put, List.setIfInBounds_toArray, List.set_cons_zero, List.set_cons_succ, i64_w, i32_w]
                              rfl
                            refine two_ (i := 2) (j := 4) (Ni := some 85) (Nj := some 87) #[true, true, true, true, false, false, false, true, true, false, false, false, false, false, false] #[true, true, false, true, true, false, false, true, true, false, false, false, false, false, false] rfl rfl rfl rfl (two_of HT_.out (by kernel_rfl)) (by decide) (by decide) (fun K hK => ?_) (fun K hK => ?_)
                            · skip
                              refine Kd.R_append_rows_step k25 (w0 := w) w.heap.size (by rfl) (.tmp 83) (.tmp 84) 22 25 (.agg #[(.int .i64 0), (.int .i64 0), (.int .i64 0), (.bool false), (.bool false), (.bool false), (.bool false), (.int .i64 0), (.int .i64 0), (.bool false), (.int .i64 0)]) 64 rfl Try.underlying22 info25 rfl (by decide) (by omega) v160 y159 l0 _ _ _ (fun k_ => k_ ≠ gb148) (fun _ => False) rfl rfl ?aO ?aR (fun _ _ h => h) (fun _ h => h.elim) ?aF ?aB ?aS ?aL ?_
                              (case aR => repeat (first | exact (Kd.C_below HR0.out HB.out) | (with_reducible refine Kd.C_alloc ?_ _) | (with_reducible refine Kd.C_drewN ?_ _) | (with_reducible refine Kd.C_drew ?_)))
                              (case aB => exact (by repeat (first | (with_reducible first | exact HB.out | apply below_alloc | apply pw_below_drewN | apply below_drew1 | refine below_set ?_ GE148.out) | exact HB.out)))
                              (case aF => exact (fun k_ hk => Kd.freshB (g := gb148) (o := .cells #[.int .i64 a1_0, .int .i64 a1_1, .int .i64 a1_2, .bool a1_3, .bool a1_4, .bool a1_5, .bool a1_6, .int .i64 a1_7, .int .i64 a1_8, .bool a1_9, .int .i64 a1_10] 25 (0, 0)) (by (with_reducible repeat (first | refine blk_drewN ?_ _ | refine blk_drew ?_ | refine blk_alloc ?_ _)); exact BK148.out) k_ hk))
                              (case aO => exact (by (with_reducible repeat (first | apply Kd.R_alloc | apply Kd.R_drewN | apply Kd.R_drew)); exact Kd.R_mono HO161.out (fun _ hk => hk.2)))
                              (case aS => exact (below_size (by repeat (first | (with_reducible first | exact HB.out | apply below_alloc | apply pw_below_drewN | apply below_drew1 | refine below_set ?_ GE148.out) | exact HB.out))))
                              (case aL => have := LMc26.out; omega)
                              intro v163 w39 ho hb hg hat
                              rw [← Ny162.out] at ho
                              have n0_ := Aside0.mk (blk_grown (g := gb148) (o := .cells #[.int .i64 a1_0, .int .i64 a1_1, .int .i64 a1_2, .bool a1_3, .bool a1_4, .bool a1_5, .bool a1_6, .int .i64 a1_7, .int .i64 a1_8, .bool a1_9, .int .i64 a1_10] 25 (0, 0)) (by (with_reducible repeat (first | refine blk_drewN ?_ _ | refine blk_drew ?_ | refine blk_alloc ?_ _)); exact BK148.out) hg (Kd.R_away HO161.out (fun _ hk => hk.2)))
                              have n1_ := Aside0.mk (Kd.R_over' (by (with_reducible repeat (first | apply Kd.R_alloc | apply Kd.R_drewN | apply Kd.R_drew)); exact HO156.out) (Kd.R_typed (by (with_reducible repeat (first | apply Kd.R_alloc | apply Kd.R_drewN | apply Kd.R_drew)); exact HO161.out)) (by decide) hg)
                              have n2_ := Aside0.mk (hb)
                              have n3_ := Aside0.mk (ho)
                              clear BK148
                              clear HO156
                              clear HB
                              clear HO161
                              have BK148 := n0_
                              have HO156 := n1_
                              have HB := n2_
                              have HO164 := n3_
                              clear n0_ n1_ n2_ n3_
                              clear ho hb hg hat
                              refine hK.out _ _ ⟨(blk_cell BK148.out 0).trans rfl, (blk_cell BK148.out 1).trans rfl, (blk_cell BK148.out 2).trans rfl, (blk_cell BK148.out 3).trans rfl, (blk_cell BK148.out 4).trans rfl, (blk_cell BK148.out 5).trans rfl, (blk_cell BK148.out 6).trans rfl, (blk_cell BK148.out 7).trans rfl, (blk_cell BK148.out 8).trans rfl, (blk_cell BK148.out 9).trans rfl, (blk_cell BK148.out 10).trans rfl⟩ (fun hHeld => ?_)
                              clear hK K
                              refine norm_ (a' := ?_) ?_ ?_
                              rotate_left
                              · show Act.put _ (some 85) _ = _
                                simp only [Act.put, List.setIfInBounds_toArray, List.set_cons_zero, List.set_cons_succ, i64_w, i32_w]
                                rfl
                              refine one_ (i := 4) (N := some 87) #[true, true, true, true, true, false, false, true, true, false, false, false, false, false, false] rfl rfl (one_of HT_.out (by kernel_rfl)) (by decide) (fun K hK => ?_)
                              refine Kd.R_lit_step k25 _ 25 ?hg (N := 87) ?hd (xs := ([(⟨a1_0, a1_1, a1_2, a1_3, a1_4, a1_5, a1_6, a1_7, a1_8, a1_9, a1_10⟩ : S25)] : List (S25))) (inner := [.int .i64 a1_0, .int .i64 a1_1, .int .i64 a1_2, .bool a1_3, .bool a1_4, .bool a1_5, .bool a1_6, .int .i64 a1_7, .int .i64 a1_8, .bool a1_9, .int .i64 a1_10]) (ok := fun _ => True) (okp := fun _ => True) ?hr ?hp (fun _ hk => hk) trivial (Below.refl _ _) (Nat.le_refl _) (by simp) ?_; (case hd => rfl); (case hg => rfl); (case hr => first | (go_simp; done) | (go_simp; rfl)); (case hp => exact (Reps.front (show Kd.M k25 _ _ _ (⟨a1_0, a1_1, a1_2, a1_3, a1_4, a1_5, a1_6, a1_7, a1_8, a1_9, a1_10⟩ : S25) [.int .i64 a1_0, .int .i64 a1_1, .int .i64 a1_2, .bool a1_3, .bool a1_4, .bool a1_5, .bool a1_6, .int .i64 a1_7, .int .i64 a1_8, .bool a1_9, .int .i64 a1_10] from (k25_mkM _ _ _ (⟨a1_0, a1_1, a1_2, a1_3, a1_4, a1_5, a1_6, a1_7, a1_8, a1_9, a1_10⟩ : S25) )) rfl (Reps.none _ _) rfl))
                              intro v166 w40 ho41 hb hg_ hnew_
                              clear hg_ hnew_
                              (first | rw [← Ny165.out] at ho41 | (simp only [Int.reduceToNat] at ho41; rw [← Ny165.out] at ho41))
                              have n0_ := Aside0.mk (Kd.R_below (by (with_reducible repeat (first | apply Kd.R_alloc | apply Kd.R_drewN | apply Kd.R_drew)); exact HO156.out) hb)
                              have n1_ := Aside0.mk (Kd.R_elder' (by (with_reducible repeat (first | apply Kd.R_alloc | apply Kd.R_drewN | apply Kd.R_drew)); exact HO164.out) (Kd.R_base ho41) hb)
                              have n2_ := Aside0.mk (Kd.R_lower (Kd.R_newB (Kd.R_new' ho41 (Kd.R_lt (by (with_reducible repeat (first | apply Kd.R_alloc | apply Kd.R_drewN | apply Kd.R_drew)); exact HO164.out))) (g := gb148) (o := .cells #[.int .i64 a1_0, .int .i64 a1_1, .int .i64 a1_2, .bool a1_3, .bool a1_4, .bool a1_5, .bool a1_6, .int .i64 a1_7, .int .i64 a1_8, .bool a1_9, .int .i64 a1_10] 25 (0, 0)) (by (with_reducible repeat (first | refine blk_drewN ?_ _ | refine blk_drew ?_ | refine blk_alloc ?_ _)); exact BK148.out)) (below_size (by repeat (first | (with_reducible first | exact HB.out | apply below_alloc | apply pw_below_drewN | apply below_drew1 | refine below_set ?_ GE148.out) | exact HB.out))))
                              have n3_ := Aside0.mk (blk_below (g := gb148) (o := .cells #[.int .i64 a1_0, .int .i64 a1_1, .int .i64 a1_2, .bool a1_3, .bool a1_4, .bool a1_5, .bool a1_6, .int .i64 a1_7, .int .i64 a1_8, .bool a1_9, .int .i64 a1_10] 25 (0, 0)) (by (with_reducible repeat (first | refine blk_drewN ?_ _ | refine blk_drew ?_ | refine blk_alloc ?_ _)); exact BK148.out) hb)
                              have n4_ := Aside0.mk (below_step (by repeat (first | (with_reducible first | exact HB.out | apply below_alloc | apply pw_below_drewN | apply below_drew1 | refine below_set ?_ GE148.out) | exact HB.out)) hb)
                              clear HO156
                              clear HO164
                              clear BK148
                              clear HB
                              have HO156 := n0_
                              have HO164 := n1_
                              have HO167 := n2_
                              have BK148 := n3_
                              have HB := n4_
                              clear n0_ n1_ n2_ n3_ n4_
                              clear hb ho41
                              refine hK.out _ _ ⟨(blk_cell BK148.out 0).trans rfl, (blk_cell BK148.out 1).trans rfl, (blk_cell BK148.out 2).trans rfl, (blk_cell BK148.out 3).trans rfl, (blk_cell BK148.out 4).trans rfl, (blk_cell BK148.out 5).trans rfl, (blk_cell BK148.out 6).trans rfl, (blk_cell BK148.out 7).trans rfl, (blk_cell BK148.out 8).trans rfl, (blk_cell BK148.out 9).trans rfl, (blk_cell BK148.out 10).trans rfl⟩ (fun hHeld => ?_)
                              clear hK K
                              refine norm_ (a' := ?_) ?_ ?_
                              rotate_left
                              · show Act.put _ (some 87) _ = _
                                simp only [Act.put, List.setIfInBounds_toArray, List.set_cons_zero, List.set_cons_succ, i64_w, i32_w]
                                rfl
                              exact norm_ (by simp only [putAll, Act.put, List.setIfInBounds_toArray, List.set_cons_zero, List.set_cons_succ]) (hCont (v160, v163, v166) _ ⟨hHeld, (by (with_reducible repeat (first | apply Kd.R_alloc | apply Kd.R_drewN | apply Kd.R_drew)); exact HO156.out), (by (with_reducible repeat (first | apply Kd.R_alloc | apply Kd.R_drewN | apply Kd.R_drew)); exact Kd.R_mono HO164.out (fun _ hk => ⟨hk.2, hk.1⟩)), (by (with_reducible repeat (first | apply Kd.R_alloc | apply Kd.R_drewN | apply Kd.R_drew)); exact Kd.R_mono HO167.out (fun _ hk => ⟨hk.1.2, hk.2⟩)), (by (with_reducible repeat (first | refine blk_drewN ?_ _ | refine blk_drew ?_ | refine blk_alloc ?_ _)); exact BK148.out), (by repeat (first | (with_reducible first | exact HB.out | apply below_alloc | apply pw_below_drewN | apply below_drew1 | refine below_set ?_ GE148.out) | exact HB.out))⟩)
                            · skip
                              refine Kd.R_lit_step k25 _ 25 ?hg (N := 87) ?hd (xs := ([(⟨a1_0, a1_1, a1_2, a1_3, a1_4, a1_5, a1_6, a1_7, a1_8, a1_9, a1_10⟩ : S25)] : List (S25))) (inner := [.int .i64 a1_0, .int .i64 a1_1, .int .i64 a1_2, .bool a1_3, .bool a1_4, .bool a1_5, .bool a1_6, .int .i64 a1_7, .int .i64 a1_8, .bool a1_9, .int .i64 a1_10]) (ok := fun _ => True) (okp := fun _ => True) ?hr ?hp (fun _ hk => hk) trivial (Below.refl _ _) (Nat.le_refl _) (by simp) ?_; (case hd => rfl); (case hg => rfl); (case hr => first | (go_simp; done) | (go_simp; rfl)); (case hp => exact (Reps.front (show Kd.M k25 _ _ _ (⟨a1_0, a1_1, a1_2, a1_3, a1_4, a1_5, a1_6, a1_7, a1_8, a1_9, a1_10⟩ : S25) [.int .i64 a1_0, .int .i64 a1_1, .int .i64 a1_2, .bool a1_3, .bool a1_4, .bool a1_5, .bool a1_6, .int .i64 a1_7, .int .i64 a1_8, .bool a1_9, .int .i64 a1_10] from (k25_mkM _ _ _ (⟨a1_0, a1_1, a1_2, a1_3, a1_4, a1_5, a1_6, a1_7, a1_8, a1_9, a1_10⟩ : S25) )) rfl (Reps.none _ _) rfl))
                              intro v166 w39 ho40 hb hg_ hnew_
                              clear hg_ hnew_
                              (first | rw [← Ny165.out] at ho40 | (simp only [Int.reduceToNat] at ho40; rw [← Ny165.out] at ho40))
                              have n0_ := Aside0.mk (Kd.R_below (by (with_reducible repeat (first | apply Kd.R_alloc | apply Kd.R_drewN | apply Kd.R_drew)); exact HO156.out) hb)
                              have n1_ := Aside0.mk (Kd.R_elder' (by (with_reducible repeat (first | apply Kd.R_alloc | apply Kd.R_drewN | apply Kd.R_drew)); exact HO161.out) (Kd.R_base ho40) hb)
                              have n2_ := Aside0.mk (Kd.R_lower (Kd.R_newB (Kd.R_new' ho40 (Kd.R_lt (by (with_reducible repeat (first | apply Kd.R_alloc | apply Kd.R_drewN | apply Kd.R_drew)); exact HO161.out))) (g := gb148) (o := .cells #[.int .i64 a1_0, .int .i64 a1_1, .int .i64 a1_2, .bool a1_3, .bool a1_4, .bool a1_5, .bool a1_6, .int .i64 a1_7, .int .i64 a1_8, .bool a1_9, .int .i64 a1_10] 25 (0, 0)) (by (with_reducible repeat (first | refine blk_drewN ?_ _ | refine blk_drew ?_ | refine blk_alloc ?_ _)); exact BK148.out)) (below_size (by repeat (first | (with_reducible first | exact HB.out | apply below_alloc | apply pw_below_drewN | apply below_drew1 | refine below_set ?_ GE148.out) | exact HB.out))))
                              have n3_ := Aside0.mk (blk_below (g := gb148) (o := .cells #[.int .i64 a1_0, .int .i64 a1_1, .int .i64 a1_2, .bool a1_3, .bool a1_4, .bool a1_5, .bool a1_6, .int .i64 a1_7, .int .i64 a1_8, .bool a1_9, .int .i64 a1_10] 25 (0, 0)) (by (with_reducible repeat (first | refine blk_drewN ?_ _ | refine blk_drew ?_ | refine blk_alloc ?_ _)); exact BK148.out) hb)
                              have n4_ := Aside0.mk (below_step (by repeat (first | (with_reducible first | exact HB.out | apply below_alloc | apply pw_below_drewN | apply below_drew1 | refine below_set ?_ GE148.out) | exact HB.out)) hb)
                              clear HO156
                              clear HO161
                              clear BK148
                              clear HB
                              have HO156 := n0_
                              have HO161 := n1_
                              have HO167 := n2_
                              have BK148 := n3_
                              have HB := n4_
                              clear n0_ n1_ n2_ n3_ n4_
                              clear hb ho40
                              refine hK.out _ _ ⟨(blk_cell BK148.out 0).trans rfl, (blk_cell BK148.out 1).trans rfl, (blk_cell BK148.out 2).trans rfl, (blk_cell BK148.out 3).trans rfl, (blk_cell BK148.out 4).trans rfl, (blk_cell BK148.out 5).trans rfl, (blk_cell BK148.out 6).trans rfl, (blk_cell BK148.out 7).trans rfl, (blk_cell BK148.out 8).trans rfl, (blk_cell BK148.out 9).trans rfl, (blk_cell BK148.out 10).trans rfl⟩ (fun hHeld => ?_)
                              clear hK K
                              refine norm_ (a' := ?_) ?_ ?_
                              rotate_left
                              · show Act.put _ (some 87) _ = _
                                simp only [Act.put, List.setIfInBounds_toArray, List.set_cons_zero, List.set_cons_succ, i64_w, i32_w]
                                rfl
                              refine one_ (i := 2) (N := some 85) #[true, true, true, true, true, false, false, true, true, false, false, false, false, false, false] rfl rfl (one_of HT_.out (by kernel_rfl)) (by decide) (fun K hK => ?_)
                              refine Kd.R_append_rows_step k25 (w0 := w) w.heap.size (by rfl) (.tmp 83) (.tmp 84) 22 25 (.agg #[(.int .i64 0), (.int .i64 0), (.int .i64 0), (.bool false), (.bool false), (.bool false), (.bool false), (.int .i64 0), (.int .i64 0), (.bool false), (.int .i64 0)]) 64 rfl Try.underlying22 info25 rfl (by decide) (by omega) v160 y159 l0 _ _ _ (fun k_ => some k_ ≠ (v166 : Value).ownBlock ∧ k_ ≠ gb148) (fun _ => False) rfl rfl ?aO ?aR (fun _ _ h => h) (fun _ h => h.elim) ?aF ?aB ?aS ?aL ?_
                              (case aR => repeat (first | exact (Kd.C_below HR0.out HB.out) | (with_reducible refine Kd.C_alloc ?_ _) | (with_reducible refine Kd.C_drewN ?_ _) | (with_reducible refine Kd.C_drew ?_)))
                              (case aB => exact (by repeat (first | (with_reducible first | exact HB.out | apply below_alloc | apply pw_below_drewN | apply below_drew1 | refine below_set ?_ GE148.out) | exact HB.out)))
                              (case aF => exact (fun k_ hk => ⟨Kd.fresh' (Kd.R_lt (by (with_reducible repeat (first | apply Kd.R_alloc | apply Kd.R_drewN | apply Kd.R_drew)); exact HO167.out)) k_ hk, Kd.freshB (g := gb148) (o := .cells #[.int .i64 a1_0, .int .i64 a1_1, .int .i64 a1_2, .bool a1_3, .bool a1_4, .bool a1_5, .bool a1_6, .int .i64 a1_7, .int .i64 a1_8, .bool a1_9, .int .i64 a1_10] 25 (0, 0)) (by (with_reducible repeat (first | refine blk_drewN ?_ _ | refine blk_drew ?_ | refine blk_alloc ?_ _)); exact BK148.out) k_ hk⟩))
                              (case aO => exact (by (with_reducible repeat (first | apply Kd.R_alloc | apply Kd.R_drewN | apply Kd.R_drew)); exact Kd.R_mono HO161.out (fun _ hk => ⟨hk.2, hk.1.2⟩)))
                              (case aS => exact (below_size (by repeat (first | (with_reducible first | exact HB.out | apply below_alloc | apply pw_below_drewN | apply below_drew1 | refine below_set ?_ GE148.out) | exact HB.out))))
                              (case aL => have := LMc26.out; omega)
                              intro v163 w41 ho hb hg hat
                              rw [← Ny162.out] at ho
                              have n0_ := Aside0.mk (blk_grown (g := gb148) (o := .cells #[.int .i64 a1_0, .int .i64 a1_1, .int .i64 a1_2, .bool a1_3, .bool a1_4, .bool a1_5, .bool a1_6, .int .i64 a1_7, .int .i64 a1_8, .bool a1_9, .int .i64 a1_10] 25 (0, 0)) (by (with_reducible repeat (first | refine blk_drewN ?_ _ | refine blk_drew ?_ | refine blk_alloc ?_ _)); exact BK148.out) hg (Kd.R_away HO161.out (fun _ hk => hk.1.2)))
                              have n1_ := Aside0.mk (Kd.R_over' (by (with_reducible repeat (first | apply Kd.R_alloc | apply Kd.R_drewN | apply Kd.R_drew)); exact HO156.out) (Kd.R_typed (by (with_reducible repeat (first | apply Kd.R_alloc | apply Kd.R_drewN | apply Kd.R_drew)); exact HO161.out)) (by decide) hg)
                              have n2_ := Aside0.mk (Kd.R_after (ok := (fun k_ => k_ ≠ gb148)) (by (with_reducible repeat (first | apply Kd.R_alloc | apply Kd.R_drewN | apply Kd.R_drew)); exact Kd.R_mono HO167.out (fun _ hk => ⟨hk.2, hk.1.2⟩)) hg hat)
                              have n3_ := Aside0.mk (hb)
                              have n4_ := Aside0.mk (ho)
                              clear BK148
                              clear HO156
                              clear HO167
                              clear HB
                              clear HO161
                              have BK148 := n0_
                              have HO156 := n1_
                              have HO167 := n2_
                              have HB := n3_
                              have HO164 := n4_
                              clear n0_ n1_ n2_ n3_ n4_
                              clear ho hb hg hat
                              refine hK.out _ _ ⟨(blk_cell BK148.out 0).trans rfl, (blk_cell BK148.out 1).trans rfl, (blk_cell BK148.out 2).trans rfl, (blk_cell BK148.out 3).trans rfl, (blk_cell BK148.out 4).trans rfl, (blk_cell BK148.out 5).trans rfl, (blk_cell BK148.out 6).trans rfl, (blk_cell BK148.out 7).trans rfl, (blk_cell BK148.out 8).trans rfl, (blk_cell BK148.out 9).trans rfl, (blk_cell BK148.out 10).trans rfl⟩ (fun hHeld => ?_)
                              clear hK K
                              refine norm_ (a' := ?_) ?_ ?_
                              rotate_left
                              · show Act.put _ (some 85) _ = _
                                simp only [Act.put, List.setIfInBounds_toArray, List.set_cons_zero, List.set_cons_succ, i64_w, i32_w]
                                rfl
                              exact norm_ (by simp only [putAll, Act.put, List.setIfInBounds_toArray, List.set_cons_zero, List.set_cons_succ]) (hCont (v160, v163, v166) _ ⟨hHeld, (by (with_reducible repeat (first | apply Kd.R_alloc | apply Kd.R_drewN | apply Kd.R_drew)); exact HO156.out), (by (with_reducible repeat (first | apply Kd.R_alloc | apply Kd.R_drewN | apply Kd.R_drew)); exact HO164.out), (by (with_reducible repeat (first | apply Kd.R_alloc | apply Kd.R_drewN | apply Kd.R_drew)); exact Kd.R_mono HO167.out (fun _ hk => ⟨hk.2, hk.1⟩)), (by (with_reducible repeat (first | refine blk_drewN ?_ _ | refine blk_drew ?_ | refine blk_alloc ?_ _)); exact BK148.out), (by repeat (first | (with_reducible first | exact HB.out | apply below_alloc | apply pw_below_drewN | apply below_drew1 | refine below_set ?_ GE148.out) | exact HB.out))⟩)
                          · skip
                            refine Kd.R_lit_step k25 _ 25 ?hg (N := 87) ?hd (xs := ([(⟨a1_0, a1_1, a1_2, a1_3, a1_4, a1_5, a1_6, a1_7, a1_8, a1_9, a1_10⟩ : S25)] : List (S25))) (inner := [.int .i64 a1_0, .int .i64 a1_1, .int .i64 a1_2, .bool a1_3, .bool a1_4, .bool a1_5, .bool a1_6, .int .i64 a1_7, .int .i64 a1_8, .bool a1_9, .int .i64 a1_10]) (ok := fun _ => True) (okp := fun _ => True) ?hr ?hp (fun _ hk => hk) trivial (Below.refl _ _) (Nat.le_refl _) (by simp) ?_; (case hd => rfl); (case hg => rfl); (case hr => first | (go_simp; done) | (go_simp; rfl)); (case hp => exact (Reps.front (show Kd.M k25 _ _ _ (⟨a1_0, a1_1, a1_2, a1_3, a1_4, a1_5, a1_6, a1_7, a1_8, a1_9, a1_10⟩ : S25) [.int .i64 a1_0, .int .i64 a1_1, .int .i64 a1_2, .bool a1_3, .bool a1_4, .bool a1_5, .bool a1_6, .int .i64 a1_7, .int .i64 a1_8, .bool a1_9, .int .i64 a1_10] from (k25_mkM _ _ _ (⟨a1_0, a1_1, a1_2, a1_3, a1_4, a1_5, a1_6, a1_7, a1_8, a1_9, a1_10⟩ : S25) )) rfl (Reps.none _ _) rfl))
                            intro v166 w37 ho38 hb hg_ hnew_
                            clear hg_ hnew_
                            (first | rw [← Ny165.out] at ho38 | (simp only [Int.reduceToNat] at ho38; rw [← Ny165.out] at ho38))
                            have n0_ := Aside0.mk (Kd.R_below (by (with_reducible repeat (first | apply Kd.R_alloc | apply Kd.R_drewN | apply Kd.R_drew)); exact HO156.out) hb)
                            have n1_ := Aside0.mk (Kd.R_lower (Kd.R_newB ho38 (g := gb148) (o := .cells #[.int .i64 a1_0, .int .i64 a1_1, .int .i64 a1_2, .bool a1_3, .bool a1_4, .bool a1_5, .bool a1_6, .int .i64 a1_7, .int .i64 a1_8, .bool a1_9, .int .i64 a1_10] 25 (0, 0)) (by (with_reducible repeat (first | refine blk_drewN ?_ _ | refine blk_drew ?_ | refine blk_alloc ?_ _)); exact BK148.out)) (below_size (by repeat (first | (with_reducible first | exact HB.out | apply below_alloc | apply pw_below_drewN | apply below_drew1 | refine below_set ?_ GE148.out) | exact HB.out))))
                            have n2_ := Aside0.mk (blk_below (g := gb148) (o := .cells #[.int .i64 a1_0, .int .i64 a1_1, .int .i64 a1_2, .bool a1_3, .bool a1_4, .bool a1_5, .bool a1_6, .int .i64 a1_7, .int .i64 a1_8, .bool a1_9, .int .i64 a1_10] 25 (0, 0)) (by (with_reducible repeat (first | refine blk_drewN ?_ _ | refine blk_drew ?_ | refine blk_alloc ?_ _)); exact BK148.out) hb)
                            have n3_ := Aside0.mk (below_step (by repeat (first | (with_reducible first | exact HB.out | apply below_alloc | apply pw_below_drewN | apply below_drew1 | refine below_set ?_ GE148.out) | exact HB.out)) hb)
                            clear HO156
                            clear BK148
                            clear HB
                            have HO156 := n0_
                            have HO167 := n1_
                            have BK148 := n2_
                            have HB := n3_
                            clear n0_ n1_ n2_ n3_
                            clear hb ho38
                            refine hK.out _ _ ⟨(blk_cell BK148.out 0).trans rfl, (blk_cell BK148.out 1).trans rfl, (blk_cell BK148.out 2).trans rfl, (blk_cell BK148.out 3).trans rfl, (blk_cell BK148.out 4).trans rfl, (blk_cell BK148.out 5).trans rfl, (blk_cell BK148.out 6).trans rfl, (blk_cell BK148.out 7).trans rfl, (blk_cell BK148.out 8).trans rfl, (blk_cell BK148.out 9).trans rfl, (blk_cell BK148.out 10).trans rfl⟩ (fun hHeld => ?_)
                            clear hK K
                            refine norm_ (a' := ?_) ?_ ?_
                            rotate_left
                            · show Act.put _ (some 87) _ = _
                              simp only [Act.put, List.setIfInBounds_toArray, List.set_cons_zero, List.set_cons_succ, i64_w, i32_w]
                              rfl
                            refine one_ (i := 0) (N := some 83) #[true, true, false, true, true, false, false, true, true, false, false, false, false, false, false] rfl rfl (one_of HT_.out (by kernel_rfl)) (by decide) (fun K hK => ?_)
                            refine Kd.R_lit_step k25 _ 25 ?hg (N := 83) ?hd (xs := ([] : List (S25))) (inner := []) (ok := fun _ => True) (okp := fun _ => True) ?hr ?hp (fun _ hk => hk) trivial (Below.refl _ _) (Nat.le_refl _) (by simp) ?_; (case hd => rfl); (case hg => rfl); (case hr => first | (go_simp; done) | (go_simp; rfl)); (case hp => exact (Reps.none _ _))
                            intro v160 w39 ho40 hb hg_ hnew_
                            clear hg_ hnew_
                            (first | rw [← Ny159.out] at ho40 | (simp only [Int.reduceToNat] at ho40; rw [← Ny159.out] at ho40))
                            have n0_ := Aside0.mk (Kd.R_below (by (with_reducible repeat (first | apply Kd.R_alloc | apply Kd.R_drewN | apply Kd.R_drew)); exact HO156.out) hb)
                            have n1_ := Aside0.mk (Kd.R_elder' (by (with_reducible repeat (first | apply Kd.R_alloc | apply Kd.R_drewN | apply Kd.R_drew)); exact HO167.out) (Kd.R_base ho40) hb)
                            have n2_ := Aside0.mk (Kd.R_lower (Kd.R_newB (Kd.R_new' ho40 (Kd.R_lt (by (with_reducible repeat (first | apply Kd.R_alloc | apply Kd.R_drewN | apply Kd.R_drew)); exact HO167.out))) (g := gb148) (o := .cells #[.int .i64 a1_0, .int .i64 a1_1, .int .i64 a1_2, .bool a1_3, .bool a1_4, .bool a1_5, .bool a1_6, .int .i64 a1_7, .int .i64 a1_8, .bool a1_9, .int .i64 a1_10] 25 (0, 0)) (by (with_reducible repeat (first | refine blk_drewN ?_ _ | refine blk_drew ?_ | refine blk_alloc ?_ _)); exact BK148.out)) (below_size (by repeat (first | (with_reducible first | exact HB.out | apply below_alloc | apply pw_below_drewN | apply below_drew1 | refine below_set ?_ GE148.out) | exact HB.out))))
                            have n3_ := Aside0.mk (blk_below (g := gb148) (o := .cells #[.int .i64 a1_0, .int .i64 a1_1, .int .i64 a1_2, .bool a1_3, .bool a1_4, .bool a1_5, .bool a1_6, .int .i64 a1_7, .int .i64 a1_8, .bool a1_9, .int .i64 a1_10] 25 (0, 0)) (by (with_reducible repeat (first | refine blk_drewN ?_ _ | refine blk_drew ?_ | refine blk_alloc ?_ _)); exact BK148.out) hb)
                            have n4_ := Aside0.mk (below_step (by repeat (first | (with_reducible first | exact HB.out | apply below_alloc | apply pw_below_drewN | apply below_drew1 | refine below_set ?_ GE148.out) | exact HB.out)) hb)
                            clear HO156
                            clear HO167
                            clear BK148
                            clear HB
                            have HO156 := n0_
                            have HO167 := n1_
                            have HO161 := n2_
                            have BK148 := n3_
                            have HB := n4_
                            clear n0_ n1_ n2_ n3_ n4_
                            clear hb ho40
                            refine hK.out _ _ ⟨(blk_cell BK148.out 0).trans rfl, (blk_cell BK148.out 1).trans rfl, (blk_cell BK148.out 2).trans rfl, (blk_cell BK148.out 3).trans rfl, (blk_cell BK148.out 4).trans rfl, (blk_cell BK148.out 5).trans rfl, (blk_cell BK148.out 6).trans rfl, (blk_cell BK148.out 7).trans rfl, (blk_cell BK148.out 8).trans rfl, (blk_cell BK148.out 9).trans rfl, (blk_cell BK148.out 10).trans rfl⟩ (fun hHeld => ?_)
                            clear hK K
                            refine norm_ (a' := ?_) ?_ ?_
                            rotate_left
                            · show Act.put _ (some 83) _ = _
                              simp only [Act.put, List.setIfInBounds_toArray, List.set_cons_zero, List.set_cons_succ, i64_w, i32_w]
                              rfl
                            refine one_ (i := 2) (N := some 85) #[true, true, true, true, true, false, false, true, true, false, false, false, false, false, false] rfl rfl (one_of HT_.out (by kernel_rfl)) (by decide) (fun K hK => ?_)
                            refine Kd.R_append_rows_step k25 (w0 := w) w.heap.size (by rfl) (.tmp 83) (.tmp 84) 22 25 (.agg #[(.int .i64 0), (.int .i64 0), (.int .i64 0), (.bool false), (.bool false), (.bool false), (.bool false), (.int .i64 0), (.int .i64 0), (.bool false), (.int .i64 0)]) 64 rfl Try.underlying22 info25 rfl (by decide) (by omega) v160 y159 l0 _ _ _ (fun k_ => some k_ ≠ (v166 : Value).ownBlock ∧ k_ ≠ gb148) (fun _ => False) rfl rfl ?aO ?aR (fun _ _ h => h) (fun _ h => h.elim) ?aF ?aB ?aS ?aL ?_
                            (case aR => repeat (first | exact (Kd.C_below HR0.out HB.out) | (with_reducible refine Kd.C_alloc ?_ _) | (with_reducible refine Kd.C_drewN ?_ _) | (with_reducible refine Kd.C_drew ?_)))
                            (case aB => exact (by repeat (first | (with_reducible first | exact HB.out | apply below_alloc | apply pw_below_drewN | apply below_drew1 | refine below_set ?_ GE148.out) | exact HB.out)))
                            (case aF => exact (fun k_ hk => ⟨Kd.fresh' (Kd.R_lt (by (with_reducible repeat (first | apply Kd.R_alloc | apply Kd.R_drewN | apply Kd.R_drew)); exact HO167.out)) k_ hk, Kd.freshB (g := gb148) (o := .cells #[.int .i64 a1_0, .int .i64 a1_1, .int .i64 a1_2, .bool a1_3, .bool a1_4, .bool a1_5, .bool a1_6, .int .i64 a1_7, .int .i64 a1_8, .bool a1_9, .int .i64 a1_10] 25 (0, 0)) (by (with_reducible repeat (first | refine blk_drewN ?_ _ | refine blk_drew ?_ | refine blk_alloc ?_ _)); exact BK148.out) k_ hk⟩))
                            (case aO => exact (by (with_reducible repeat (first | apply Kd.R_alloc | apply Kd.R_drewN | apply Kd.R_drew)); exact Kd.R_mono HO161.out (fun _ hk => ⟨hk.1.2, hk.2⟩)))
                            (case aS => exact (below_size (by repeat (first | (with_reducible first | exact HB.out | apply below_alloc | apply pw_below_drewN | apply below_drew1 | refine below_set ?_ GE148.out) | exact HB.out))))
                            (case aL => have := LMc26.out; omega)
                            intro v163 w41 ho hb hg hat
                            rw [← Ny162.out] at ho
                            have n0_ := Aside0.mk (blk_grown (g := gb148) (o := .cells #[.int .i64 a1_0, .int .i64 a1_1, .int .i64 a1_2, .bool a1_3, .bool a1_4, .bool a1_5, .bool a1_6, .int .i64 a1_7, .int .i64 a1_8, .bool a1_9, .int .i64 a1_10] 25 (0, 0)) (by (with_reducible repeat (first | refine blk_drewN ?_ _ | refine blk_drew ?_ | refine blk_alloc ?_ _)); exact BK148.out) hg (Kd.R_away HO161.out (fun _ hk => hk.2)))
                            have n1_ := Aside0.mk (Kd.R_over' (by (with_reducible repeat (first | apply Kd.R_alloc | apply Kd.R_drewN | apply Kd.R_drew)); exact HO156.out) (Kd.R_typed (by (with_reducible repeat (first | apply Kd.R_alloc | apply Kd.R_drewN | apply Kd.R_drew)); exact HO161.out)) (by decide) hg)
                            have n2_ := Aside0.mk (Kd.R_after (ok := (fun k_ => k_ ≠ gb148)) (by (with_reducible repeat (first | apply Kd.R_alloc | apply Kd.R_drewN | apply Kd.R_drew)); exact Kd.R_mono HO167.out (fun _ hk => ⟨hk.1.2, hk.2⟩)) hg hat)
                            have n3_ := Aside0.mk (hb)
                            have n4_ := Aside0.mk (ho)
                            clear BK148
                            clear HO156
                            clear HO167
                            clear HB
                            clear HO161
                            have BK148 := n0_
                            have HO156 := n1_
                            have HO167 := n2_
                            have HB := n3_
                            have HO164 := n4_
                            clear n0_ n1_ n2_ n3_ n4_
                            clear ho hb hg hat
                            refine hK.out _ _ ⟨(blk_cell BK148.out 0).trans rfl, (blk_cell BK148.out 1).trans rfl, (blk_cell BK148.out 2).trans rfl, (blk_cell BK148.out 3).trans rfl, (blk_cell BK148.out 4).trans rfl, (blk_cell BK148.out 5).trans rfl, (blk_cell BK148.out 6).trans rfl, (blk_cell BK148.out 7).trans rfl, (blk_cell BK148.out 8).trans rfl, (blk_cell BK148.out 9).trans rfl, (blk_cell BK148.out 10).trans rfl⟩ (fun hHeld => ?_)
                            clear hK K
                            refine norm_ (a' := ?_) ?_ ?_
                            rotate_left
                            · show Act.put _ (some 85) _ = _
                              simp only [Act.put, List.setIfInBounds_toArray, List.set_cons_zero, List.set_cons_succ, i64_w, i32_w]
                              rfl
                            exact norm_ (by simp only [putAll, Act.put, List.setIfInBounds_toArray, List.set_cons_zero, List.set_cons_succ]) (hCont (v160, v163, v166) _ ⟨hHeld, (by (with_reducible repeat (first | apply Kd.R_alloc | apply Kd.R_drewN | apply Kd.R_drew)); exact HO156.out), (by (with_reducible repeat (first | apply Kd.R_alloc | apply Kd.R_drewN | apply Kd.R_drew)); exact HO164.out), (by (with_reducible repeat (first | apply Kd.R_alloc | apply Kd.R_drewN | apply Kd.R_drew)); exact Kd.R_mono HO167.out (fun _ hk => ⟨hk.2, hk.1⟩)), (by (with_reducible repeat (first | refine blk_drewN ?_ _ | refine blk_drew ?_ | refine blk_alloc ?_ _)); exact BK148.out), (by repeat (first | (with_reducible first | exact HB.out | apply below_alloc | apply pw_below_drewN | apply below_drew1 | refine below_set ?_ GE148.out) | exact HB.out))⟩)
                        rintro ⟨v160, v163, v166⟩ w42 ⟨hS_, h0_, h1_, h2_, h3_, h4_⟩
                        have n0_ : Aside0 (Kd.R k37 37 w42 w.heap.size (fun _ => True) (.slice Ao34 t154.length co34) t154) := ⟨h0_⟩
                        have n1_ : Aside0 (Kd.R k25 25 w42 w.heap.size (fun k_ => some k_ ≠ (v166 : Value).ownBlock ∧ k_ ≠ gb148) v163 y162) := ⟨h1_⟩
                        have n2_ : Aside0 (Kd.R k25 25 w42 w.heap.size (fun k_ => some k_ ≠ (v163 : Value).ownBlock ∧ k_ ≠ gb148) v166 y165) := ⟨h2_⟩
                        have n3_ : Aside0 (w42.heap[gb148]? = some (.cells #[.int .i64 a1_0, .int .i64 a1_1, .int .i64 a1_2, .bool a1_3, .bool a1_4, .bool a1_5, .bool a1_6, .int .i64 a1_7, .int .i64 a1_8, .bool a1_9, .int .i64 a1_10] 25 (0, 0))) := ⟨h3_⟩
                        have n4_ : Aside0 (Below w.heap.size w w42) := ⟨h4_⟩
                        clear HO156
                        clear BK148
                        clear HB
                        clear h0_ h1_ h2_ h3_ h4_
                        have HO156 := n0_
                        have HO164 := n1_
                        have HO167 := n2_
                        have BK148 := n3_
                        have HB := n4_
                        clear n0_ n1_ n2_ n3_ n4_
                        have hHeld : w42.cell? ⟨gb148, 0, none⟩ = some (.int .i64 a1_0) ∧ w42.cell? ⟨gb148, 1, none⟩ = some (.int .i64 a1_1) ∧ w42.cell? ⟨gb148, 2, none⟩ = some (.int .i64 a1_2) ∧ w42.cell? ⟨gb148, 3, none⟩ = some (.bool a1_3) ∧ w42.cell? ⟨gb148, 4, none⟩ = some (.bool a1_4) ∧ w42.cell? ⟨gb148, 5, none⟩ = some (.bool a1_5) ∧ w42.cell? ⟨gb148, 6, none⟩ = some (.bool a1_6) ∧ w42.cell? ⟨gb148, 7, none⟩ = some (.int .i64 a1_7) ∧ w42.cell? ⟨gb148, 8, none⟩ = some (.int .i64 a1_8) ∧ w42.cell? ⟨gb148, 9, none⟩ = some (.bool a1_9) ∧ w42.cell? ⟨gb148, 10, none⟩ = some (.int .i64 a1_10) := hS_
                        obtain ⟨Ao44, co44, eo44⟩ := Kd.R_slice HO167.out
                        (first | subst eo44 | (injection eo44 with f1_ f2_ f3_; have f4_ := f1_.symm; have f5_ := f3_.symm; clear f1_ f2_ f3_; subst f4_; subst f5_))
                        refine norm_ (a' := ?_) ?_ ?_
                        rotate_left
                        · simp only [putAll, Act.put, List.setIfInBounds_toArray, List.set_cons_zero, List.set_cons_succ]
                          rfl
                        refine one_ (i := 5) (N := some 88) #[true, true, true, true, true, true, false, true, true, false, false, false, false, false, false] rfl rfl (one_of HT_.out (by kernel_rfl)) (by decide) (fun K hK => ?_)
                        refine Kd.R_append_rows_step k25 (w0 := w) w.heap.size (by rfl) (.tmp 85) (.tmp 87) 22 25 (.agg #[(.int .i64 0), (.int .i64 0), (.int .i64 0), (.bool false), (.bool false), (.bool false), (.bool false), (.int .i64 0), (.int .i64 0), (.bool false), (.int .i64 0)]) 64 rfl Try.underlying22 info25 rfl (by decide) (by omega) v163 y162 y165 _ _ _ (fun k_ => some k_ ≠ (.slice Ao44 y165.length co44 : Value).ownBlock ∧ k_ ≠ gb148) (fun _ => False) rfl rfl ?aO ?aR (fun _ _ h => h) (fun _ h => h.elim) ?aF ?aB ?aS ?aL ?_
                        (case aR => repeat (first | exact (Kd.R_reads' HO167.out).2.2 | (with_reducible refine Kd.C_alloc ?_ _) | (with_reducible refine Kd.C_drewN ?_ _) | (with_reducible refine Kd.C_drew ?_)))
                        (case aB => exact (by repeat (first | (with_reducible first | exact HB.out | apply below_alloc | apply pw_below_drewN | apply below_drew1 | refine below_set ?_ GE148.out) | exact HB.out)))
                        (case aF => exact (fun k_ hk => ⟨Kd.fresh' (Kd.R_lt (by (with_reducible repeat (first | apply Kd.R_alloc | apply Kd.R_drewN | apply Kd.R_drew)); exact HO167.out)) k_ hk, Kd.freshB (g := gb148) (o := .cells #[.int .i64 a1_0, .int .i64 a1_1, .int .i64 a1_2, .bool a1_3, .bool a1_4, .bool a1_5, .bool a1_6, .int .i64 a1_7, .int .i64 a1_8, .bool a1_9, .int .i64 a1_10] 25 (0, 0)) (by (with_reducible repeat (first | refine blk_drewN ?_ _ | refine blk_drew ?_ | refine blk_alloc ?_ _)); exact BK148.out) k_ hk⟩))
                        (case aO => exact (by (with_reducible repeat (first | apply Kd.R_alloc | apply Kd.R_drewN | apply Kd.R_drew)); exact HO164.out))
                        (case aS => exact (below_size (by repeat (first | (with_reducible first | exact HB.out | apply below_alloc | apply pw_below_drewN | apply below_drew1 | refine below_set ?_ GE148.out) | exact HB.out))))
                        (case aL => have := LMc27.out; omega)
                        intro v169 w43 ho hb hg hat
                        rw [← Ny168.out] at ho
                        have n0_ := Aside0.mk (blk_grown (g := gb148) (o := .cells #[.int .i64 a1_0, .int .i64 a1_1, .int .i64 a1_2, .bool a1_3, .bool a1_4, .bool a1_5, .bool a1_6, .int .i64 a1_7, .int .i64 a1_8, .bool a1_9, .int .i64 a1_10] 25 (0, 0)) (by (with_reducible repeat (first | refine blk_drewN ?_ _ | refine blk_drew ?_ | refine blk_alloc ?_ _)); exact BK148.out) hg (Kd.R_away HO164.out (fun _ hk => hk.2)))
                        have n1_ := Aside0.mk (Kd.R_over' (by (with_reducible repeat (first | apply Kd.R_alloc | apply Kd.R_drewN | apply Kd.R_drew)); exact HO156.out) (Kd.R_typed (by (with_reducible repeat (first | apply Kd.R_alloc | apply Kd.R_drewN | apply Kd.R_drew)); exact HO164.out)) (by decide) hg)
                        have n2_ := Aside0.mk (Kd.R_after (ok := (fun k_ => k_ ≠ gb148)) (by (with_reducible repeat (first | apply Kd.R_alloc | apply Kd.R_drewN | apply Kd.R_drew)); exact Kd.R_mono HO167.out (fun _ hk => ⟨hk.2, hk.1⟩)) hg hat)
                        have n3_ := Aside0.mk (hb)
                        have n4_ := Aside0.mk (ho)
                        clear BK148
                        clear HO156
                        clear HO167
                        clear HB
                        clear HO164
                        have BK148 := n0_
                        have HO156 := n1_
                        have HO167 := n2_
                        have HB := n3_
                        have HO170 := n4_
                        clear n0_ n1_ n2_ n3_ n4_
                        clear ho hb hg hat
                        obtain ⟨Ao45, co45, eo45⟩ := Kd.R_slice HO170.out
                        (first | subst eo45 | (injection eo45 with f1_ f2_ f3_; have f4_ := f1_.symm; have f5_ := f3_.symm; clear f1_ f2_ f3_; subst f4_; subst f5_))
                        refine hK.out _ _ ⟨(blk_cell BK148.out 0).trans rfl, (blk_cell BK148.out 1).trans rfl, (blk_cell BK148.out 2).trans rfl, (blk_cell BK148.out 3).trans rfl, (blk_cell BK148.out 4).trans rfl, (blk_cell BK148.out 5).trans rfl, (blk_cell BK148.out 6).trans rfl, (blk_cell BK148.out 7).trans rfl, (blk_cell BK148.out 8).trans rfl, (blk_cell BK148.out 9).trans rfl, (blk_cell BK148.out 10).trans rfl⟩ (fun hHeld => ?_)
                        clear hK K
                        refine norm_ (a' := ?_) ?_ ?_
                        rotate_left
                        · show Act.put _ (some 88) _ = _
                          simp only [Act.put, List.setIfInBounds_toArray, List.set_cons_zero, List.set_cons_succ, i64_w, i32_w]
                          rfl
                        refine one_ (i := 6) (N := some 89) #[true, true, true, true, true, true, true, true, true, false, false, false, false, false, false] rfl rfl (one_of HT_.out (by kernel_rfl)) (by decide) (fun K hK => ?_)
                        refine goes_ Try.func10 (by kernel_rfl) rfl #[.slice Ao45 y168.length co45] (by rfl) rfl rfl (by (try simp only [List.map_toArray, List.map_cons, List.map_nil]); first | done | rfl | (simp only [List.length_drop, List.length_take]; rfl)) ?_
                        with_reducible refine (evenhandedlaw12_Rows.calls k2 _ _ y168 t171 _ ?side1 ?side2 A28.out).mono ?_
                        (case side1 => repeat (first | exact (Kd.R_reads' HO170.out).2.2 | (with_reducible refine Kd.C_alloc ?_ _) | (with_reducible refine Kd.C_drewN ?_ _) | (with_reducible refine Kd.C_drew ?_)))
                        (case side2 => exact (Kd.R_reads' HO170.out).2.1)
                        rintro e w46 ⟨v172, rfl, ho0, hb⟩
                        refine ⟨_, rfl, ?_⟩
                        have n0_ := Aside0.mk (Kd.R_elder' (by (with_reducible repeat (first | apply Kd.R_alloc | apply Kd.R_drewN | apply Kd.R_drew)); exact HO156.out) (Kd.R_base ho0) hb)
                        have n1_ := Aside0.mk (Kd.R_below (by (with_reducible repeat (first | apply Kd.R_alloc | apply Kd.R_drewN | apply Kd.R_drew)); exact HO167.out) hb)
                        have n2_ := Aside0.mk (Kd.R_below (by (with_reducible repeat (first | apply Kd.R_alloc | apply Kd.R_drewN | apply Kd.R_drew)); exact HO170.out) hb)
                        have n3_ := Aside0.mk (Kd.R_lower (Kd.R_new' ho0 (Kd.R_lt (by (with_reducible repeat (first | apply Kd.R_alloc | apply Kd.R_drewN | apply Kd.R_drew)); exact HO156.out))) (below_size (by repeat (first | (with_reducible first | exact HB.out | apply below_alloc | apply pw_below_drewN | apply below_drew1 | refine below_set ?_ GE148.out) | exact HB.out))))
                        have n4_ := Aside0.mk (blk_below (g := gb148) (o := .cells #[.int .i64 a1_0, .int .i64 a1_1, .int .i64 a1_2, .bool a1_3, .bool a1_4, .bool a1_5, .bool a1_6, .int .i64 a1_7, .int .i64 a1_8, .bool a1_9, .int .i64 a1_10] 25 (0, 0)) (by (with_reducible repeat (first | refine blk_drewN ?_ _ | refine blk_drew ?_ | refine blk_alloc ?_ _)); exact BK148.out) hb)
                        have n5_ := Aside0.mk (below_step (by repeat (first | (with_reducible first | exact HB.out | apply below_alloc | apply pw_below_drewN | apply below_drew1 | refine below_set ?_ GE148.out) | exact HB.out)) hb)
                        clear HO156
                        clear HO167
                        clear HO170
                        clear BK148
                        clear HB
                        have HO156 := n0_
                        have HO167 := n1_
                        have HO170 := n2_
                        have HO173 := n3_
                        have BK148 := n4_
                        have HB := n5_
                        clear n0_ n1_ n2_ n3_ n4_ n5_
                        (try clear hb)
                        (try clear hb2)
                        (try clear hk)
                        (try clear hi)
                        (try clear ho0)
                        obtain ⟨Ao47, co47, eo47⟩ := Kd.R_slice HO173.out
                        (first | subst eo47 | (injection eo47 with f1_ f2_ f3_; have f4_ := f1_.symm; have f5_ := f3_.symm; clear f1_ f2_ f3_; subst f4_; subst f5_))
                        refine hK.out _ _ ⟨(blk_cell BK148.out 0).trans rfl, (blk_cell BK148.out 1).trans rfl, (blk_cell BK148.out 2).trans rfl, (blk_cell BK148.out 3).trans rfl, (blk_cell BK148.out 4).trans rfl, (blk_cell BK148.out 5).trans rfl, (blk_cell BK148.out 6).trans rfl, (blk_cell BK148.out 7).trans rfl, (blk_cell BK148.out 8).trans rfl, (blk_cell BK148.out 9).trans rfl, (blk_cell BK148.out 10).trans rfl⟩ (fun hHeld => ?_)
                        clear hK K
                        refine norm_ (a' := ?_) ?_ ?_
                        rotate_left
                        · show Act.put _ (some 89) _ = _
                          simp only [Act.put, List.setIfInBounds_toArray, List.set_cons_zero, List.set_cons_succ, i64_w, i32_w]
                          rfl
                        refine one_ (i := 9) (N := some 92) #[true, true, true, true, true, true, true, true, true, true, false, false, false, false, false] rfl rfl (one_of HT_.out (by kernel_rfl)) (by decide) (fun K hK => ?_)
                        refine goes_ Try.func9 (by kernel_rfl) rfl #[.slice Ao47 t171.length co47, .int .i64 (wrap64 (a2))] (by rfl) rfl rfl (by (try simp only [List.map_toArray, List.map_cons, List.map_nil]); first | done | rfl | (simp only [List.length_drop, List.length_take]; rfl)) ?_
                        with_reducible refine (bounds_Next.calls k2 _ _ t171 (wrap64 (a2)) t174 t175 _ ?side1 ?side2 A29.out).mono ?_
                        (case side1 => repeat (first | exact (Kd.R_reads' HO173.out).2.2 | (with_reducible refine Kd.C_alloc ?_ _) | (with_reducible refine Kd.C_drewN ?_ _) | (with_reducible refine Kd.C_drew ?_)))
                        (case side2 => exact (Kd.R_reads' HO173.out).2.1)
                        rintro e w48 ⟨rfl, hb⟩
                        refine ⟨_, rfl, ?_⟩
                        have n0_ := Aside0.mk (Kd.R_below (by (with_reducible repeat (first | apply Kd.R_alloc | apply Kd.R_drewN | apply Kd.R_drew)); exact HO156.out) hb)
                        have n1_ := Aside0.mk (Kd.R_below (by (with_reducible repeat (first | apply Kd.R_alloc | apply Kd.R_drewN | apply Kd.R_drew)); exact HO167.out) hb)
                        have n2_ := Aside0.mk (Kd.R_below (by (with_reducible repeat (first | apply Kd.R_alloc | apply Kd.R_drewN | apply Kd.R_drew)); exact HO170.out) hb)
                        have n3_ := Aside0.mk (Kd.R_below (by (with_reducible repeat (first | apply Kd.R_alloc | apply Kd.R_drewN | apply Kd.R_drew)); exact HO173.out) hb)
                        have n4_ := Aside0.mk (blk_below (g := gb148) (o := .cells #[.int .i64 a1_0, .int .i64 a1_1, .int .i64 a1_2, .bool a1_3, .bool a1_4, .bool a1_5, .bool a1_6, .int .i64 a1_7, .int .i64 a1_8, .bool a1_9, .int .i64 a1_10] 25 (0, 0)) (by (with_reducible repeat (first | refine blk_drewN ?_ _ | refine blk_drew ?_ | refine blk_alloc ?_ _)); exact BK148.out) hb)
                        have n5_ := Aside0.mk (below_step (by repeat (first | (with_reducible first | exact HB.out | apply below_alloc | apply pw_below_drewN | apply below_drew1 | refine below_set ?_ GE148.out) | exact HB.out)) hb)
                        clear HO156
                        clear HO167
                        clear HO170
                        clear HO173
                        clear BK148
                        clear HB
                        have HO156 := n0_
                        have HO167 := n1_
                        have HO170 := n2_
                        have HO173 := n3_
                        have BK148 := n4_
                        have HB := n5_
                        clear n0_ n1_ n2_ n3_ n4_ n5_
                        (try clear hb)
                        (try clear hb2)
                        (try clear hk)
                        (try clear hi)
                        refine hK.out _ _ ⟨(blk_cell BK148.out 0).trans rfl, (blk_cell BK148.out 1).trans rfl, (blk_cell BK148.out 2).trans rfl, (blk_cell BK148.out 3).trans rfl, (blk_cell BK148.out 4).trans rfl, (blk_cell BK148.out 5).trans rfl, (blk_cell BK148.out 6).trans rfl, (blk_cell BK148.out 7).trans rfl, (blk_cell BK148.out 8).trans rfl, (blk_cell BK148.out 9).trans rfl, (blk_cell BK148.out 10).trans rfl⟩ (fun hHeld => ?_)
                        clear hK K
                        refine norm_ (a' := ?_) ?_ ?_
                        rotate_left
                        · show Act.put _ (some 92) _ = _
                          simp only [Act.put, List.setIfInBounds_toArray, List.set_cons_zero, List.set_cons_succ, i64_w, i32_w]
                          rfl
                        refine pure_ (i := 10) (N := some 82) (v := ?_) (a' := ?_) #[true, true, true, true, true, true, true, true, true, true, true, false, false, false, false] rfl rfl (any_of HT_.out (by kernel_rfl)) (fun _ _ _ h => h) (Or.inl ⟨by rfl, ?_⟩) ?_ ?_
                        rotate_left
                        · intro w'
                          go_simp
                          with_reducible rfl
                        rotate_left
                        · simp only [Act.put, List.setIfInBounds_toArray, List.set_cons_zero, List.set_cons_succ, i64_w, i32_w]
                          rfl
                        refine pure_ (i := 11) (N := some 93) (v := ?_) (a' := ?_) #[true, true, true, true, true, true, true, true, true, true, true, true, false, false, false] rfl rfl (any_of HT_.out (by kernel_rfl)) (fun _ _ _ h => h) (Or.inl ⟨by rfl, ?_⟩) ?_ ?_
                        rotate_left
                        · intro w'
                          go_simp
                          with_reducible rfl
                        rotate_left
                        · simp only [Act.put, List.setIfInBounds_toArray, List.set_cons_zero, List.set_cons_succ, i64_w, i32_w]
                          rfl
                        refine pure_ (i := 12) (N := some 94) (v := ?_) (a' := ?_) #[true, true, true, true, true, true, true, true, true, true, true, true, true, false, false] rfl rfl (any_of HT_.out (by kernel_rfl)) (fun _ _ _ h => h) (Or.inl ⟨by rfl, ?_⟩) ?_ ?_
                        rotate_left
                        · intro w'
                          go_simp
                          with_reducible rfl
                        rotate_left
                        · simp only [Act.put, List.setIfInBounds_toArray, List.set_cons_zero, List.set_cons_succ, i64_w, i32_w]
                          rfl
                        refine pure_ (i := 13) (N := some 10) (v := ?_) (a' := ?_) #[true, true, true, true, true, true, true, true, true, true, true, true, true, true, false] rfl rfl (any_of HT_.out (by kernel_rfl)) (fun _ _ _ h => h) (Or.inl ⟨by rfl, ?_⟩) ?_ ?_
                        rotate_left
                        · intro w'
                          go_simp
                          with_reducible rfl
                        rotate_left
                        · simp only [Act.put, List.setIfInBounds_toArray, List.set_cons_zero, List.set_cons_succ, i64_w, i32_w]
                          rfl
                        refine pure_ (i := 14) (N := some 11) (v := ?_) (a' := ?_) #[true, true, true, true, true, true, true, true, true, true, true, true, true, true, true] rfl rfl (any_of HT_.out (by kernel_rfl)) (fun _ _ _ h => h) (Or.inl ⟨by rfl, ?_⟩) ?_ ?_
                        rotate_left
                        · intro w'
                          go_simp
                          with_reducible rfl
                        rotate_left
                        · simp only [Act.put, List.setIfInBounds_toArray, List.set_cons_zero, List.set_cons_succ, i64_w, i32_w]
                          rfl
                        refine done_ (done_of HT_.out (by kernel_rfl)) ?_
                        have hcz49_0 : w48.cell? ⟨gb148, 0, none⟩ = some (.int .i64 a1_0) := (blk_cell BK148.out 0).trans rfl
                        have hcz49_1 : w48.cell? ⟨gb148, 1, none⟩ = some (.int .i64 a1_1) := (blk_cell BK148.out 1).trans rfl
                        have hcz49_2 : w48.cell? ⟨gb148, 2, none⟩ = some (.int .i64 a1_2) := (blk_cell BK148.out 2).trans rfl
                        have hcz49_3 : w48.cell? ⟨gb148, 3, none⟩ = some (.bool a1_3) := (blk_cell BK148.out 3).trans rfl
                        have hcz49_4 : w48.cell? ⟨gb148, 4, none⟩ = some (.bool a1_4) := (blk_cell BK148.out 4).trans rfl
                        have hcz49_5 : w48.cell? ⟨gb148, 5, none⟩ = some (.bool a1_5) := (blk_cell BK148.out 5).trans rfl
                        have hcz49_6 : w48.cell? ⟨gb148, 6, none⟩ = some (.bool a1_6) := (blk_cell BK148.out 6).trans rfl
                        have hcz49_7 : w48.cell? ⟨gb148, 7, none⟩ = some (.int .i64 a1_7) := (blk_cell BK148.out 7).trans rfl
                        have hcz49_8 : w48.cell? ⟨gb148, 8, none⟩ = some (.int .i64 a1_8) := (blk_cell BK148.out 8).trans rfl
                        have hcz49_9 : w48.cell? ⟨gb148, 9, none⟩ = some (.bool a1_9) := (blk_cell BK148.out 9).trans rfl
                        have hcz49_10 : w48.cell? ⟨gb148, 10, none⟩ = some (.int .i64 a1_10) := (blk_cell BK148.out 10).trans rfl
                        have hfz49_0 := blk_frozen BK148.out 0
                        have hfz49_1 := blk_frozen BK148.out 1
                        have hfz49_2 := blk_frozen BK148.out 2
                        have hfz49_3 := blk_frozen BK148.out 3
                        have hfz49_4 := blk_frozen BK148.out 4
                        have hfz49_5 := blk_frozen BK148.out 5
                        have hfz49_6 := blk_frozen BK148.out 6
                        have hfz49_7 := blk_frozen BK148.out 7
                        have hfz49_8 := blk_frozen BK148.out 8
                        have hfz49_9 := blk_frozen BK148.out 9
                        have hfz49_10 := blk_frozen BK148.out 10
                        by_cases c30 : a1_6 = true
                        · subst c30
                          have H1 : (if (wrap64 (a1_7 + a1_2)) ≤ (wrap64 (a2)) then (if t157 = t174 then (some (t158 == t175)) else (some false)) else (if t175 = true then (if t174 = (mn (wrap64 (a1_7 + a1_2)) t174) then (if t158 = true then (some (t174 == (mn t157 (wrap64 (a1_7 + a1_2))))) else (if t174 = (wrap64 (a1_7 + a1_2)) then (some true) else (some false))) else (some false)) else (some false))) = some r := by rw [if_pos rfl] at H; exact H
                          clear H
                          have H := H1
                          clear H1
                          by_cases c31 : (wrap64 (a1_7 + a1_2)) ≤ (wrap64 (a2))
                          · rw [if_pos c31] at H
                            have c31b0 : decide ((wrap64 (a1_7 + a1_2)) ≤ (wrap64 (a2))) = true := decide_eq_true c31
                            clear c31
                            by_cases c32 : t157 = t174
                            · rw [if_pos c32] at H
                              have c32b0 : (t157 == t174) = true := beq_iff_eq.mpr c32
                              have c32b1 : (t157 != t174) = false := bne_eq_false_iff_eq.mpr c32
                              clear c32
                              obtain rfl := Option.some.inj H
                              try go_wp2
                              go_ret
                              exact ⟨by first | rfl | (simp [errW_none, errW_some] <;> rfl) | (simp [*, errW_none, errW_some] <;> rfl), by repeat (first | (with_reducible first | exact HB.out | apply below_alloc | apply pw_below_drewN | apply below_drew1 | refine below_set ?_ GE148.out) | exact HB.out)⟩
                            · rw [if_neg c32] at H
                              have c32b0 : (t157 == t174) = false := beq_eq_false_iff_ne.mpr c32
                              have c32b1 : (t157 != t174) = true := bne_iff_ne.mpr c32
                              obtain rfl := Option.some.inj H
                              try go_wp2
                              go_ret
                              exact ⟨by first | rfl | (simp [errW_none, errW_some] <;> rfl) | (simp [*, errW_none, errW_some] <;> rfl), by repeat (first | (with_reducible first | exact HB.out | apply below_alloc | apply pw_below_drewN | apply below_drew1 | refine below_set ?_ GE148.out) | exact HB.out)⟩
                          · rw [if_neg c31] at H
                            have c31b0 : decide ((wrap64 (a1_7 + a1_2)) ≤ (wrap64 (a2))) = false := decide_eq_false c31
                            clear c31
                            by_cases c67 : t175 = true
                            · subst c67
                              have H1 : (if t174 = (mn (wrap64 (a1_7 + a1_2)) t174) then (if t158 = true then (some (t174 == (mn t157 (wrap64 (a1_7 + a1_2))))) else (if t174 = (wrap64 (a1_7 + a1_2)) then (some true) else (some false))) else (some false)) = some r := by rw [if_pos rfl] at H; exact H
                              clear H
                              have H := H1
                              clear H1
                              obtain ⟨ji68, hji68⟩ : ∃ j_ : Int, (mn (wrap64 (a1_7 + a1_2)) t174) = j_ := ⟨_, rfl⟩
                              replace H : (if t174 = (ji68) then (if t158 = true then (some (t174 == (mn t157 (wrap64 (a1_7 + a1_2))))) else (if t174 = (wrap64 (a1_7 + a1_2)) then (some true) else (some false))) else (some false)) = some r := by first | (rw [hji68] at H; exact H) | (simp only [hji68] at H ⊢; exact H)
                              (try rw [hji68] at A24)
                              (try rw [hji68] at A25)
                              (try rw [hji68] at A28)
                              (try rw [hji68] at A29)
                              have hji68_ : (if t174 < (wrap64 (a1_7 + a1_2)) then t174 else (wrap64 (a1_7 + a1_2))) = ji68 := hji68
                              by_cases c69 : t174 = (ji68)
                              · rw [if_pos c69] at H
                                have c69b0 : (t174 == (ji68)) = true := beq_iff_eq.mpr c69
                                have c69b1 : (t174 != (ji68)) = false := bne_eq_false_iff_eq.mpr c69
                                clear c69
                                by_cases c70 : t158 = true
                                · subst c70
                                  have H1 : (some (t174 == (mn t157 (wrap64 (a1_7 + a1_2))))) = some r := by rw [if_pos rfl] at H; exact H
                                  clear H
                                  have H := H1
                                  clear H1
                                  obtain ⟨ji71, hji71⟩ : ∃ j_ : Int, (mn t157 (wrap64 (a1_7 + a1_2))) = j_ := ⟨_, rfl⟩
                                  replace H : (some (t174 == (ji71))) = some r := by first | (rw [hji71] at H; exact H) | (simp only [hji71] at H ⊢; exact H)
                                  (try rw [hji71] at A24)
                                  (try rw [hji71] at A25)
                                  (try rw [hji71] at A28)
                                  (try rw [hji71] at A29)
                                  have hji71_ : (if (wrap64 (a1_7 + a1_2)) < t157 then (wrap64 (a1_7 + a1_2)) else t157) = ji71 := hji71
                                  obtain rfl := Option.some.inj H
                                  try go_wp2
                                  go_ret
                                  exact ⟨by first | rfl | (simp [errW_none, errW_some] <;> rfl) | (simp only [← hji68, ← hji71]; first | rfl | (simp [errW_none, errW_some] <;> rfl)) | (simp [*, errW_none, errW_some] <;> rfl), by repeat (first | (with_reducible first | exact HB.out | apply below_alloc | apply pw_below_drewN | apply below_drew1 | refine below_set ?_ GE148.out) | exact HB.out)⟩
                                · replace c70 := Bool.eq_false_iff.mpr c70
                                  subst c70
                                  have H1 : (if t174 = (wrap64 (a1_7 + a1_2)) then (some true) else (some false)) = some r := by rw [if_neg (show ¬ (false = true) by decide)] at H; exact H
                                  clear H
                                  have H := H1
                                  clear H1
                                  by_cases c89 : t174 = (wrap64 (a1_7 + a1_2))
                                  · rw [if_pos c89] at H
                                    have c89b0 : (t174 == (wrap64 (a1_7 + a1_2))) = true := beq_iff_eq.mpr c89
                                    have c89b1 : (t174 != (wrap64 (a1_7 + a1_2))) = false := bne_eq_false_iff_eq.mpr c89
                                    clear c89
                                    obtain rfl := Option.some.inj H
                                    try go_wp2
                                    go_ret
                                    exact ⟨by first | rfl | (simp [errW_none, errW_some] <;> rfl) | (simp only [← hji68]; first | rfl | (simp [errW_none, errW_some] <;> rfl)) | (simp [*, errW_none, errW_some] <;> rfl), by repeat (first | (with_reducible first | exact HB.out | apply below_alloc | apply pw_below_drewN | apply below_drew1 | refine below_set ?_ GE148.out) | exact HB.out)⟩
                                  · rw [if_neg c89] at H
                                    have c89b0 : (t174 == (wrap64 (a1_7 + a1_2))) = false := beq_eq_false_iff_ne.mpr c89
                                    have c89b1 : (t174 != (wrap64 (a1_7 + a1_2))) = true := bne_iff_ne.mpr c89
                                    obtain rfl := Option.some.inj H
                                    try go_wp2
                                    go_ret
                                    exact ⟨by first | rfl | (simp [errW_none, errW_some] <;> rfl) | (simp only [← hji68]; first | rfl | (simp [errW_none, errW_some] <;> rfl)) | (simp [*, errW_none, errW_some] <;> rfl), by repeat (first | (with_reducible first | exact HB.out | apply below_alloc | apply pw_below_drewN | apply below_drew1 | refine below_set ?_ GE148.out) | exact HB.out)⟩
                              · rw [if_neg c69] at H
                                have c69b0 : (t174 == (ji68)) = false := beq_eq_false_iff_ne.mpr c69
                                have c69b1 : (t174 != (ji68)) = true := bne_iff_ne.mpr c69
                                obtain rfl := Option.some.inj H
                                try go_wp2
                                go_ret
                                exact ⟨by first | rfl | (simp [errW_none, errW_some] <;> rfl) | (simp only [← hji68]; first | rfl | (simp [errW_none, errW_some] <;> rfl)) | (simp [*, errW_none, errW_some] <;> rfl), by repeat (first | (with_reducible first | exact HB.out | apply below_alloc | apply pw_below_drewN | apply below_drew1 | refine below_set ?_ GE148.out) | exact HB.out)⟩
                            · replace c67 := Bool.eq_false_iff.mpr c67
                              subst c67
                              have H1 : (some false) = some r := by rw [if_neg (show ¬ (false = true) by decide)] at H; exact H
                              clear H
                              have H := H1
                              clear H1
                              obtain rfl := Option.some.inj H
                              try go_wp2
                              go_ret
                              exact ⟨by first | rfl | (simp [errW_none, errW_some] <;> rfl) | (simp [*, errW_none, errW_some] <;> rfl), by repeat (first | (with_reducible first | exact HB.out | apply below_alloc | apply pw_below_drewN | apply below_drew1 | refine below_set ?_ GE148.out) | exact HB.out)⟩
                        · replace c30 := Bool.eq_false_iff.mpr c30
                          subst c30
                          have H1 : (if t157 = t174 then (some (t158 == t175)) else (some false)) = some r := by rw [if_neg (show ¬ (false = true) by decide)] at H; exact H
                          clear H
                          have H := H1
                          clear H1
                          by_cases c158 : t157 = t174
                          · rw [if_pos c158] at H
                            have c158b0 : (t157 == t174) = true := beq_iff_eq.mpr c158
                            have c158b1 : (t157 != t174) = false := bne_eq_false_iff_eq.mpr c158
                            clear c158
                            obtain rfl := Option.some.inj H
                            try go_wp2
                            go_ret
                            exact ⟨by first | rfl | (simp [errW_none, errW_some] <;> rfl) | (simp [*, errW_none, errW_some] <;> rfl), by repeat (first | (with_reducible first | exact HB.out | apply below_alloc | apply pw_below_drewN | apply below_drew1 | refine below_set ?_ GE148.out) | exact HB.out)⟩
                          · rw [if_neg c158] at H
                            have c158b0 : (t157 == t174) = false := beq_eq_false_iff_ne.mpr c158
                            have c158b1 : (t157 != t174) = true := bne_iff_ne.mpr c158
                            obtain rfl := Option.some.inj H
                            try go_wp2
                            go_ret
                            exact ⟨by first | rfl | (simp [errW_none, errW_some] <;> rfl) | (simp [*, errW_none, errW_some] <;> rfl), by repeat (first | (with_reducible first | exact HB.out | apply below_alloc | apply pw_below_drewN | apply below_drew1 | refine below_set ?_ GE148.out) | exact HB.out)⟩
                      · rw [if_neg c27] at H
                        exact absurd H (by simp)
                    · rw [if_neg c26] at H
                      exact absurd H (by simp)
  · replace c5 := Bool.eq_false_iff.mpr c5
    subst c5
    have H1 : (some false) = some r := by rw [if_neg (show ¬ (false = true) by decide)] at H; exact H
    clear H
    have H := H1
    clear H1
    obtain rfl := Option.some.inj H
    go_enter Try.func6, Try.ntmps6
    go_wp2_with (first | ((with_reducible refine gate_dst (N := 4) rfl ?_); (try (refine gate_guard (by rfl) ?_; dsimp only)); refine box_event ?hg (N := 4) ?hd (cs := #[.int .i64 a1_0, .int .i64 a1_1, .int .i64 a1_2, .bool a1_3, .bool a1_4, .bool a1_5, .bool a1_6, .int .i64 a1_7, .int .i64 a1_8, .bool a1_9, .int .i64 a1_10]) (t := 25) ?hr ?_; (case hd => rfl); (case hg => rfl); (case hr => first | (go_simp; done) | (go_simp; rfl)); intro gb148 hg w193 hbox hb; have n0_ := Aside0.mk (below_step (by repeat (first | (with_reducible first | exact HB.out | apply below_alloc | apply pw_below_drewN | apply below_drew1) | exact HB.out)) hb); have n1_ := Aside0.mk (hbox); have n2_ := Aside0.mk ((by rw [hg]; exact (below_size (by repeat (first | (with_reducible first | exact HB.out | apply below_alloc | apply pw_below_drewN | apply below_drew1) | exact HB.out))) : w.heap.size ≤ gb148)); have n3_ := Aside0.mk ((by rw [hg]; exact (below_size (by repeat (first | (with_reducible first | exact HB.out | apply below_alloc | apply pw_below_drewN | apply below_drew1) | exact HB.out))) : w.heap.size ≤ gb148)); clear HB; have HB := n0_; have BK148 := n1_; have GW148 := n2_; have GE148 := n3_; clear n0_ n1_ n2_ n3_; clear hb hbox hg) | ((with_reducible refine gate_callee (f := 8) rfl ?_); refine goesL_ (some 13) rfl rfl Try.func8 (by kernel_rfl) rfl #[] rfl (by (try simp only [List.map_toArray, List.map_cons, List.map_nil]); first | done | rfl | (simp only [List.length_drop, List.length_take]; rfl)) ?_; (with_reducible refine (evenhandedlaw16_awake.calls k  false _ A4.out).mono ?_); rintro e w194 ⟨rfl, hb⟩; refine ⟨_, rfl, ?_⟩; have n0_ := Aside0.mk (blk_below (g := gb148) (o := .cells #[.int .i64 a1_0, .int .i64 a1_1, .int .i64 a1_2, .bool a1_3, .bool a1_4, .bool a1_5, .bool a1_6, .int .i64 a1_7, .int .i64 a1_8, .bool a1_9, .int .i64 a1_10] 25 (0, 0)) (by (with_reducible repeat (first | refine blk_drewN ?_ _ | refine blk_drew ?_ | refine blk_alloc ?_ _)); exact BK148.out) hb); have n1_ := Aside0.mk (below_step (by repeat (first | (with_reducible first | exact HB.out | apply below_alloc | apply pw_below_drewN | apply below_drew1 | refine below_set ?_ GE148.out) | exact HB.out)) hb); clear BK148; clear HB; have BK148 := n0_; have HB := n1_; clear n0_ n1_; (try clear hb); (try clear hb2); (try clear hk); (try clear hi)))
    go_ret
    exact ⟨by first | rfl | (simp [errW_none, errW_some] <;> rfl) | (simp [*, errW_none, errW_some] <;> rfl), by repeat (first | (with_reducible first | exact HB.out | apply below_alloc | apply pw_below_drewN | apply below_drew1 | refine below_set ?_ GE148.out) | exact HB.out)⟩

end Go.Proofs.Ytiljdmlganploaa.PBoundsMore
