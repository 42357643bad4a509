/- The machine's side of the law, written by the kit's print program for the functions that it takes. -/
import Derived.Test.YtiljdmlganploaaPBoundsNextx0
import Derived.Test.YtiljdmlganploaaPBoundsNextx1
import Derived.Test.YtiljdmlganploaaPBoundsNextx2
namespace Go.Proofs.Ytiljdmlganploaa.PBoundsNext
open Go.RowKit Go.Proofs.YtiljdmlganploaaW.PrintWords Go.Proofs.YtiljdmlganploaaW.PrintLast Go.Proofs.YtiljdmlganploaaW.PrintMore
attribute [local go_sem] max2_int min2_int max_two min_two max_three min_three max_four min_four   -- for this text's walks alone
set_option linter.unusedVariables false
set_option linter.unusedSimpArgs false

/-! ### evenhandedlaw16_BoundsNext: function 3 -/
mutual
def evenhandedlaw16_BoundsNext.j0 : Nat → List (S25) → Int → Bool → Option (Bool)
  | 0, _, _, _ => none
  | k + 1, x0, x1, x30 => if x30 = true then (some true) else (evenhandedlaw16_BoundsNext.l0 k x0 x1 0)
def evenhandedlaw16_BoundsNext.l0 : Nat → List (S25) → Int → Int → Option (Bool)
  | 0, _, _, _ => none
  | k + 1, x0, x1, x5 => if x5 < (x0.length : Int) then (if 0 ≤ x5 then (if ((rd_T25 x0 x5).f7) < (-1099511627776) then (some true) else (if ((rd_T25 x0 x5).f7) > 1099511627776 then (some true) else (if ((rd_T25 x0 x5).f2) < (-1099511627776) then (some true) else (if ((rd_T25 x0 x5).f2) > 1099511627776 then (some true) else (evenhandedlaw16_BoundsNext.l0 k x0 x1 (wrap64 (x5 + 1))))))) else (none)) else ((evenhandedlaw12_Rows.f k x0).bind fun t156 => ((bounds_Next.f k t156 x1).bind fun bt159 => ((evenhandedref12_Bound.f k x0 x1).bind fun bt161 => (if bt159.1 = bt161.1 then (evenhandedlaw16_BoundsNext.j2 k x0 x1 bt159.1 bt159.2 (bt159.2 != bt161.2)) else (evenhandedlaw16_BoundsNext.j2 k x0 x1 bt159.1 bt159.2 true)))))
def evenhandedlaw16_BoundsNext.j2 : Nat → List (S25) → Int → Int → Bool → Bool → Option (Bool)
  | 0, _, _, _, _, _ => none
  | k + 1, x0, x1, x6, x7, x87 => if x87 = true then (some false) else ((evenhandedlaw12_Rows.f k x0).bind fun t163 => ((bounds_Lengths.f k t163 x1).bind fun t166 => (evenhandedlaw16_BoundsNext.l1 k x0 x1 x6 x7 t166 0)))
def evenhandedlaw16_BoundsNext.l1 : Nat → List (S25) → Int → Int → Bool → List Int → Int → Option (Bool)
  | 0, _, _, _, _, _, _ => none
  | k + 1, x0, x1, x6, x7, x10, x11 => if x11 < (x10.length : Int) then (if 0 ≤ x11 then (if (rd x10 x11) ≤ 0 then (evenhandedlaw16_BoundsNext.j4 k x0 x1 x6 x7 x10 x11 true) else (if x11 > 0 then (if 0 ≤ (wrap64 (x11 - 1)) then (if (wrap64 (x11 - 1)) < (x10.length : Int) then (evenhandedlaw16_BoundsNext.j4 k x0 x1 x6 x7 x10 x11 (decide ((rd x10 x11) ≤ (rd x10 (wrap64 (x11 - 1)))))) else (none)) else (none)) else (evenhandedlaw16_BoundsNext.j4 k x0 x1 x6 x7 x10 x11 false))) else (none)) else (evenhandedlaw16_BoundsNext.l3 k x0 x1 x6 x7 x10 0)
def evenhandedlaw16_BoundsNext.j4 : Nat → List (S25) → Int → Int → Bool → List Int → Int → Bool → Option (Bool)
  | 0, _, _, _, _, _, _, _ => none
  | k + 1, x0, x1, x6, x7, x10, x11, x118 => if x118 = true then (some false) else (evenhandedlaw16_BoundsNext.l2 k x0 x1 x6 x7 x10 x11 false 0)
def evenhandedlaw16_BoundsNext.l2 : Nat → List (S25) → Int → Int → Bool → List Int → Int → Bool → Int → Option (Bool)
  | 0, _, _, _, _, _, _, _, _ => none
  | k + 1, x0, x1, x6, x7, x10, x11, x12, x13 => if x13 < (x0.length : Int) then (if x12 = true then (evenhandedlaw16_BoundsNext.l2 k x0 x1 x6 x7 x10 x11 true (wrap64 (x13 + 1))) else (if 0 ≤ x13 then (if (rd_T25 x0 x13).f6 = true then (if 0 ≤ x11 then (if x11 < (x10.length : Int) then (evenhandedlaw16_BoundsNext.l2 k x0 x1 x6 x7 x10 x11 ((wrap64 (((rd_T25 x0 x13).f7) + ((rd_T25 x0 x13).f2))) == (wrap64 (x1 + (rd x10 x11)))) (wrap64 (x13 + 1))) else (none)) else (none)) else (evenhandedlaw16_BoundsNext.l2 k x0 x1 x6 x7 x10 x11 false (wrap64 (x13 + 1)))) else (none))) else (if x12 = true then (evenhandedlaw16_BoundsNext.l1 k x0 x1 x6 x7 x10 (wrap64 (x11 + 1))) else (some false))
def evenhandedlaw16_BoundsNext.l3 : Nat → List (S25) → Int → Int → Bool → List Int → Int → Option (Bool)
  | 0, _, _, _, _, _, _ => none
  | k + 1, x0, x1, x6, x7, x10, x14 => if x14 < (x0.length : Int) then (if 0 ≤ x14 then (if ((rd_T25 x0 x14).f6 = true) then (evenhandedlaw16_BoundsNext.j7 k x0 x1 x6 x7 x10 x14 (wrap64 ((wrap64 (((rd_T25 x0 x14).f7) + ((rd_T25 x0 x14).f2))) - x1)) (decide ((wrap64 ((wrap64 (((rd_T25 x0 x14).f7) + ((rd_T25 x0 x14).f2))) - x1)) ≤ 0))) else (evenhandedlaw16_BoundsNext.j7 k x0 x1 x6 x7 x10 x14 (wrap64 ((wrap64 (((rd_T25 x0 x14).f7) + ((rd_T25 x0 x14).f2))) - x1)) true)) else (none)) else (if ((decide ((x10.length : Int) > 0)) == x7) = true then (if x7 = true then (if 0 < (x10.length : Int) then (some ((rd x10 0) == (wrap64 (x6 - x1)))) else (none)) else (some true)) else (some false))
def evenhandedlaw16_BoundsNext.j7 : Nat → List (S25) → Int → Int → Bool → List Int → Int → Int → Bool → Option (Bool)
  | 0, _, _, _, _, _, _, _, _ => none
  | k + 1, x0, x1, x6, x7, x10, x14, x15, x16 => evenhandedlaw16_BoundsNext.l4 k x0 x1 x6 x7 x10 x14 x15 x16 0
def evenhandedlaw16_BoundsNext.l4 : Nat → List (S25) → Int → Int → Bool → List Int → Int → Int → Bool → Int → Option (Bool)
  | 0, _, _, _, _, _, _, _, _, _ => none
  | k + 1, x0, x1, x6, x7, x10, x14, x15, x16, x17 => if x17 < (x10.length : Int) then (if x16 = true then (evenhandedlaw16_BoundsNext.l4 k x0 x1 x6 x7 x10 x14 x15 true (wrap64 (x17 + 1))) else (if 0 ≤ x17 then (evenhandedlaw16_BoundsNext.l4 k x0 x1 x6 x7 x10 x14 x15 ((rd x10 x17) == x15) (wrap64 (x17 + 1))) else (none))) else (if x16 = true then (evenhandedlaw16_BoundsNext.l3 k x0 x1 x6 x7 x10 (wrap64 (x14 + 1))) else (some false))
end
def evenhandedlaw16_BoundsNext.f (k : Nat) (l0 : List (S25)) (a1 : Int) : Option (Bool) := (evenhandedlaw16_awake.f k).bind fun t151 => (if t151 = true then (if (l0.length : Int) > 100 then (evenhandedlaw16_BoundsNext.j0 k l0 a1 true) else (if a1 < (-1099511627776) then (evenhandedlaw16_BoundsNext.j0 k l0 a1 true) else (evenhandedlaw16_BoundsNext.j0 k l0 a1 (decide (a1 > 1099511627776))))) else (some false))
theorem evenhandedlaw16_BoundsNext.mono_l : ∀ k, (∀ y0 y1 y2, LeO (evenhandedlaw16_BoundsNext.j0 k y0 y1 y2) (evenhandedlaw16_BoundsNext.j0 (k + 1) y0 y1 y2)) ∧ (∀ y0 y1 y2, LeO (evenhandedlaw16_BoundsNext.l0 k y0 y1 y2) (evenhandedlaw16_BoundsNext.l0 (k + 1) y0 y1 y2)) ∧ (∀ y0 y1 y2 y3 y4, LeO (evenhandedlaw16_BoundsNext.j2 k y0 y1 y2 y3 y4) (evenhandedlaw16_BoundsNext.j2 (k + 1) y0 y1 y2 y3 y4)) ∧ (∀ y0 y1 y2 y3 y4 y5, LeO (evenhandedlaw16_BoundsNext.l1 k y0 y1 y2 y3 y4 y5) (evenhandedlaw16_BoundsNext.l1 (k + 1) y0 y1 y2 y3 y4 y5)) ∧ (∀ y0 y1 y2 y3 y4 y5 y6, LeO (evenhandedlaw16_BoundsNext.j4 k y0 y1 y2 y3 y4 y5 y6) (evenhandedlaw16_BoundsNext.j4 (k + 1) y0 y1 y2 y3 y4 y5 y6)) ∧ (∀ y0 y1 y2 y3 y4 y5 y6 y7, LeO (evenhandedlaw16_BoundsNext.l2 k y0 y1 y2 y3 y4 y5 y6 y7) (evenhandedlaw16_BoundsNext.l2 (k + 1) y0 y1 y2 y3 y4 y5 y6 y7)) ∧ (∀ y0 y1 y2 y3 y4 y5, LeO (evenhandedlaw16_BoundsNext.l3 k y0 y1 y2 y3 y4 y5) (evenhandedlaw16_BoundsNext.l3 (k + 1) y0 y1 y2 y3 y4 y5)) ∧ (∀ y0 y1 y2 y3 y4 y5 y6 y7, LeO (evenhandedlaw16_BoundsNext.j7 k y0 y1 y2 y3 y4 y5 y6 y7) (evenhandedlaw16_BoundsNext.j7 (k + 1) y0 y1 y2 y3 y4 y5 y6 y7)) ∧ (∀ y0 y1 y2 y3 y4 y5 y6 y7 y8, LeO (evenhandedlaw16_BoundsNext.l4 k y0 y1 y2 y3 y4 y5 y6 y7 y8) (evenhandedlaw16_BoundsNext.l4 (k + 1) y0 y1 y2 y3 y4 y5 y6 y7 y8))
  | 0 => ⟨fun _ _ _ r h => by simp [evenhandedlaw16_BoundsNext.j0] at h, fun _ _ _ r h => by simp [evenhandedlaw16_BoundsNext.l0] at h, fun _ _ _ _ _ r h => by simp [evenhandedlaw16_BoundsNext.j2] at h, fun _ _ _ _ _ _ r h => by simp [evenhandedlaw16_BoundsNext.l1] at h, fun _ _ _ _ _ _ _ r h => by simp [evenhandedlaw16_BoundsNext.j4] at h, fun _ _ _ _ _ _ _ _ r h => by simp [evenhandedlaw16_BoundsNext.l2] at h, fun _ _ _ _ _ _ r h => by simp [evenhandedlaw16_BoundsNext.l3] at h, fun _ _ _ _ _ _ _ _ r h => by simp [evenhandedlaw16_BoundsNext.j7] at h, fun _ _ _ _ _ _ _ _ _ r h => by simp [evenhandedlaw16_BoundsNext.l4] at h⟩
  | k + 1 => by
    obtain ⟨ih0, ih1, ih2, ih3, ih4, ih5, ih6, ih7, ih8⟩ := evenhandedlaw16_BoundsNext.mono_l k
    refine ⟨?_, ?_, ?_, ?_, ?_, ?_, ?_, ?_, ?_⟩
    · intro y0 y1 y2
      unfold evenhandedlaw16_BoundsNext.j0
      repeat' first
      | (with_reducible exact ih0 _ _ _)
      | (with_reducible exact ih1 _ _ _)
      | (with_reducible exact ih2 _ _ _ _ _)
      | (with_reducible exact ih3 _ _ _ _ _ _)
      | (with_reducible exact ih4 _ _ _ _ _ _ _)
      | (with_reducible exact ih5 _ _ _ _ _ _ _ _)
      | (with_reducible exact ih6 _ _ _ _ _ _)
      | (with_reducible exact ih7 _ _ _ _ _ _ _ _)
      | (with_reducible exact ih8 _ _ _ _ _ _ _ _ _)
      | (with_reducible exact bounds_Lengths.mono _ _ _)
      | (with_reducible exact bounds_Next.mono _ _ _)
      | (with_reducible exact evenhandedlaw12_Rows.mono _ _)
      | (with_reducible exact evenhandedlaw16_awake.mono _)
      | (with_reducible exact evenhandedref12_Bound.mono _ _ _)
      | (with_reducible exact LeO.refl _)
      | (with_reducible exact LeO.none _)
      | (with_reducible refine LeO.ite ?_ ?_)
      | (with_reducible refine LeO.bind ?_ (fun _ => ?_))
      | exact ih0 _ _ _
      | exact ih1 _ _ _
      | exact ih2 _ _ _ _ _
      | exact ih3 _ _ _ _ _ _
      | exact ih4 _ _ _ _ _ _ _
      | exact ih5 _ _ _ _ _ _ _ _
      | exact ih6 _ _ _ _ _ _
      | exact ih7 _ _ _ _ _ _ _ _
      | exact ih8 _ _ _ _ _ _ _ _ _
      | exact bounds_Lengths.mono _ _ _
      | exact bounds_Next.mono _ _ _
      | exact evenhandedlaw12_Rows.mono _ _
      | exact evenhandedlaw16_awake.mono _
      | exact evenhandedref12_Bound.mono _ _ _
      | exact LeO.none _
      | refine LeO.ite ?_ ?_
      | refine LeO.bind ?_ (fun _ => ?_)
    · intro y0 y1 y2
      unfold evenhandedlaw16_BoundsNext.l0
      repeat' first
      | (with_reducible exact ih0 _ _ _)
      | (with_reducible exact ih1 _ _ _)
      | (with_reducible exact ih2 _ _ _ _ _)
      | (with_reducible exact ih3 _ _ _ _ _ _)
      | (with_reducible exact ih4 _ _ _ _ _ _ _)
      | (with_reducible exact ih5 _ _ _ _ _ _ _ _)
      | (with_reducible exact ih6 _ _ _ _ _ _)
      | (with_reducible exact ih7 _ _ _ _ _ _ _ _)
      | (with_reducible exact ih8 _ _ _ _ _ _ _ _ _)
      | (with_reducible exact bounds_Lengths.mono _ _ _)
      | (with_reducible exact bounds_Next.mono _ _ _)
      | (with_reducible exact evenhandedlaw12_Rows.mono _ _)
      | (with_reducible exact evenhandedlaw16_awake.mono _)
      | (with_reducible exact evenhandedref12_Bound.mono _ _ _)
      | (with_reducible exact LeO.refl _)
      | (with_reducible exact LeO.none _)
      | (with_reducible refine LeO.ite ?_ ?_)
      | (with_reducible refine LeO.bind ?_ (fun _ => ?_))
      | exact ih0 _ _ _
      | exact ih1 _ _ _
      | exact ih2 _ _ _ _ _
      | exact ih3 _ _ _ _ _ _
      | exact ih4 _ _ _ _ _ _ _
      | exact ih5 _ _ _ _ _ _ _ _
      | exact ih6 _ _ _ _ _ _
      | exact ih7 _ _ _ _ _ _ _ _
      | exact ih8 _ _ _ _ _ _ _ _ _
      | exact bounds_Lengths.mono _ _ _
      | exact bounds_Next.mono _ _ _
      | exact evenhandedlaw12_Rows.mono _ _
      | exact evenhandedlaw16_awake.mono _
      | exact evenhandedref12_Bound.mono _ _ _
      | exact LeO.none _
      | refine LeO.ite ?_ ?_
      | refine LeO.bind ?_ (fun _ => ?_)
    · intro y0 y1 y2 y3 y4
      unfold evenhandedlaw16_BoundsNext.j2
      repeat' first
      | (with_reducible exact ih0 _ _ _)
      | (with_reducible exact ih1 _ _ _)
      | (with_reducible exact ih2 _ _ _ _ _)
      | (with_reducible exact ih3 _ _ _ _ _ _)
      | (with_reducible exact ih4 _ _ _ _ _ _ _)
      | (with_reducible exact ih5 _ _ _ _ _ _ _ _)
      | (with_reducible exact ih6 _ _ _ _ _ _)
      | (with_reducible exact ih7 _ _ _ _ _ _ _ _)
      | (with_reducible exact ih8 _ _ _ _ _ _ _ _ _)
      | (with_reducible exact bounds_Lengths.mono _ _ _)
      | (with_reducible exact bounds_Next.mono _ _ _)
      | (with_reducible exact evenhandedlaw12_Rows.mono _ _)
      | (with_reducible exact evenhandedlaw16_awake.mono _)
      | (with_reducible exact evenhandedref12_Bound.mono _ _ _)
      | (with_reducible exact LeO.refl _)
      | (with_reducible exact LeO.none _)
      | (with_reducible refine LeO.ite ?_ ?_)
      | (with_reducible refine LeO.bind ?_ (fun _ => ?_))
      | exact ih0 _ _ _
      | exact ih1 _ _ _
      | exact ih2 _ _ _ _ _
      | exact ih3 _ _ _ _ _ _
      | exact ih4 _ _ _ _ _ _ _
      | exact ih5 _ _ _ _ _ _ _ _
      | exact ih6 _ _ _ _ _ _
      | exact ih7 _ _ _ _ _ _ _ _
      | exact ih8 _ _ _ _ _ _ _ _ _
      | exact bounds_Lengths.mono _ _ _
      | exact bounds_Next.mono _ _ _
      | exact evenhandedlaw12_Rows.mono _ _
      | exact evenhandedlaw16_awake.mono _
      | exact evenhandedref12_Bound.mono _ _ _
      | exact LeO.none _
      | refine LeO.ite ?_ ?_
      | refine LeO.bind ?_ (fun _ => ?_)
    · intro y0 y1 y2 y3 y4 y5
      unfold evenhandedlaw16_BoundsNext.l1
      repeat' first
      | (with_reducible exact ih0 _ _ _)
      | (with_reducible exact ih1 _ _ _)
      | (with_reducible exact ih2 _ _ _ _ _)
      | (with_reducible exact ih3 _ _ _ _ _ _)
      | (with_reducible exact ih4 _ _ _ _ _ _ _)
      | (with_reducible exact ih5 _ _ _ _ _ _ _ _)
      | (with_reducible exact ih6 _ _ _ _ _ _)
      | (with_reducible exact ih7 _ _ _ _ _ _ _ _)
      | (with_reducible exact ih8 _ _ _ _ _ _ _ _ _)
      | (with_reducible exact bounds_Lengths.mono _ _ _)
      | (with_reducible exact bounds_Next.mono _ _ _)
      | (with_reducible exact evenhandedlaw12_Rows.mono _ _)
      | (with_reducible exact evenhandedlaw16_awake.mono _)
      | (with_reducible exact evenhandedref12_Bound.mono _ _ _)
      | (with_reducible exact LeO.refl _)
      | (with_reducible exact LeO.none _)
      | (with_reducible refine LeO.ite ?_ ?_)
      | (with_reducible refine LeO.bind ?_ (fun _ => ?_))
      | exact ih0 _ _ _
      | exact ih1 _ _ _
      | exact ih2 _ _ _ _ _
      | exact ih3 _ _ _ _ _ _
      | exact ih4 _ _ _ _ _ _ _
      | exact ih5 _ _ _ _ _ _ _ _
      | exact ih6 _ _ _ _ _ _
      | exact ih7 _ _ _ _ _ _ _ _
      | exact ih8 _ _ _ _ _ _ _ _ _
      | exact bounds_Lengths.mono _ _ _
      | exact bounds_Next.mono _ _ _
      | exact evenhandedlaw12_Rows.mono _ _
      | exact evenhandedlaw16_awake.mono _
      | exact evenhandedref12_Bound.mono _ _ _
      | exact LeO.none _
      | refine LeO.ite ?_ ?_
      | refine LeO.bind ?_ (fun _ => ?_)
    · intro y0 y1 y2 y3 y4 y5 y6
      unfold evenhandedlaw16_BoundsNext.j4
      repeat' first
      | (with_reducible exact ih0 _ _ _)
      | (with_reducible exact ih1 _ _ _)
      | (with_reducible exact ih2 _ _ _ _ _)
      | (with_reducible exact ih3 _ _ _ _ _ _)
      | (with_reducible exact ih4 _ _ _ _ _ _ _)
      | (with_reducible exact ih5 _ _ _ _ _ _ _ _)
      | (with_reducible exact ih6 _ _ _ _ _ _)
      | (with_reducible exact ih7 _ _ _ _ _ _ _ _)
      | (with_reducible exact ih8 _ _ _ _ _ _ _ _ _)
      | (with_reducible exact bounds_Lengths.mono _ _ _)
      | (with_reducible exact bounds_Next.mono _ _ _)
      | (with_reducible exact evenhandedlaw12_Rows.mono _ _)
      | (with_reducible exact evenhandedlaw16_awake.mono _)
      | (with_reducible exact evenhandedref12_Bound.mono _ _ _)
      | (with_reducible exact LeO.refl _)
      | (with_reducible exact LeO.none _)
      | (with_reducible refine LeO.ite ?_ ?_)
      | (with_reducible refine LeO.bind ?_ (fun _ => ?_))
      | exact ih0 _ _ _
      | exact ih1 _ _ _
      | exact ih2 _ _ _ _ _
      | exact ih3 _ _ _ _ _ _
      | exact ih4 _ _ _ _ _ _ _
      | exact ih5 _ _ _ _ _ _ _ _
      | exact ih6 _ _ _ _ _ _
      | exact ih7 _ _ _ _ _ _ _ _
      | exact ih8 _ _ _ _ _ _ _ _ _
      | exact bounds_Lengths.mono _ _ _
      | exact bounds_Next.mono _ _ _
      | exact evenhandedlaw12_Rows.mono _ _
      | exact evenhandedlaw16_awake.mono _
      | exact evenhandedref12_Bound.mono _ _ _
      | exact LeO.none _
      | refine LeO.ite ?_ ?_
      | refine LeO.bind ?_ (fun _ => ?_)
    · intro y0 y1 y2 y3 y4 y5 y6 y7
      unfold evenhandedlaw16_BoundsNext.l2
      repeat' first
      | (with_reducible exact ih0 _ _ _)
      | (with_reducible exact ih1 _ _ _)
      | (with_reducible exact ih2 _ _ _ _ _)
      | (with_reducible exact ih3 _ _ _ _ _ _)
      | (with_reducible exact ih4 _ _ _ _ _ _ _)
      | (with_reducible exact ih5 _ _ _ _ _ _ _ _)
      | (with_reducible exact ih6 _ _ _ _ _ _)
      | (with_reducible exact ih7 _ _ _ _ _ _ _ _)
      | (with_reducible exact ih8 _ _ _ _ _ _ _ _ _)
      | (with_reducible exact bounds_Lengths.mono _ _ _)
      | (with_reducible exact bounds_Next.mono _ _ _)
      | (with_reducible exact evenhandedlaw12_Rows.mono _ _)
      | (with_reducible exact evenhandedlaw16_awake.mono _)
      | (with_reducible exact evenhandedref12_Bound.mono _ _ _)
      | (with_reducible exact LeO.refl _)
      | (with_reducible exact LeO.none _)
      | (with_reducible refine LeO.ite ?_ ?_)
      | (with_reducible refine LeO.bind ?_ (fun _ => ?_))
      | exact ih0 _ _ _
      | exact ih1 _ _ _
      | exact ih2 _ _ _ _ _
      | exact ih3 _ _ _ _ _ _
      | exact ih4 _ _ _ _ _ _ _
      | exact ih5 _ _ _ _ _ _ _ _
      | exact ih6 _ _ _ _ _ _
      | exact ih7 _ _ _ _ _ _ _ _
      | exact ih8 _ _ _ _ _ _ _ _ _
      | exact bounds_Lengths.mono _ _ _
      | exact bounds_Next.mono _ _ _
      | exact evenhandedlaw12_Rows.mono _ _
      | exact evenhandedlaw16_awake.mono _
      | exact evenhandedref12_Bound.mono _ _ _
      | exact LeO.none _
      | refine LeO.ite ?_ ?_
      | refine LeO.bind ?_ (fun _ => ?_)
    · intro y0 y1 y2 y3 y4 y5
      unfold evenhandedlaw16_BoundsNext.l3
      repeat' first
      | (with_reducible exact ih0 _ _ _)
      | (with_reducible exact ih1 _ _ _)
      | (with_reducible exact ih2 _ _ _ _ _)
      | (with_reducible exact ih3 _ _ _ _ _ _)
      | (with_reducible exact ih4 _ _ _ _ _ _ _)
      | (with_reducible exact ih5 _ _ _ _ _ _ _ _)
      | (with_reducible exact ih6 _ _ _ _ _ _)
      | (with_reducible exact ih7 _ _ _ _ _ _ _ _)
      | (with_reducible exact ih8 _ _ _ _ _ _ _ _ _)
      | (with_reducible exact bounds_Lengths.mono _ _ _)
      | (with_reducible exact bounds_Next.mono _ _ _)
      | (with_reducible exact evenhandedlaw12_Rows.mono _ _)
      | (with_reducible exact evenhandedlaw16_awake.mono _)
      | (with_reducible exact evenhandedref12_Bound.mono _ _ _)
      | (with_reducible exact LeO.refl _)
      | (with_reducible exact LeO.none _)
      | (with_reducible refine LeO.ite ?_ ?_)
      | (with_reducible refine LeO.bind ?_ (fun _ => ?_))
      | exact ih0 _ _ _
      | exact ih1 _ _ _
      | exact ih2 _ _ _ _ _
      | exact ih3 _ _ _ _ _ _
      | exact ih4 _ _ _ _ _ _ _
      | exact ih5 _ _ _ _ _ _ _ _
      | exact ih6 _ _ _ _ _ _
      | exact ih7 _ _ _ _ _ _ _ _
      | exact ih8 _ _ _ _ _ _ _ _ _
      | exact bounds_Lengths.mono _ _ _
      | exact bounds_Next.mono _ _ _
      | exact evenhandedlaw12_Rows.mono _ _
      | exact evenhandedlaw16_awake.mono _
      | exact evenhandedref12_Bound.mono _ _ _
      | exact LeO.none _
      | refine LeO.ite ?_ ?_
      | refine LeO.bind ?_ (fun _ => ?_)
    · intro y0 y1 y2 y3 y4 y5 y6 y7
      unfold evenhandedlaw16_BoundsNext.j7
      repeat' first
      | (with_reducible exact ih0 _ _ _)
      | (with_reducible exact ih1 _ _ _)
      | (with_reducible exact ih2 _ _ _ _ _)
      | (with_reducible exact ih3 _ _ _ _ _ _)
      | (with_reducible exact ih4 _ _ _ _ _ _ _)
      | (with_reducible exact ih5 _ _ _ _ _ _ _ _)
      | (with_reducible exact ih6 _ _ _ _ _ _)
      | (with_reducible exact ih7 _ _ _ _ _ _ _ _)
      | (with_reducible exact ih8 _ _ _ _ _ _ _ _ _)
      | (with_reducible exact bounds_Lengths.mono _ _ _)
      | (with_reducible exact bounds_Next.mono _ _ _)
      | (with_reducible exact evenhandedlaw12_Rows.mono _ _)
      | (with_reducible exact evenhandedlaw16_awake.mono _)
      | (with_reducible exact evenhandedref12_Bound.mono _ _ _)
      | (with_reducible exact LeO.refl _)
      | (with_reducible exact LeO.none _)
      | (with_reducible refine LeO.ite ?_ ?_)
      | (with_reducible refine LeO.bind ?_ (fun _ => ?_))
      | exact ih0 _ _ _
      | exact ih1 _ _ _
      | exact ih2 _ _ _ _ _
      | exact ih3 _ _ _ _ _ _
      | exact ih4 _ _ _ _ _ _ _
      | exact ih5 _ _ _ _ _ _ _ _
      | exact ih6 _ _ _ _ _ _
      | exact ih7 _ _ _ _ _ _ _ _
      | exact ih8 _ _ _ _ _ _ _ _ _
      | exact bounds_Lengths.mono _ _ _
      | exact bounds_Next.mono _ _ _
      | exact evenhandedlaw12_Rows.mono _ _
      | exact evenhandedlaw16_awake.mono _
      | exact evenhandedref12_Bound.mono _ _ _
      | exact LeO.none _
      | refine LeO.ite ?_ ?_
      | refine LeO.bind ?_ (fun _ => ?_)
    · intro y0 y1 y2 y3 y4 y5 y6 y7 y8
      unfold evenhandedlaw16_BoundsNext.l4
      repeat' first
      | (with_reducible exact ih0 _ _ _)
      | (with_reducible exact ih1 _ _ _)
      | (with_reducible exact ih2 _ _ _ _ _)
      | (with_reducible exact ih3 _ _ _ _ _ _)
      | (with_reducible exact ih4 _ _ _ _ _ _ _)
      | (with_reducible exact ih5 _ _ _ _ _ _ _ _)
      | (with_reducible exact ih6 _ _ _ _ _ _)
      | (with_reducible exact ih7 _ _ _ _ _ _ _ _)
      | (with_reducible exact ih8 _ _ _ _ _ _ _ _ _)
      | (with_reducible exact bounds_Lengths.mono _ _ _)
      | (with_reducible exact bounds_Next.mono _ _ _)
      | (with_reducible exact evenhandedlaw12_Rows.mono _ _)
      | (with_reducible exact evenhandedlaw16_awake.mono _)
      | (with_reducible exact evenhandedref12_Bound.mono _ _ _)
      | (with_reducible exact LeO.refl _)
      | (with_reducible exact LeO.none _)
      | (with_reducible refine LeO.ite ?_ ?_)
      | (with_reducible refine LeO.bind ?_ (fun _ => ?_))
      | exact ih0 _ _ _
      | exact ih1 _ _ _
      | exact ih2 _ _ _ _ _
      | exact ih3 _ _ _ _ _ _
      | exact ih4 _ _ _ _ _ _ _
      | exact ih5 _ _ _ _ _ _ _ _
      | exact ih6 _ _ _ _ _ _
      | exact ih7 _ _ _ _ _ _ _ _
      | exact ih8 _ _ _ _ _ _ _ _ _
      | exact bounds_Lengths.mono _ _ _
      | exact bounds_Next.mono _ _ _
      | exact evenhandedlaw12_Rows.mono _ _
      | exact evenhandedlaw16_awake.mono _
      | exact evenhandedref12_Bound.mono _ _ _
      | exact LeO.none _
      | refine LeO.ite ?_ ?_
      | refine LeO.bind ?_ (fun _ => ?_)
theorem evenhandedlaw16_BoundsNext.mono : ∀ a0 a1 k, LeO (evenhandedlaw16_BoundsNext.f k a0 a1) (evenhandedlaw16_BoundsNext.f (k + 1) a0 a1) := by
  intro a0 a1 k
  obtain ⟨ih0, ih1, ih2, ih3, ih4, ih5, ih6, ih7, ih8⟩ := evenhandedlaw16_BoundsNext.mono_l k
  unfold evenhandedlaw16_BoundsNext.f
  repeat' first
      | (with_reducible exact ih0 _ _ _)
      | (with_reducible exact ih1 _ _ _)
      | (with_reducible exact ih2 _ _ _ _ _)
      | (with_reducible exact ih3 _ _ _ _ _ _)
      | (with_reducible exact ih4 _ _ _ _ _ _ _)
      | (with_reducible exact ih5 _ _ _ _ _ _ _ _)
      | (with_reducible exact ih6 _ _ _ _ _ _)
      | (with_reducible exact ih7 _ _ _ _ _ _ _ _)
      | (with_reducible exact ih8 _ _ _ _ _ _ _ _ _)
      | (with_reducible exact bounds_Lengths.mono _ _ _)
      | (with_reducible exact bounds_Next.mono _ _ _)
      | (with_reducible exact evenhandedlaw12_Rows.mono _ _)
      | (with_reducible exact evenhandedlaw16_awake.mono _)
      | (with_reducible exact evenhandedref12_Bound.mono _ _ _)
      | (with_reducible exact LeO.refl _)
      | (with_reducible exact LeO.none _)
      | (with_reducible refine LeO.ite ?_ ?_)
      | (with_reducible refine LeO.bind ?_ (fun _ => ?_))
      | exact ih0 _ _ _
      | exact ih1 _ _ _
      | exact ih2 _ _ _ _ _
      | exact ih3 _ _ _ _ _ _
      | exact ih4 _ _ _ _ _ _ _
      | exact ih5 _ _ _ _ _ _ _ _
      | exact ih6 _ _ _ _ _ _
      | exact ih7 _ _ _ _ _ _ _ _
      | exact ih8 _ _ _ _ _ _ _ _ _
      | exact bounds_Lengths.mono _ _ _
      | exact bounds_Next.mono _ _ _
      | exact evenhandedlaw12_Rows.mono _ _
      | exact evenhandedlaw16_awake.mono _
      | exact evenhandedref12_Bound.mono _ _ _
      | exact LeO.none _
      | refine LeO.ite ?_ ?_
      | refine LeO.bind ?_ (fun _ => ?_)
set_option maxHeartbeats 8000000 in
set_option maxRecDepth 100000 in
theorem evenhandedlaw16_BoundsNext.calls (k : Nat) (A0 : Option Addr) (c0 : Nat) (l0 : List (S25)) (a1 : Int) (r : Bool) (w : World) (hr0 : Kd.C k25 w A0 l0.length l0) (hc0 : l0.length ≤ c0) (h : evenhandedlaw16_BoundsNext.f k l0 a1 = some r) :
    Calls Try.prog 3 #[.slice A0 l0.length c0, .int .i64 a1] w fun e w' => e = .returned (.bool r) ∧ Below w.heap.size w w' := by
  have HR0 := Aside0.mk hr0
  have HC0 := Aside0.mk hc0
  clear hr0 hc0
  have HB := Aside0.mk (Below.refl w.heap.size w)
  have H : ((evenhandedlaw16_awake.f k).bind fun t151 => (if t151 = true then (if (l0.length : Int) > 100 then (evenhandedlaw16_BoundsNext.j0 k l0 a1 true) else (if a1 < (-1099511627776) then (evenhandedlaw16_BoundsNext.j0 k l0 a1 true) else (evenhandedlaw16_BoundsNext.j0 k l0 a1 (decide (a1 > 1099511627776))))) else (some false))) = some r := h
  clear h
  replace H := Option.bind_eq_some_iff.mp H
  obtain ⟨t151, A30, H⟩ := H
  replace H : (if t151 = true then (if (l0.length : Int) > 100 then (evenhandedlaw16_BoundsNext.j0 k l0 a1 true) else (if a1 < (-1099511627776) then (evenhandedlaw16_BoundsNext.j0 k l0 a1 true) else (evenhandedlaw16_BoundsNext.j0 k l0 a1 (decide (a1 > 1099511627776))))) else (some false)) = some r := H
  have A3 := Aside0.mk A30
  clear A30
  by_cases c4 : t151 = true
  · subst c4
    have H1 : (if (l0.length : Int) > 100 then (evenhandedlaw16_BoundsNext.j0 k l0 a1 true) else (if a1 < (-1099511627776) then (evenhandedlaw16_BoundsNext.j0 k l0 a1 true) else (evenhandedlaw16_BoundsNext.j0 k l0 a1 (decide (a1 > 1099511627776))))) = some r := by rw [if_pos rfl] at H; exact H
    clear H
    have H := H1
    clear H1
    have HC5 := Aside0.mk H
    clear H
    go_enter Try.func3, Try.ntmps3
    go_upto_region 3 with (first | (go_at_call 8; (with_reducible refine (evenhandedlaw16_awake.calls k  true _ A3.out).mono ?_); rintro e w6 ⟨rfl, hb⟩; have n0_ := Aside0.mk (below_step (by repeat (first | (with_reducible first | exact HB.out | apply below_alloc | apply pw_below_drewN | apply below_drew1) | exact HB.out)) hb); clear HB; have HB := n0_; clear n0_; (try clear hb); (try clear hb2); (try clear hk); (try clear hi)))
    repeat (go_quiet (first | (go_at_call 8; (with_reducible refine (evenhandedlaw16_awake.calls k  true _ A3.out).mono ?_); rintro e w6 ⟨rfl, hb⟩; have n0_ := Aside0.mk (below_step (by repeat (first | (with_reducible first | exact HB.out | apply below_alloc | apply pw_below_drewN | apply below_drew1) | exact HB.out)) hb); clear HB; have HB := n0_; clear n0_; (try clear hb); (try clear hb2); (try clear hk); (try clear hi))); go_upto_region 3 with (first | (go_at_call 8; (with_reducible refine (evenhandedlaw16_awake.calls k  true _ A3.out).mono ?_); rintro e w6 ⟨rfl, hb⟩; have n0_ := Aside0.mk (below_step (by repeat (first | (with_reducible first | exact HB.out | apply below_alloc | apply pw_below_drewN | apply below_drew1) | exact HB.out)) hb); clear HB; have HB := n0_; clear n0_; (try clear hb); (try clear hb2); (try clear hk); (try clear hi))))
    (try simp only [Act.put, List.setIfInBounds_toArray, List.set_cons_zero, List.set_cons_succ])
    go_cut [30] (fun v30 wc => ∃ (kq : Nat) (x30_4 : Bool), v30 = .bool x30_4 ∧ Aside0 (evenhandedlaw16_BoundsNext.j0 kq l0 a1 x30_4 = some r) ∧ Aside0 (kq ≤ k) ∧ Aside0 (Below w.heap.size w wc))
    case first =>
      as_aux_lemma =>
        have H := HC5.out
        clear HC5
        by_cases c7 : (l0.length : Int) > 100
        · rw [if_pos c7] at H
          have c7b0 : decide (100 < (l0.length : Int)) = true := decide_eq_true c7
          have c7b1 : decide (100 < l0.length) = true := decide_eq_true (by omega)
          clear c7
          (first | rw [c7b0] | (simp only [i64_w, i32_w]; rw [c7b0]) | skip)
          have H' := Aside0.mk H
          clear H
          go_wp2
          repeat (go_quiet (fail); try go_wp2)
          go_meet
          case rel => exact ⟨_, (true), (by first | rfl | (simp; done) | (simp [*]; done)), H', ⟨by first | omega | exact Nat.le_refl _⟩, ⟨by repeat (first | (with_reducible first | exact HB.out | apply below_alloc | apply pw_below_drewN | apply below_drew1) | exact HB.out)⟩⟩
        · rw [if_neg c7] at H
          have c7b0 : decide (100 < (l0.length : Int)) = false := decide_eq_false c7
          have c7b1 : decide (100 < l0.length) = false := decide_eq_false (by omega)
          clear c7
          (first | rw [c7b0] | (simp only [i64_w, i32_w]; rw [c7b0]) | skip)
          by_cases c8 : a1 < (-1099511627776)
          · rw [if_pos c8] at H
            have c8b0 : decide (a1 < (-1099511627776)) = true := decide_eq_true c8
            clear c8
            have H' := Aside0.mk H
            clear H
            go_wp2
            repeat (go_quiet (fail); try go_wp2)
            go_meet
            case rel => exact ⟨_, (true), (by first | rfl | (simp; done) | (simp [*]; done)), H', ⟨by first | omega | exact Nat.le_refl _⟩, ⟨by repeat (first | (with_reducible first | exact HB.out | apply below_alloc | apply pw_below_drewN | apply below_drew1) | exact HB.out)⟩⟩
          · rw [if_neg c8] at H
            have c8b0 : decide (a1 < (-1099511627776)) = false := decide_eq_false c8
            clear c8
            have H' := Aside0.mk H
            clear H
            go_wp2
            repeat (go_quiet (fail); try go_wp2)
            go_meet
            case rel => exact ⟨_, (decide (a1 > 1099511627776)), (by first | rfl | (simp; done) | (simp [*]; done)), H', ⟨by first | omega | exact Nat.le_refl _⟩, ⟨by repeat (first | (with_reducible first | exact HB.out | apply below_alloc | apply pw_below_drewN | apply below_drew1) | exact HB.out)⟩⟩
    case rest =>
      as_aux_lemma =>
        clear HC5
        try clear p2
        try clear c3
        try clear c4
        try clear c7
        try clear c7b0
        try clear c7b1
        try clear c8
        try clear c8b0
        obtain ⟨kq, x30_4, rfl, HA, HJ4, HB⟩ := hcut
        cases kq with
        | zero => exact absurd HA.out (by simp [evenhandedlaw16_BoundsNext.j0])
        | succ kj4 =>
          have H := HA.out
          clear HA
          simp only [evenhandedlaw16_BoundsNext.j0] at H
          by_cases c9 : x30_4 = true
          · subst c9
            have H1 : (some true) = some r := by rw [if_pos rfl] at H; exact H
            clear H
            have H := H1
            clear H1
            obtain rfl := Option.some.inj H
            go_wp2
            repeat (go_quiet (fail); try go_wp2)
            go_ret
            exact ⟨by first | rfl | (simp [errW_none, errW_some] <;> rfl) | (simp [*, errW_none, errW_some] <;> rfl), by repeat (first | (with_reducible first | exact HB.out | apply below_alloc | apply pw_below_drewN | apply below_drew1) | exact HB.out)⟩
          · replace c9 := Bool.eq_false_iff.mpr c9
            subst c9
            have H1 : (evenhandedlaw16_BoundsNext.l0 kj4 l0 a1 0) = some r := by rw [if_neg (show ¬ (false = true) by decide)] at H; exact H
            clear H
            have H := H1
            clear H1
            have H' := Aside0.mk H
            clear H
            go_wp2
            repeat (go_quiet (fail); try go_wp2)
            go_loopg [5] kj4 (fun kq v5 w' => ∃ (x5_2 : Int), v5 = .int .i64 x5_2 ∧ Aside0 (evenhandedlaw16_BoundsNext.l0 kq l0 a1 x5_2 = some r) ∧ Aside0 (kq ≤ kj4) ∧ Aside0 (Below w.heap.size w w'))
            case atStart => exact ⟨(0), (by first | rfl | (simp; done) | (simp [*]; done)), H', ⟨Nat.le_refl _⟩, ⟨by repeat (first | (with_reducible first | exact HB.out | apply below_alloc | apply pw_below_drewN | apply below_drew1) | exact HB.out)⟩⟩
            case round =>
              as_aux_lemma =>
                clear H'
                try clear p2
                try clear c3
                try clear c4
                try clear c7
                try clear c7b0
                try clear c7b1
                try clear c8
                try clear c8b0
                try clear c9
                try clear p2
                obtain ⟨x5_2, rfl, HA, HK2, HB⟩ := hrel
                cases gk with
                | zero => exact absurd HA.out (by simp [evenhandedlaw16_BoundsNext.l0])
                | succ k2 =>
                  have H := HA.out
                  clear HA
                  simp only [evenhandedlaw16_BoundsNext.l0] at H
                  by_cases c10 : x5_2 < (l0.length : Int)
                  · rw [if_pos c10] at H
                    have c10b0 : decide (x5_2 < (l0.length : Int)) = true := decide_eq_true c10
                    clear c10
                    by_cases c11 : 0 ≤ x5_2
                    · rw [if_pos c11] at H
                      have c11b0 : decide (0 ≤ x5_2) = true := decide_eq_true c11
                      clear c11
                      by_cases c12 : ((rd_T25 l0 x5_2).f7) < (-1099511627776)
                      · rw [if_pos c12] at H
                        have c12b0 : decide (((rd_T25 l0 x5_2).f7) < (-1099511627776)) = true := decide_eq_true c12
                        clear c12
                        obtain rfl := Option.some.inj H
                        have p152 : 0 ≤ (x5_2 : Int) := of_decide_eq_true (by first | (with_reducible assumption) | assumption)
                        have q152 : x5_2 < (l0.length : Int) := of_decide_eq_true (by first | (with_reducible assumption) | assumption)
                        obtain ⟨ad152, e152, -, -, hx152_2, -, -, -, hx152_6, hx152_7, -, -, -⟩ := at_T25 HR0.out x5_2 p152 q152
                        cases e152
                        replace hx152_2 := (HB.out.cell (World.block_lt_of_cell? w _ hx152_2)).trans hx152_2
                        replace hx152_6 := (HB.out.cell (World.block_lt_of_cell? w _ hx152_6)).trans hx152_6
                        replace hx152_7 := (HB.out.cell (World.block_lt_of_cell? w _ hx152_7)).trans hx152_7
                        replace p152 := eq_true p152
                        replace q152 := eq_true q152
                        go_wp2
                        repeat (go_quiet (fail); try go_wp2)
                        go_ret
                        exact ⟨by first | rfl | (simp [errW_none, errW_some] <;> rfl) | (simp [*, errW_none, errW_some] <;> rfl), by repeat (first | (with_reducible first | exact HB.out | apply below_alloc | apply pw_below_drewN | apply below_drew1) | exact HB.out)⟩
                      · rw [if_neg c12] at H
                        have c12b0 : decide (((rd_T25 l0 x5_2).f7) < (-1099511627776)) = false := decide_eq_false c12
                        clear c12
                        by_cases c13 : ((rd_T25 l0 x5_2).f7) > 1099511627776
                        · rw [if_pos c13] at H
                          have c13b0 : decide (1099511627776 < ((rd_T25 l0 x5_2).f7)) = true := decide_eq_true c13
                          clear c13
                          obtain rfl := Option.some.inj H
                          have p152 : 0 ≤ (x5_2 : Int) := of_decide_eq_true (by first | (with_reducible assumption) | assumption)
                          have q152 : x5_2 < (l0.length : Int) := of_decide_eq_true (by first | (with_reducible assumption) | assumption)
                          obtain ⟨ad152, e152, -, -, hx152_2, -, -, -, hx152_6, hx152_7, -, -, -⟩ := at_T25 HR0.out x5_2 p152 q152
                          cases e152
                          replace hx152_2 := (HB.out.cell (World.block_lt_of_cell? w _ hx152_2)).trans hx152_2
                          replace hx152_6 := (HB.out.cell (World.block_lt_of_cell? w _ hx152_6)).trans hx152_6
                          replace hx152_7 := (HB.out.cell (World.block_lt_of_cell? w _ hx152_7)).trans hx152_7
                          replace p152 := eq_true p152
                          replace q152 := eq_true q152
                          have p153 : 0 ≤ (x5_2 : Int) := of_decide_eq_true (by first | (with_reducible assumption) | assumption)
                          have q153 : x5_2 < (l0.length : Int) := of_decide_eq_true (by first | (with_reducible assumption) | assumption)
                          obtain ⟨ad153, e153, -, -, hx153_2, -, -, -, hx153_6, hx153_7, -, -, -⟩ := at_T25 HR0.out x5_2 p153 q153
                          obtain rfl : ad152 = ad153 := (by injection e153)
                          replace hx153_2 := (HB.out.cell (World.block_lt_of_cell? w _ hx153_2)).trans hx153_2
                          replace hx153_6 := (HB.out.cell (World.block_lt_of_cell? w _ hx153_6)).trans hx153_6
                          replace hx153_7 := (HB.out.cell (World.block_lt_of_cell? w _ hx153_7)).trans hx153_7
                          replace p153 := eq_true p153
                          replace q153 := eq_true q153
                          go_wp2
                          repeat (go_quiet (fail); try go_wp2)
                          go_ret
                          exact ⟨by first | rfl | (simp [errW_none, errW_some] <;> rfl) | (simp [*, errW_none, errW_some] <;> rfl), by repeat (first | (with_reducible first | exact HB.out | apply below_alloc | apply pw_below_drewN | apply below_drew1) | exact HB.out)⟩
                        · rw [if_neg c13] at H
                          have c13b0 : decide (1099511627776 < ((rd_T25 l0 x5_2).f7)) = false := decide_eq_false c13
                          clear c13
                          by_cases c14 : ((rd_T25 l0 x5_2).f2) < (-1099511627776)
                          · rw [if_pos c14] at H
                            have c14b0 : decide (((rd_T25 l0 x5_2).f2) < (-1099511627776)) = true := decide_eq_true c14
                            clear c14
                            obtain rfl := Option.some.inj H
                            have p152 : 0 ≤ (x5_2 : Int) := of_decide_eq_true (by first | (with_reducible assumption) | assumption)
                            have q152 : x5_2 < (l0.length : Int) := of_decide_eq_true (by first | (with_reducible assumption) | assumption)
                            obtain ⟨ad152, e152, -, -, hx152_2, -, -, -, hx152_6, hx152_7, -, -, -⟩ := at_T25 HR0.out x5_2 p152 q152
                            cases e152
                            replace hx152_2 := (HB.out.cell (World.block_lt_of_cell? w _ hx152_2)).trans hx152_2
                            replace hx152_6 := (HB.out.cell (World.block_lt_of_cell? w _ hx152_6)).trans hx152_6
                            replace hx152_7 := (HB.out.cell (World.block_lt_of_cell? w _ hx152_7)).trans hx152_7
                            replace p152 := eq_true p152
                            replace q152 := eq_true q152
                            have p153 : 0 ≤ (x5_2 : Int) := of_decide_eq_true (by first | (with_reducible assumption) | assumption)
                            have q153 : x5_2 < (l0.length : Int) := of_decide_eq_true (by first | (with_reducible assumption) | assumption)
                            obtain ⟨ad153, e153, -, -, hx153_2, -, -, -, hx153_6, hx153_7, -, -, -⟩ := at_T25 HR0.out x5_2 p153 q153
                            obtain rfl : ad152 = ad153 := (by injection e153)
                            replace hx153_2 := (HB.out.cell (World.block_lt_of_cell? w _ hx153_2)).trans hx153_2
                            replace hx153_6 := (HB.out.cell (World.block_lt_of_cell? w _ hx153_6)).trans hx153_6
                            replace hx153_7 := (HB.out.cell (World.block_lt_of_cell? w _ hx153_7)).trans hx153_7
                            replace p153 := eq_true p153
                            replace q153 := eq_true q153
                            have p154 : 0 ≤ (x5_2 : Int) := of_decide_eq_true (by first | (with_reducible assumption) | assumption)
                            have q154 : x5_2 < (l0.length : Int) := of_decide_eq_true (by first | (with_reducible assumption) | assumption)
                            obtain ⟨ad154, e154, -, -, hx154_2, -, -, -, hx154_6, hx154_7, -, -, -⟩ := at_T25 HR0.out x5_2 p154 q154
                            obtain rfl : ad152 = ad154 := (by injection e154)
                            replace hx154_2 := (HB.out.cell (World.block_lt_of_cell? w _ hx154_2)).trans hx154_2
                            replace hx154_6 := (HB.out.cell (World.block_lt_of_cell? w _ hx154_6)).trans hx154_6
                            replace hx154_7 := (HB.out.cell (World.block_lt_of_cell? w _ hx154_7)).trans hx154_7
                            replace p154 := eq_true p154
                            replace q154 := eq_true q154
                            go_wp2
                            repeat (go_quiet (fail); try go_wp2)
                            go_ret
                            exact ⟨by first | rfl | (simp [errW_none, errW_some] <;> rfl) | (simp [*, errW_none, errW_some] <;> rfl), by repeat (first | (with_reducible first | exact HB.out | apply below_alloc | apply pw_below_drewN | apply below_drew1) | exact HB.out)⟩
                          · rw [if_neg c14] at H
                            have c14b0 : decide (((rd_T25 l0 x5_2).f2) < (-1099511627776)) = false := decide_eq_false c14
                            clear c14
                            by_cases c15 : ((rd_T25 l0 x5_2).f2) > 1099511627776
                            · rw [if_pos c15] at H
                              have c15b0 : decide (1099511627776 < ((rd_T25 l0 x5_2).f2)) = true := decide_eq_true c15
                              clear c15
                              obtain rfl := Option.some.inj H
                              have p152 : 0 ≤ (x5_2 : Int) := of_decide_eq_true (by first | (with_reducible assumption) | assumption)
                              have q152 : x5_2 < (l0.length : Int) := of_decide_eq_true (by first | (with_reducible assumption) | assumption)
                              obtain ⟨ad152, e152, -, -, hx152_2, -, -, -, hx152_6, hx152_7, -, -, -⟩ := at_T25 HR0.out x5_2 p152 q152
                              cases e152
                              replace hx152_2 := (HB.out.cell (World.block_lt_of_cell? w _ hx152_2)).trans hx152_2
                              replace hx152_6 := (HB.out.cell (World.block_lt_of_cell? w _ hx152_6)).trans hx152_6
                              replace hx152_7 := (HB.out.cell (World.block_lt_of_cell? w _ hx152_7)).trans hx152_7
                              replace p152 := eq_true p152
                              replace q152 := eq_true q152
                              have p153 : 0 ≤ (x5_2 : Int) := of_decide_eq_true (by first | (with_reducible assumption) | assumption)
                              have q153 : x5_2 < (l0.length : Int) := of_decide_eq_true (by first | (with_reducible assumption) | assumption)
                              obtain ⟨ad153, e153, -, -, hx153_2, -, -, -, hx153_6, hx153_7, -, -, -⟩ := at_T25 HR0.out x5_2 p153 q153
                              obtain rfl : ad152 = ad153 := (by injection e153)
                              replace hx153_2 := (HB.out.cell (World.block_lt_of_cell? w _ hx153_2)).trans hx153_2
                              replace hx153_6 := (HB.out.cell (World.block_lt_of_cell? w _ hx153_6)).trans hx153_6
                              replace hx153_7 := (HB.out.cell (World.block_lt_of_cell? w _ hx153_7)).trans hx153_7
                              replace p153 := eq_true p153
                              replace q153 := eq_true q153
                              have p154 : 0 ≤ (x5_2 : Int) := of_decide_eq_true (by first | (with_reducible assumption) | assumption)
                              have q154 : x5_2 < (l0.length : Int) := of_decide_eq_true (by first | (with_reducible assumption) | assumption)
                              obtain ⟨ad154, e154, -, -, hx154_2, -, -, -, hx154_6, hx154_7, -, -, -⟩ := at_T25 HR0.out x5_2 p154 q154
                              obtain rfl : ad152 = ad154 := (by injection e154)
                              replace hx154_2 := (HB.out.cell (World.block_lt_of_cell? w _ hx154_2)).trans hx154_2
                              replace hx154_6 := (HB.out.cell (World.block_lt_of_cell? w _ hx154_6)).trans hx154_6
                              replace hx154_7 := (HB.out.cell (World.block_lt_of_cell? w _ hx154_7)).trans hx154_7
                              replace p154 := eq_true p154
                              replace q154 := eq_true q154
                              have p155 : 0 ≤ (x5_2 : Int) := of_decide_eq_true (by first | (with_reducible assumption) | assumption)
                              have q155 : x5_2 < (l0.length : Int) := of_decide_eq_true (by first | (with_reducible assumption) | assumption)
                              obtain ⟨ad155, e155, -, -, hx155_2, -, -, -, hx155_6, hx155_7, -, -, -⟩ := at_T25 HR0.out x5_2 p155 q155
                              obtain rfl : ad152 = ad155 := (by injection e155)
                              replace hx155_2 := (HB.out.cell (World.block_lt_of_cell? w _ hx155_2)).trans hx155_2
                              replace hx155_6 := (HB.out.cell (World.block_lt_of_cell? w _ hx155_6)).trans hx155_6
                              replace hx155_7 := (HB.out.cell (World.block_lt_of_cell? w _ hx155_7)).trans hx155_7
                              replace p155 := eq_true p155
                              replace q155 := eq_true q155
                              go_wp2
                              repeat (go_quiet (fail); try go_wp2)
                              go_ret
                              exact ⟨by first | rfl | (simp [errW_none, errW_some] <;> rfl) | (simp [*, errW_none, errW_some] <;> rfl), by repeat (first | (with_reducible first | exact HB.out | apply below_alloc | apply pw_below_drewN | apply below_drew1) | exact HB.out)⟩
                            · rw [if_neg c15] at H
                              have c15b0 : decide (1099511627776 < ((rd_T25 l0 x5_2).f2)) = false := decide_eq_false c15
                              clear c15
                              have H' := Aside0.mk H
                              clear H
                              have p152 : 0 ≤ (x5_2 : Int) := of_decide_eq_true (by first | (with_reducible assumption) | assumption)
                              have q152 : x5_2 < (l0.length : Int) := of_decide_eq_true (by first | (with_reducible assumption) | assumption)
                              obtain ⟨ad152, e152, -, -, hx152_2, -, -, -, hx152_6, hx152_7, -, -, -⟩ := at_T25 HR0.out x5_2 p152 q152
                              cases e152
                              replace hx152_2 := (HB.out.cell (World.block_lt_of_cell? w _ hx152_2)).trans hx152_2
                              replace hx152_6 := (HB.out.cell (World.block_lt_of_cell? w _ hx152_6)).trans hx152_6
                              replace hx152_7 := (HB.out.cell (World.block_lt_of_cell? w _ hx152_7)).trans hx152_7
                              replace p152 := eq_true p152
                              replace q152 := eq_true q152
                              have p153 : 0 ≤ (x5_2 : Int) := of_decide_eq_true (by first | (with_reducible assumption) | assumption)
                              have q153 : x5_2 < (l0.length : Int) := of_decide_eq_true (by first | (with_reducible assumption) | assumption)
                              obtain ⟨ad153, e153, -, -, hx153_2, -, -, -, hx153_6, hx153_7, -, -, -⟩ := at_T25 HR0.out x5_2 p153 q153
                              obtain rfl : ad152 = ad153 := (by injection e153)
                              replace hx153_2 := (HB.out.cell (World.block_lt_of_cell? w _ hx153_2)).trans hx153_2
                              replace hx153_6 := (HB.out.cell (World.block_lt_of_cell? w _ hx153_6)).trans hx153_6
                              replace hx153_7 := (HB.out.cell (World.block_lt_of_cell? w _ hx153_7)).trans hx153_7
                              replace p153 := eq_true p153
                              replace q153 := eq_true q153
                              have p154 : 0 ≤ (x5_2 : Int) := of_decide_eq_true (by first | (with_reducible assumption) | assumption)
                              have q154 : x5_2 < (l0.length : Int) := of_decide_eq_true (by first | (with_reducible assumption) | assumption)
                              obtain ⟨ad154, e154, -, -, hx154_2, -, -, -, hx154_6, hx154_7, -, -, -⟩ := at_T25 HR0.out x5_2 p154 q154
                              obtain rfl : ad152 = ad154 := (by injection e154)
                              replace hx154_2 := (HB.out.cell (World.block_lt_of_cell? w _ hx154_2)).trans hx154_2
                              replace hx154_6 := (HB.out.cell (World.block_lt_of_cell? w _ hx154_6)).trans hx154_6
                              replace hx154_7 := (HB.out.cell (World.block_lt_of_cell? w _ hx154_7)).trans hx154_7
                              replace p154 := eq_true p154
                              replace q154 := eq_true q154
                              have p155 : 0 ≤ (x5_2 : Int) := of_decide_eq_true (by first | (with_reducible assumption) | assumption)
                              have q155 : x5_2 < (l0.length : Int) := of_decide_eq_true (by first | (with_reducible assumption) | assumption)
                              obtain ⟨ad155, e155, -, -, hx155_2, -, -, -, hx155_6, hx155_7, -, -, -⟩ := at_T25 HR0.out x5_2 p155 q155
                              obtain rfl : ad152 = ad155 := (by injection e155)
                              replace hx155_2 := (HB.out.cell (World.block_lt_of_cell? w _ hx155_2)).trans hx155_2
                              replace hx155_6 := (HB.out.cell (World.block_lt_of_cell? w _ hx155_6)).trans hx155_6
                              replace hx155_7 := (HB.out.cell (World.block_lt_of_cell? w _ hx155_7)).trans hx155_7
                              replace p155 := eq_true p155
                              replace q155 := eq_true q155
                              go_wp2
                              repeat (go_quiet (fail); try go_wp2)
                              go_roundg k2
                              case measure => have := HJ4.out; have := HK2.out; omega
                              case rel => exact ⟨(wrap64 (x5_2 + 1)), (by first | rfl | (simp; done) | (simp [*]; done)), H', ⟨by have := HJ4.out; have := HK2.out; omega⟩, ⟨by repeat (first | (with_reducible first | exact HB.out | apply below_alloc | apply pw_below_drewN | apply below_drew1) | exact HB.out)⟩⟩
                    · rw [if_neg c11] at H
                      exact absurd H (by simp)
                  · rw [if_neg c10] at H
                    have c10b0 : decide (x5_2 < (l0.length : Int)) = false := decide_eq_false c10
                    clear c10
                    replace H := Option.bind_eq_some_iff.mp H
                    obtain ⟨t156, A160, H⟩ := H
                    replace H : ((bounds_Next.f k2 t156 a1).bind fun bt159 => ((evenhandedref12_Bound.f k2 l0 a1).bind fun bt161 => (if bt159.1 = bt161.1 then (evenhandedlaw16_BoundsNext.j2 k2 l0 a1 bt159.1 bt159.2 (bt159.2 != bt161.2)) else (evenhandedlaw16_BoundsNext.j2 k2 l0 a1 bt159.1 bt159.2 true)))) = some r := H
                    have A16 := Aside0.mk A160
                    clear A160
                    replace H := Option.bind_eq_some_iff.mp H
                    obtain ⟨⟨t159, t160⟩, A170, H⟩ := H
                    replace H : ((evenhandedref12_Bound.f k2 l0 a1).bind fun bt161 => (if t159 = bt161.1 then (evenhandedlaw16_BoundsNext.j2 k2 l0 a1 t159 t160 (t160 != bt161.2)) else (evenhandedlaw16_BoundsNext.j2 k2 l0 a1 t159 t160 true))) = some r := H
                    have A17 := Aside0.mk A170
                    clear A170
                    replace H := Option.bind_eq_some_iff.mp H
                    obtain ⟨⟨t161, t162⟩, A180, H⟩ := H
                    replace H : (if t159 = t161 then (evenhandedlaw16_BoundsNext.j2 k2 l0 a1 t159 t160 (t160 != t162)) else (evenhandedlaw16_BoundsNext.j2 k2 l0 a1 t159 t160 true)) = some r := H
                    have A18 := Aside0.mk A180
                    clear A180
                    have HC19 := Aside0.mk H
                    clear H
                    go_upto_region 12 with (first | (go_at_call 10; (with_reducible refine (evenhandedlaw12_Rows.calls k2 _ _ l0 t156 _ ?side1 ?side2 A16.out).mono ?_); (case side1 => repeat (first | exact (Kd.C_below HR0.out HB.out) | (with_reducible refine Kd.C_alloc ?_ _) | (with_reducible refine Kd.C_drewN ?_ _) | (with_reducible refine Kd.C_drew ?_))); (case side2 => exact HC0.out); rintro e w20 ⟨v157, rfl, ho0, hb⟩; have n0_ := Aside0.mk (Kd.R_lower ho0 (below_size (by repeat (first | (with_reducible first | exact HB.out | apply below_alloc | apply pw_below_drewN | apply below_drew1) | exact HB.out)))); have n1_ := Aside0.mk (below_step (by repeat (first | (with_reducible first | exact HB.out | apply below_alloc | apply pw_below_drewN | apply below_drew1) | exact HB.out)) hb); clear HB; have HO158 := n0_; have HB := n1_; clear n0_ n1_; (try clear hb); (try clear hb2); (try clear hk); (try clear hi); (try clear ho0); obtain ⟨Ao21, co21, eo21⟩ := Kd.R_slice HO158.out; subst eo21) | (go_at_call 9; (with_reducible refine (bounds_Next.calls k2 _ _ t156 a1 t159 t160 _ ?side1 ?side2 A17.out).mono ?_); (case side1 => repeat (first | exact (Kd.R_reads' HO158.out).2.2 | (with_reducible refine Kd.C_alloc ?_ _) | (with_reducible refine Kd.C_drewN ?_ _) | (with_reducible refine Kd.C_drew ?_))); (case side2 => exact (Kd.R_reads' HO158.out).2.1); rintro e w22 ⟨rfl, hb⟩; have n0_ := Aside0.mk (Kd.R_below (by (with_reducible repeat (first | apply Kd.R_alloc | apply Kd.R_drewN | apply Kd.R_drew)); exact HO158.out) hb); have n1_ := Aside0.mk (below_step (by repeat (first | (with_reducible first | exact HB.out | apply below_alloc | apply pw_below_drewN | apply below_drew1) | exact HB.out)) hb); clear HO158; clear HB; have HO158 := n0_; have HB := n1_; clear n0_ n1_; (try clear hb); (try clear hb2); (try clear hk); (try clear hi)) | (go_at_call 11; (with_reducible refine (evenhandedref12_Bound.calls k2 _ _ l0 a1 t161 t162 _ ?side1 ?side2 A18.out).mono ?_); (case side1 => repeat (first | exact (Kd.C_below HR0.out HB.out) | (with_reducible refine Kd.C_alloc ?_ _) | (with_reducible refine Kd.C_drewN ?_ _) | (with_reducible refine Kd.C_drew ?_))); (case side2 => exact HC0.out); rintro e w' ⟨rfl, ⟨nd, rfl⟩⟩; (try first | exact ⟨rfl, _, World.drewN_drewN _ _ _⟩ | exact ⟨rfl, _, Eq.trans (World.drewN_drewN _ _ _) (congrArg (World.drewN _) (Nat.add_assoc _ _ _))⟩)))
                    repeat (go_quiet (first | (go_at_call 10; (with_reducible refine (evenhandedlaw12_Rows.calls k2 _ _ l0 t156 _ ?side1 ?side2 A16.out).mono ?_); (case side1 => repeat (first | exact (Kd.C_below HR0.out HB.out) | (with_reducible refine Kd.C_alloc ?_ _) | (with_reducible refine Kd.C_drewN ?_ _) | (with_reducible refine Kd.C_drew ?_))); (case side2 => exact HC0.out); rintro e w20 ⟨v157, rfl, ho0, hb⟩; have n0_ := Aside0.mk (Kd.R_lower ho0 (below_size (by repeat (first | (with_reducible first | exact HB.out | apply below_alloc | apply pw_below_drewN | apply below_drew1) | exact HB.out)))); have n1_ := Aside0.mk (below_step (by repeat (first | (with_reducible first | exact HB.out | apply below_alloc | apply pw_below_drewN | apply below_drew1) | exact HB.out)) hb); clear HB; have HO158 := n0_; have HB := n1_; clear n0_ n1_; (try clear hb); (try clear hb2); (try clear hk); (try clear hi); (try clear ho0); obtain ⟨Ao21, co21, eo21⟩ := Kd.R_slice HO158.out; subst eo21) | (go_at_call 9; (with_reducible refine (bounds_Next.calls k2 _ _ t156 a1 t159 t160 _ ?side1 ?side2 A17.out).mono ?_); (case side1 => repeat (first | exact (Kd.R_reads' HO158.out).2.2 | (with_reducible refine Kd.C_alloc ?_ _) | (with_reducible refine Kd.C_drewN ?_ _) | (with_reducible refine Kd.C_drew ?_))); (case side2 => exact (Kd.R_reads' HO158.out).2.1); rintro e w22 ⟨rfl, hb⟩; have n0_ := Aside0.mk (Kd.R_below (by (with_reducible repeat (first | apply Kd.R_alloc | apply Kd.R_drewN | apply Kd.R_drew)); exact HO158.out) hb); have n1_ := Aside0.mk (below_step (by repeat (first | (with_reducible first | exact HB.out | apply below_alloc | apply pw_below_drewN | apply below_drew1) | exact HB.out)) hb); clear HO158; clear HB; have HO158 := n0_; have HB := n1_; clear n0_ n1_; (try clear hb); (try clear hb2); (try clear hk); (try clear hi)) | (go_at_call 11; (with_reducible refine (evenhandedref12_Bound.calls k2 _ _ l0 a1 t161 t162 _ ?side1 ?side2 A18.out).mono ?_); (case side1 => repeat (first | exact (Kd.C_below HR0.out HB.out) | (with_reducible refine Kd.C_alloc ?_ _) | (with_reducible refine Kd.C_drewN ?_ _) | (with_reducible refine Kd.C_drew ?_))); (case side2 => exact HC0.out); rintro e w' ⟨rfl, ⟨nd, rfl⟩⟩; (try first | exact ⟨rfl, _, World.drewN_drewN _ _ _⟩ | exact ⟨rfl, _, Eq.trans (World.drewN_drewN _ _ _) (congrArg (World.drewN _) (Nat.add_assoc _ _ _))⟩))); go_upto_region 12 with (first | (go_at_call 10; (with_reducible refine (evenhandedlaw12_Rows.calls k2 _ _ l0 t156 _ ?side1 ?side2 A16.out).mono ?_); (case side1 => repeat (first | exact (Kd.C_below HR0.out HB.out) | (with_reducible refine Kd.C_alloc ?_ _) | (with_reducible refine Kd.C_drewN ?_ _) | (with_reducible refine Kd.C_drew ?_))); (case side2 => exact HC0.out); rintro e w20 ⟨v157, rfl, ho0, hb⟩; have n0_ := Aside0.mk (Kd.R_lower ho0 (below_size (by repeat (first | (with_reducible first | exact HB.out | apply below_alloc | apply pw_below_drewN | apply below_drew1) | exact HB.out)))); have n1_ := Aside0.mk (below_step (by repeat (first | (with_reducible first | exact HB.out | apply below_alloc | apply pw_below_drewN | apply below_drew1) | exact HB.out)) hb); clear HB; have HO158 := n0_; have HB := n1_; clear n0_ n1_; (try clear hb); (try clear hb2); (try clear hk); (try clear hi); (try clear ho0); obtain ⟨Ao21, co21, eo21⟩ := Kd.R_slice HO158.out; subst eo21) | (go_at_call 9; (with_reducible refine (bounds_Next.calls k2 _ _ t156 a1 t159 t160 _ ?side1 ?side2 A17.out).mono ?_); (case side1 => repeat (first | exact (Kd.R_reads' HO158.out).2.2 | (with_reducible refine Kd.C_alloc ?_ _) | (with_reducible refine Kd.C_drewN ?_ _) | (with_reducible refine Kd.C_drew ?_))); (case side2 => exact (Kd.R_reads' HO158.out).2.1); rintro e w22 ⟨rfl, hb⟩; have n0_ := Aside0.mk (Kd.R_below (by (with_reducible repeat (first | apply Kd.R_alloc | apply Kd.R_drewN | apply Kd.R_drew)); exact HO158.out) hb); have n1_ := Aside0.mk (below_step (by repeat (first | (with_reducible first | exact HB.out | apply below_alloc | apply pw_below_drewN | apply below_drew1) | exact HB.out)) hb); clear HO158; clear HB; have HO158 := n0_; have HB := n1_; clear n0_ n1_; (try clear hb); (try clear hb2); (try clear hk); (try clear hi)) | (go_at_call 11; (with_reducible refine (evenhandedref12_Bound.calls k2 _ _ l0 a1 t161 t162 _ ?side1 ?side2 A18.out).mono ?_); (case side1 => repeat (first | exact (Kd.C_below HR0.out HB.out) | (with_reducible refine Kd.C_alloc ?_ _) | (with_reducible refine Kd.C_drewN ?_ _) | (with_reducible refine Kd.C_drew ?_))); (case side2 => exact HC0.out); rintro e w' ⟨rfl, ⟨nd, rfl⟩⟩; (try first | exact ⟨rfl, _, World.drewN_drewN _ _ _⟩ | exact ⟨rfl, _, Eq.trans (World.drewN_drewN _ _ _) (congrArg (World.drewN _) (Nat.add_assoc _ _ _))⟩))))
                    (try simp only [Act.put, List.setIfInBounds_toArray, List.set_cons_zero, List.set_cons_succ])
                    go_cut [87] (fun v87 wc => ∃ (kq : Nat) (x87_18 : Bool), v87 = .bool x87_18 ∧ Aside0 (evenhandedlaw16_BoundsNext.j2 kq l0 a1 t159 t160 x87_18 = some r) ∧ Aside0 (kq ≤ k2) ∧ Aside0 (Below w.heap.size w wc))
                    case first =>
                      as_aux_lemma =>
                        have H := HC19.out
                        clear HC19
                        by_cases c23 : t159 = t161
                        · rw [if_pos c23] at H
                          have c23b0 : (t159 == t161) = true := beq_iff_eq.mpr c23
                          have c23b1 : (t159 != t161) = false := bne_eq_false_iff_eq.mpr c23
                          clear c23
                          (first | rw [c23b0] | (simp only [i64_w, i32_w]; rw [c23b0]) | skip)
                          have H' := Aside0.mk H
                          clear H
                          go_wp2
                          repeat (go_quiet (fail); try go_wp2)
                          go_meet
                          case rel => exact ⟨_, ((t160 != t162)), (by first | rfl | (simp; done) | (simp [*]; done)), H', ⟨by have := HJ4.out; have := HK2.out; first | omega | exact Nat.le_refl _⟩, ⟨by repeat (first | (with_reducible first | exact HB.out | apply below_alloc | apply pw_below_drewN | apply below_drew1) | exact HB.out)⟩⟩
                        · rw [if_neg c23] at H
                          have c23b0 : (t159 == t161) = false := beq_eq_false_iff_ne.mpr c23
                          have c23b1 : (t159 != t161) = true := bne_iff_ne.mpr c23
                          (first | rw [c23b0] | (simp only [i64_w, i32_w]; rw [c23b0]) | skip)
                          have H' := Aside0.mk H
                          clear H
                          go_wp2
                          repeat (go_quiet (fail); try go_wp2)
                          go_meet
                          case rel => exact ⟨_, (true), (by first | rfl | (simp; done) | (simp [*]; done)), H', ⟨by have := HJ4.out; have := HK2.out; first | omega | exact Nat.le_refl _⟩, ⟨by repeat (first | (with_reducible first | exact HB.out | apply below_alloc | apply pw_below_drewN | apply below_drew1) | exact HB.out)⟩⟩
                    case rest =>
                      as_aux_lemma =>
                        clear HC19
                        try clear c1
                        try clear p1
                        try clear q1
                        try clear hx1
                        try clear c2
                        try clear p2
                        try clear c3
                        try clear c4
                        try clear p6
                        try clear c7
                        try clear c7b0
                        try clear c7b1
                        try clear c8
                        try clear c8b0
                        try clear c9
                        try clear c10
                        try clear c10b0
                        try clear c11
                        try clear c11b0
                        try clear c12
                        try clear c12b0
                        try clear c13
                        try clear c13b0
                        try clear c14
                        try clear c14b0
                        try clear c15
                        try clear c15b0
                        try clear p15
                        try clear q15
                        try clear hx15
                        try clear c23
                        try clear c23b0
                        try clear c23b1
                        try clear hx152_0
                        try clear hx152_1
                        try clear hx152_10
                        try clear hx152_2
                        try clear hx152_3
                        try clear hx152_4
                        try clear hx152_5
                        try clear hx152_6
                        try clear hx152_7
                        try clear hx152_8
                        try clear hx152_9
                        try clear hx153_0
                        try clear hx153_1
                        try clear hx153_10
                        try clear hx153_2
                        try clear hx153_3
                        try clear hx153_4
                        try clear hx153_5
                        try clear hx153_6
                        try clear hx153_7
                        try clear hx153_8
                        try clear hx153_9
                        try clear hx154_0
                        try clear hx154_1
                        try clear hx154_10
                        try clear hx154_2
                        try clear hx154_3
                        try clear hx154_4
                        try clear hx154_5
                        try clear hx154_6
                        try clear hx154_7
                        try clear hx154_8
                        try clear hx154_9
                        try clear hx155_0
                        try clear hx155_1
                        try clear hx155_10
                        try clear hx155_2
                        try clear hx155_3
                        try clear hx155_4
                        try clear hx155_5
                        try clear hx155_6
                        try clear hx155_7
                        try clear hx155_8
                        try clear hx155_9
                        try clear p152
                        try clear p153
                        try clear p154
                        try clear p155
                        try clear p2
                        try clear q152
                        try clear q153
                        try clear q154
                        try clear q155
                        obtain ⟨kq, x87_18, rfl, HA, HJ18, HB⟩ := hcut
                        cases kq with
                        | zero => exact absurd HA.out (by simp [evenhandedlaw16_BoundsNext.j2])
                        | succ kj18 =>
                          have H := HA.out
                          clear HA
                          simp only [evenhandedlaw16_BoundsNext.j2] at H
                          by_cases c24 : x87_18 = true
                          · subst c24
                            have H1 : (some false) = some r := by rw [if_pos rfl] at H; exact H
                            clear H
                            have H := H1
                            clear H1
                            obtain rfl := Option.some.inj H
                            go_wp2
                            repeat (go_quiet (fail); try go_wp2)
                            go_ret
                            exact ⟨by first | rfl | (simp [errW_none, errW_some] <;> rfl) | (simp [*, errW_none, errW_some] <;> rfl), by repeat (first | (with_reducible first | exact HB.out | apply below_alloc | apply pw_below_drewN | apply below_drew1) | exact HB.out)⟩
                          · replace c24 := Bool.eq_false_iff.mpr c24
                            subst c24
                            have H1 : ((evenhandedlaw12_Rows.f kj18 l0).bind fun t163 => ((bounds_Lengths.f kj18 t163 a1).bind fun t166 => (evenhandedlaw16_BoundsNext.l1 kj18 l0 a1 t159 t160 t166 0))) = some r := by rw [if_neg (show ¬ (false = true) by decide)] at H; exact H
                            clear H
                            have H := H1
                            clear H1
                            replace H := Option.bind_eq_some_iff.mp H
                            obtain ⟨t163, A250, H⟩ := H
                            replace H : ((bounds_Lengths.f kj18 t163 a1).bind fun t166 => (evenhandedlaw16_BoundsNext.l1 kj18 l0 a1 t159 t160 t166 0)) = some r := H
                            have A25 := Aside0.mk A250
                            clear A250
                            replace H := Option.bind_eq_some_iff.mp H
                            obtain ⟨t166, A260, H⟩ := H
                            replace H : (evenhandedlaw16_BoundsNext.l1 kj18 l0 a1 t159 t160 t166 0) = some r := H
                            have A26 := Aside0.mk A260
                            clear A260
                            have H' := Aside0.mk H
                            clear H
                            go_wp2_with (first | (go_at_call 10; (with_reducible refine (evenhandedlaw12_Rows.calls kj18 _ _ l0 t163 _ ?side1 ?side2 A25.out).mono ?_); (case side1 => repeat (first | exact (Kd.C_below HR0.out HB.out) | (with_reducible refine Kd.C_alloc ?_ _) | (with_reducible refine Kd.C_drewN ?_ _) | (with_reducible refine Kd.C_drew ?_))); (case side2 => exact HC0.out); rintro e w27 ⟨v164, rfl, ho0, hb⟩; have n0_ := Aside0.mk (Kd.R_lower ho0 (below_size (by repeat (first | (with_reducible first | exact HB.out | apply below_alloc | apply pw_below_drewN | apply below_drew1) | exact HB.out)))); have n1_ := Aside0.mk (below_step (by repeat (first | (with_reducible first | exact HB.out | apply below_alloc | apply pw_below_drewN | apply below_drew1) | exact HB.out)) hb); clear HB; have HO165 := n0_; have HB := n1_; clear n0_ n1_; (try clear hb); (try clear hb2); (try clear hk); (try clear hi); (try clear ho0); obtain ⟨Ao28, co28, eo28⟩ := Kd.R_slice HO165.out; subst eo28) | (go_at_call 12; (with_reducible refine (bounds_Lengths.calls kj18 _ _ t163 a1 t166 _ ?side1 ?side2 A26.out).mono ?_); (case side1 => repeat (first | exact (Kd.R_reads' HO165.out).2.2 | (with_reducible refine Kd.C_alloc ?_ _) | (with_reducible refine Kd.C_drewN ?_ _) | (with_reducible refine Kd.C_drew ?_))); (case side2 => exact (Kd.R_reads' HO165.out).2.1); rintro e w29 ⟨v167, rfl, ho0, hb⟩; have n0_ := Aside0.mk (Kd.R_below (by (with_reducible repeat (first | apply Kd.R_alloc | apply Kd.R_drewN | apply Kd.R_drew)); exact HO165.out) hb); have n1_ := Aside0.mk (Kd.R_lower ho0 (below_size (by repeat (first | (with_reducible first | exact HB.out | apply below_alloc | apply pw_below_drewN | apply below_drew1) | exact HB.out)))); have n2_ := Aside0.mk (below_step (by repeat (first | (with_reducible first | exact HB.out | apply below_alloc | apply pw_below_drewN | apply below_drew1) | exact HB.out)) hb); clear HO165; clear HB; have HO165 := n0_; have HO168 := n1_; have HB := n2_; clear n0_ n1_ n2_; (try clear hb); (try clear hb2); (try clear hk); (try clear hi); (try clear ho0)))
                            repeat (go_quiet (first | (go_at_call 10; (with_reducible refine (evenhandedlaw12_Rows.calls kj18 _ _ l0 t163 _ ?side1 ?side2 A25.out).mono ?_); (case side1 => repeat (first | exact (Kd.C_below HR0.out HB.out) | (with_reducible refine Kd.C_alloc ?_ _) | (with_reducible refine Kd.C_drewN ?_ _) | (with_reducible refine Kd.C_drew ?_))); (case side2 => exact HC0.out); rintro e w27 ⟨v164, rfl, ho0, hb⟩; have n0_ := Aside0.mk (Kd.R_lower ho0 (below_size (by repeat (first | (with_reducible first | exact HB.out | apply below_alloc | apply pw_below_drewN | apply below_drew1) | exact HB.out)))); have n1_ := Aside0.mk (below_step (by repeat (first | (with_reducible first | exact HB.out | apply below_alloc | apply pw_below_drewN | apply below_drew1) | exact HB.out)) hb); clear HB; have HO165 := n0_; have HB := n1_; clear n0_ n1_; (try clear hb); (try clear hb2); (try clear hk); (try clear hi); (try clear ho0); obtain ⟨Ao28, co28, eo28⟩ := Kd.R_slice HO165.out; subst eo28) | (go_at_call 12; (with_reducible refine (bounds_Lengths.calls kj18 _ _ t163 a1 t166 _ ?side1 ?side2 A26.out).mono ?_); (case side1 => repeat (first | exact (Kd.R_reads' HO165.out).2.2 | (with_reducible refine Kd.C_alloc ?_ _) | (with_reducible refine Kd.C_drewN ?_ _) | (with_reducible refine Kd.C_drew ?_))); (case side2 => exact (Kd.R_reads' HO165.out).2.1); rintro e w29 ⟨v167, rfl, ho0, hb⟩; have n0_ := Aside0.mk (Kd.R_below (by (with_reducible repeat (first | apply Kd.R_alloc | apply Kd.R_drewN | apply Kd.R_drew)); exact HO165.out) hb); have n1_ := Aside0.mk (Kd.R_lower ho0 (below_size (by repeat (first | (with_reducible first | exact HB.out | apply below_alloc | apply pw_below_drewN | apply below_drew1) | exact HB.out)))); have n2_ := Aside0.mk (below_step (by repeat (first | (with_reducible first | exact HB.out | apply below_alloc | apply pw_below_drewN | apply below_drew1) | exact HB.out)) hb); clear HO165; clear HB; have HO165 := n0_; have HO168 := n1_; have HB := n2_; clear n0_ n1_ n2_; (try clear hb); (try clear hb2); (try clear hk); (try clear hi); (try clear ho0))); try go_wp2_with (first | (go_at_call 10; (with_reducible refine (evenhandedlaw12_Rows.calls kj18 _ _ l0 t163 _ ?side1 ?side2 A25.out).mono ?_); (case side1 => repeat (first | exact (Kd.C_below HR0.out HB.out) | (with_reducible refine Kd.C_alloc ?_ _) | (with_reducible refine Kd.C_drewN ?_ _) | (with_reducible refine Kd.C_drew ?_))); (case side2 => exact HC0.out); rintro e w27 ⟨v164, rfl, ho0, hb⟩; have n0_ := Aside0.mk (Kd.R_lower ho0 (below_size (by repeat (first | (with_reducible first | exact HB.out | apply below_alloc | apply pw_below_drewN | apply below_drew1) | exact HB.out)))); have n1_ := Aside0.mk (below_step (by repeat (first | (with_reducible first | exact HB.out | apply below_alloc | apply pw_below_drewN | apply below_drew1) | exact HB.out)) hb); clear HB; have HO165 := n0_; have HB := n1_; clear n0_ n1_; (try clear hb); (try clear hb2); (try clear hk); (try clear hi); (try clear ho0); obtain ⟨Ao28, co28, eo28⟩ := Kd.R_slice HO165.out; subst eo28) | (go_at_call 12; (with_reducible refine (bounds_Lengths.calls kj18 _ _ t163 a1 t166 _ ?side1 ?side2 A26.out).mono ?_); (case side1 => repeat (first | exact (Kd.R_reads' HO165.out).2.2 | (with_reducible refine Kd.C_alloc ?_ _) | (with_reducible refine Kd.C_drewN ?_ _) | (with_reducible refine Kd.C_drew ?_))); (case side2 => exact (Kd.R_reads' HO165.out).2.1); rintro e w29 ⟨v167, rfl, ho0, hb⟩; have n0_ := Aside0.mk (Kd.R_below (by (with_reducible repeat (first | apply Kd.R_alloc | apply Kd.R_drewN | apply Kd.R_drew)); exact HO165.out) hb); have n1_ := Aside0.mk (Kd.R_lower ho0 (below_size (by repeat (first | (with_reducible first | exact HB.out | apply below_alloc | apply pw_below_drewN | apply below_drew1) | exact HB.out)))); have n2_ := Aside0.mk (below_step (by repeat (first | (with_reducible first | exact HB.out | apply below_alloc | apply pw_below_drewN | apply below_drew1) | exact HB.out)) hb); clear HO165; clear HB; have HO165 := n0_; have HO168 := n1_; have HB := n2_; clear n0_ n1_ n2_; (try clear hb); (try clear hb2); (try clear hk); (try clear hi); (try clear ho0))))
                            go_loopg [11] kj18 (fun kq v11 w' => ∃ (x11_4 : Int), v11 = .int .i64 x11_4 ∧ Aside0 (evenhandedlaw16_BoundsNext.l1 kq l0 a1 t159 t160 t166 x11_4 = some r) ∧ Aside0 (kq ≤ kj18) ∧ Aside0 (Kd.R (Kd.int .i64) 3 w' w.heap.size (fun _ => True) v167 t166) ∧ Aside0 (Below w.heap.size w w'))
                            case atStart => exact ⟨(0), (by first | rfl | (simp; done) | (simp [*]; done)), H', ⟨Nat.le_refl _⟩, ⟨by (with_reducible repeat (first | apply Kd.R_alloc | apply Kd.R_drewN | apply Kd.R_drew)); exact HO168.out⟩, ⟨by repeat (first | (with_reducible first | exact HB.out | apply below_alloc | apply pw_below_drewN | apply below_drew1) | exact HB.out)⟩⟩
                            case round =>
                              as_aux_lemma =>
                                clear H'
                                try clear c1
                                try clear p1
                                try clear q1
                                try clear hx1
                                try clear c2
                                try clear p2
                                try clear c3
                                try clear c4
                                try clear p6
                                try clear c7
                                try clear c7b0
                                try clear c7b1
                                try clear c8
                                try clear c8b0
                                try clear c9
                                try clear c10
                                try clear c10b0
                                try clear c11
                                try clear c11b0
                                try clear c12
                                try clear c12b0
                                try clear c13
                                try clear c13b0
                                try clear c14
                                try clear c14b0
                                try clear c15
                                try clear c15b0
                                try clear p15
                                try clear q15
                                try clear hx15
                                try clear c23
                                try clear c23b0
                                try clear c23b1
                                try clear c24
                                try clear hx152_0
                                try clear hx152_1
                                try clear hx152_10
                                try clear hx152_2
                                try clear hx152_3
                                try clear hx152_4
                                try clear hx152_5
                                try clear hx152_6
                                try clear hx152_7
                                try clear hx152_8
                                try clear hx152_9
                                try clear hx153_0
                                try clear hx153_1
                                try clear hx153_10
                                try clear hx153_2
                                try clear hx153_3
                                try clear hx153_4
                                try clear hx153_5
                                try clear hx153_6
                                try clear hx153_7
                                try clear hx153_8
                                try clear hx153_9
                                try clear hx154_0
                                try clear hx154_1
                                try clear hx154_10
                                try clear hx154_2
                                try clear hx154_3
                                try clear hx154_4
                                try clear hx154_5
                                try clear hx154_6
                                try clear hx154_7
                                try clear hx154_8
                                try clear hx154_9
                                try clear hx155_0
                                try clear hx155_1
                                try clear hx155_10
                                try clear hx155_2
                                try clear hx155_3
                                try clear hx155_4
                                try clear hx155_5
                                try clear hx155_6
                                try clear hx155_7
                                try clear hx155_8
                                try clear hx155_9
                                try clear p1
                                try clear p15
                                try clear p152
                                try clear p153
                                try clear p154
                                try clear p155
                                try clear p2
                                try clear p6
                                try clear q1
                                try clear q15
                                try clear q152
                                try clear q153
                                try clear q154
                                try clear q155
                                obtain ⟨x11_4, rfl, HA, HK4, HO_10, HB⟩ := hrel
                                cases gk with
                                | zero => exact absurd HA.out (by simp [evenhandedlaw16_BoundsNext.l1])
                                | succ k4 =>
                                  have H := HA.out
                                  clear HA
                                  simp only [evenhandedlaw16_BoundsNext.l1] at H
                                  by_cases c30 : x11_4 < (t166.length : Int)
                                  · rw [if_pos c30] at H
                                    have c30b0 : decide (x11_4 < (t166.length : Int)) = true := decide_eq_true c30
                                    clear c30
                                    have HC31 := Aside0.mk H
                                    clear H
                                    obtain ⟨Ao32, co32, eo32⟩ := Kd.R_slice HO_10.out
                                    subst eo32
                                    go_upto_region 18 with (fail)
                                    repeat (go_quiet (fail); go_upto_region 18 with (fail))
                                    go_cut [118] (fun v118 wc => ∃ (kq : Nat) (x118_30 : Bool), v118 = .bool x118_30 ∧ Aside0 (evenhandedlaw16_BoundsNext.j4 kq l0 a1 t159 t160 t166 x11_4 x118_30 = some r) ∧ Aside0 (kq ≤ k4) ∧ Aside0 (Kd.R (Kd.int .i64) 3 wc w.heap.size (fun _ => True) (.slice Ao32 t166.length co32) t166) ∧ Aside0 (Below w.heap.size w wc))
                                    case first =>
                                      as_aux_lemma =>
                                        have H := HC31.out
                                        clear HC31
                                        by_cases c33 : 0 ≤ x11_4
                                        · rw [if_pos c33] at H
                                          have c33b0 : decide (0 ≤ x11_4) = true := decide_eq_true c33
                                          clear c33
                                          (first | rw [c33b0] | (simp only [i64_w, i32_w]; rw [c33b0]) | skip)
                                          by_cases c34 : (rd t166 x11_4) ≤ 0
                                          · rw [if_pos c34] at H
                                            have c34b0 : decide ((rd t166 x11_4) ≤ 0) = true := decide_eq_true c34
                                            clear c34
                                            have H' := Aside0.mk H
                                            clear H
                                            have p169 : 0 ≤ (x11_4 : Int) := of_decide_eq_true (by first | (with_reducible assumption) | assumption)
                                            have q169 : x11_4 < (t166.length : Int) := of_decide_eq_true (by first | (with_reducible assumption) | assumption)
                                            obtain ⟨ad169, e169, hx169_0⟩ := Kd.at_int (Kd.R_reads' HO_10.out).2.2 x11_4 p169 q169
                                            cases e169
                                            replace p169 := eq_true p169
                                            replace q169 := eq_true q169
                                            go_wp2
                                            repeat (go_quiet (fail); try go_wp2)
                                            go_meet
                                            case rel => exact ⟨_, (true), (by first | rfl | (simp; done) | (simp [*]; done)), H', ⟨by have := HJ4.out; have := HK2.out; have := HJ18.out; have := HK4.out; first | omega | exact Nat.le_refl _⟩, ⟨by (with_reducible repeat (first | apply Kd.R_alloc | apply Kd.R_drewN | apply Kd.R_drew)); exact HO_10.out⟩, ⟨by repeat (first | (with_reducible first | exact HB.out | apply below_alloc | apply pw_below_drewN | apply below_drew1) | exact HB.out)⟩⟩
                                          · rw [if_neg c34] at H
                                            have c34b0 : decide ((rd t166 x11_4) ≤ 0) = false := decide_eq_false c34
                                            clear c34
                                            by_cases c35 : x11_4 > 0
                                            · rw [if_pos c35] at H
                                              have c35b0 : decide (0 < x11_4) = true := decide_eq_true c35
                                              clear c35
                                              obtain ⟨ji36, hji36⟩ : ∃ j_ : Int, (wrap64 (x11_4 - 1)) = j_ := ⟨_, rfl⟩
                                              replace H : (if 0 ≤ (ji36) then (if (ji36) < (t166.length : Int) then (evenhandedlaw16_BoundsNext.j4 k4 l0 a1 t159 t160 t166 x11_4 (decide ((rd t166 x11_4) ≤ (rd t166 (ji36))))) else (none)) else (none)) = some r := by first | (rw [hji36] at H; exact H) | (simp only [hji36] at H ⊢; exact H)
                                              have hji36w : (IntKind.i64.wrap (x11_4 - 1)) = ji36 := (i64_w _).trans hji36
                                              by_cases c37 : 0 ≤ (ji36)
                                              · rw [if_pos c37] at H
                                                have c37b0 : decide (0 ≤ (ji36)) = true := decide_eq_true c37
                                                clear c37
                                                by_cases c38 : (ji36) < (t166.length : Int)
                                                · rw [if_pos c38] at H
                                                  have c38b0 : decide ((ji36) < (t166.length : Int)) = true := decide_eq_true c38
                                                  clear c38
                                                  have H' := Aside0.mk H
                                                  clear H
                                                  have p169 : 0 ≤ (x11_4 : Int) := of_decide_eq_true (by first | (with_reducible assumption) | assumption)
                                                  have q169 : x11_4 < (t166.length : Int) := of_decide_eq_true (by first | (with_reducible assumption) | assumption)
                                                  obtain ⟨ad169, e169, hx169_0⟩ := Kd.at_int (Kd.R_reads' HO_10.out).2.2 x11_4 p169 q169
                                                  cases e169
                                                  replace p169 := eq_true p169
                                                  replace q169 := eq_true q169
                                                  have p170 : 0 ≤ (x11_4 : Int) := of_decide_eq_true (by first | (with_reducible assumption) | assumption)
                                                  have q170 : x11_4 < (t166.length : Int) := of_decide_eq_true (by first | (with_reducible assumption) | assumption)
                                                  obtain ⟨ad170, e170, hx170_0⟩ := Kd.at_int (Kd.R_reads' HO_10.out).2.2 x11_4 p170 q170
                                                  obtain rfl : ad169 = ad170 := (by injection e170)
                                                  replace p170 := eq_true p170
                                                  replace q170 := eq_true q170
                                                  have p171 : 0 ≤ ((ji36) : Int) := of_decide_eq_true (by first | (with_reducible assumption) | assumption)
                                                  have q171 : (ji36) < (t166.length : Int) := of_decide_eq_true (by first | (with_reducible assumption) | assumption)
                                                  obtain ⟨ad171, e171, hx171_0⟩ := Kd.at_int (Kd.R_reads' HO_10.out).2.2 (ji36) p171 q171
                                                  obtain rfl : ad169 = ad171 := (by injection e171)
                                                  replace p171 := eq_true p171
                                                  replace q171 := eq_true q171
                                                  go_wp2
                                                  repeat (go_quiet (fail); try go_wp2)
                                                  go_meet
                                                  case rel => exact ⟨_, (decide ((rd t166 x11_4) ≤ (rd t166 (ji36)))), (by first | rfl | (simp; done) | (simp only [← hji36] <;> (first | rfl | simp)) | (simp [*]; done)), H', ⟨by have := HJ4.out; have := HK2.out; have := HJ18.out; have := HK4.out; first | omega | exact Nat.le_refl _⟩, ⟨by (with_reducible repeat (first | apply Kd.R_alloc | apply Kd.R_drewN | apply Kd.R_drew)); exact HO_10.out⟩, ⟨by repeat (first | (with_reducible first | exact HB.out | apply below_alloc | apply pw_below_drewN | apply below_drew1) | exact HB.out)⟩⟩
                                                · rw [if_neg c38] at H
                                                  exact absurd H (by simp)
                                              · rw [if_neg c37] at H
                                                exact absurd H (by simp)
                                            · rw [if_neg c35] at H
                                              have c35b0 : decide (0 < x11_4) = false := decide_eq_false c35
                                              clear c35
                                              have H' := Aside0.mk H
                                              clear H
                                              have p169 : 0 ≤ (x11_4 : Int) := of_decide_eq_true (by first | (with_reducible assumption) | assumption)
                                              have q169 : x11_4 < (t166.length : Int) := of_decide_eq_true (by first | (with_reducible assumption) | assumption)
                                              obtain ⟨ad169, e169, hx169_0⟩ := Kd.at_int (Kd.R_reads' HO_10.out).2.2 x11_4 p169 q169
                                              cases e169
                                              replace p169 := eq_true p169
                                              replace q169 := eq_true q169
                                              go_wp2
                                              repeat (go_quiet (fail); try go_wp2)
                                              go_meet
                                              case rel => exact ⟨_, (false), (by first | rfl | (simp; done) | (simp [*]; done)), H', ⟨by have := HJ4.out; have := HK2.out; have := HJ18.out; have := HK4.out; first | omega | exact Nat.le_refl _⟩, ⟨by (with_reducible repeat (first | apply Kd.R_alloc | apply Kd.R_drewN | apply Kd.R_drew)); exact HO_10.out⟩, ⟨by repeat (first | (with_reducible first | exact HB.out | apply below_alloc | apply pw_below_drewN | apply below_drew1) | exact HB.out)⟩⟩
                                        · rw [if_neg c33] at H
                                          exact absurd H (by simp)
                                    case rest =>
                                      as_aux_lemma =>
                                        clear HC31
                                        try clear c1
                                        try clear p1
                                        try clear q1
                                        try clear hx1
                                        try clear c2
                                        try clear p2
                                        try clear c3
                                        try clear c4
                                        try clear p6
                                        try clear c7
                                        try clear c7b0
                                        try clear c7b1
                                        try clear c8
                                        try clear c8b0
                                        try clear c9
                                        try clear c10
                                        try clear c10b0
                                        try clear c11
                                        try clear c11b0
                                        try clear c12
                                        try clear c12b0
                                        try clear c13
                                        try clear c13b0
                                        try clear c14
                                        try clear c14b0
                                        try clear c15
                                        try clear c15b0
                                        try clear p15
                                        try clear q15
                                        try clear hx15
                                        try clear p16
                                        try clear q16
                                        try clear hx16
                                        try clear p17
                                        try clear q17
                                        try clear hx17
                                        try clear c23
                                        try clear c23b0
                                        try clear c23b1
                                        try clear c24
                                        try clear c30
                                        try clear c30b0
                                        try clear c33
                                        try clear c33b0
                                        try clear c34
                                        try clear c34b0
                                        try clear c35
                                        try clear c35b0
                                        try clear c37
                                        try clear c37b0
                                        try clear c38
                                        try clear c38b0
                                        try clear hx152_0
                                        try clear hx152_1
                                        try clear hx152_10
                                        try clear hx152_2
                                        try clear hx152_3
                                        try clear hx152_4
                                        try clear hx152_5
                                        try clear hx152_6
                                        try clear hx152_7
                                        try clear hx152_8
                                        try clear hx152_9
                                        try clear hx153_0
                                        try clear hx153_1
                                        try clear hx153_10
                                        try clear hx153_2
                                        try clear hx153_3
                                        try clear hx153_4
                                        try clear hx153_5
                                        try clear hx153_6
                                        try clear hx153_7
                                        try clear hx153_8
                                        try clear hx153_9
                                        try clear hx154_0
                                        try clear hx154_1
                                        try clear hx154_10
                                        try clear hx154_2
                                        try clear hx154_3
                                        try clear hx154_4
                                        try clear hx154_5
                                        try clear hx154_6
                                        try clear hx154_7
                                        try clear hx154_8
                                        try clear hx154_9
                                        try clear hx155_0
                                        try clear hx155_1
                                        try clear hx155_10
                                        try clear hx155_2
                                        try clear hx155_3
                                        try clear hx155_4
                                        try clear hx155_5
                                        try clear hx155_6
                                        try clear hx155_7
                                        try clear hx155_8
                                        try clear hx155_9
                                        try clear hx169_0
                                        try clear hx170_0
                                        try clear hx171_0
                                        try clear p1
                                        try clear p15
                                        try clear p152
                                        try clear p153
                                        try clear p154
                                        try clear p155
                                        try clear p169
                                        try clear p170
                                        try clear p171
                                        try clear p2
                                        try clear p6
                                        try clear q1
                                        try clear q15
                                        try clear q152
                                        try clear q153
                                        try clear q154
                                        try clear q155
                                        try clear q169
                                        try clear q170
                                        try clear q171
                                        obtain ⟨kq, x118_30, rfl, HA, HJ30, HO_10, HB⟩ := hcut
                                        cases kq with
                                        | zero => exact absurd HA.out (by simp [evenhandedlaw16_BoundsNext.j4])
                                        | succ kj30 =>
                                          have H := HA.out
                                          clear HA
                                          simp only [evenhandedlaw16_BoundsNext.j4] at H
                                          by_cases c39 : x118_30 = true
                                          · subst c39
                                            have H1 : (some false) = some r := by rw [if_pos rfl] at H; exact H
                                            clear H
                                            have H := H1
                                            clear H1
                                            obtain rfl := Option.some.inj H
                                            go_wp2
                                            repeat (go_quiet (fail); try go_wp2)
                                            go_ret
                                            exact ⟨by first | rfl | (simp [errW_none, errW_some] <;> rfl) | (simp [*, errW_none, errW_some] <;> rfl), by repeat (first | (with_reducible first | exact HB.out | apply below_alloc | apply pw_below_drewN | apply below_drew1) | exact HB.out)⟩
                                          · replace c39 := Bool.eq_false_iff.mpr c39
                                            subst c39
                                            have H1 : (evenhandedlaw16_BoundsNext.l2 kj30 l0 a1 t159 t160 t166 x11_4 false 0) = some r := by rw [if_neg (show ¬ (false = true) by decide)] at H; exact H
                                            clear H
                                            have H := H1
                                            clear H1
                                            have H' := Aside0.mk H
                                            clear H
                                            go_wp2
                                            repeat (go_quiet (fail); try go_wp2)
                                            go_loopg [12, 13] kj30 (fun kq v12 v13 w' => ∃ (x12_6 : Bool) (x13_6 : Int), v12 = .bool x12_6 ∧ v13 = .int .i64 x13_6 ∧ Aside0 (evenhandedlaw16_BoundsNext.l2 kq l0 a1 t159 t160 t166 x11_4 x12_6 x13_6 = some r) ∧ Aside0 (kq ≤ kj30) ∧ Aside0 (Kd.R (Kd.int .i64) 3 w' w.heap.size (fun _ => True) (.slice Ao32 t166.length co32) t166) ∧ Aside0 (Below w.heap.size w w'))
                                            case atStart => exact ⟨(false), (0), (by first | rfl | (simp; done) | (simp [*]; done)), (by first | rfl | (simp; done) | (simp [*]; done)), H', ⟨Nat.le_refl _⟩, ⟨by (with_reducible repeat (first | apply Kd.R_alloc | apply Kd.R_drewN | apply Kd.R_drew)); exact HO_10.out⟩, ⟨by repeat (first | (with_reducible first | exact HB.out | apply below_alloc | apply pw_below_drewN | apply below_drew1) | exact HB.out)⟩⟩
                                            case round =>
                                              as_aux_lemma =>
                                                clear H'
                                                try clear c1
                                                try clear p1
                                                try clear q1
                                                try clear hx1
                                                try clear c2
                                                try clear p2
                                                try clear c3
                                                try clear c4
                                                try clear p6
                                                try clear c7
                                                try clear c7b0
                                                try clear c7b1
                                                try clear c8
                                                try clear c8b0
                                                try clear c9
                                                try clear c10
                                                try clear c10b0
                                                try clear c11
                                                try clear c11b0
                                                try clear c12
                                                try clear c12b0
                                                try clear c13
                                                try clear c13b0
                                                try clear c14
                                                try clear c14b0
                                                try clear c15
                                                try clear c15b0
                                                try clear p15
                                                try clear q15
                                                try clear hx15
                                                try clear p16
                                                try clear q16
                                                try clear hx16
                                                try clear p17
                                                try clear q17
                                                try clear hx17
                                                try clear c23
                                                try clear c23b0
                                                try clear c23b1
                                                try clear c24
                                                try clear c30
                                                try clear c30b0
                                                try clear c33
                                                try clear c33b0
                                                try clear c34
                                                try clear c34b0
                                                try clear c35
                                                try clear c35b0
                                                try clear c37
                                                try clear c37b0
                                                try clear c38
                                                try clear c38b0
                                                try clear c39
                                                try clear hx152_0
                                                try clear hx152_1
                                                try clear hx152_10
                                                try clear hx152_2
                                                try clear hx152_3
                                                try clear hx152_4
                                                try clear hx152_5
                                                try clear hx152_6
                                                try clear hx152_7
                                                try clear hx152_8
                                                try clear hx152_9
                                                try clear hx153_0
                                                try clear hx153_1
                                                try clear hx153_10
                                                try clear hx153_2
                                                try clear hx153_3
                                                try clear hx153_4
                                                try clear hx153_5
                                                try clear hx153_6
                                                try clear hx153_7
                                                try clear hx153_8
                                                try clear hx153_9
                                                try clear hx154_0
                                                try clear hx154_1
                                                try clear hx154_10
                                                try clear hx154_2
                                                try clear hx154_3
                                                try clear hx154_4
                                                try clear hx154_5
                                                try clear hx154_6
                                                try clear hx154_7
                                                try clear hx154_8
                                                try clear hx154_9
                                                try clear hx155_0
                                                try clear hx155_1
                                                try clear hx155_10
                                                try clear hx155_2
                                                try clear hx155_3
                                                try clear hx155_4
                                                try clear hx155_5
                                                try clear hx155_6
                                                try clear hx155_7
                                                try clear hx155_8
                                                try clear hx155_9
                                                try clear hx169_0
                                                try clear hx170_0
                                                try clear hx171_0
                                                try clear p1
                                                try clear p15
                                                try clear p152
                                                try clear p153
                                                try clear p154
                                                try clear p155
                                                try clear p16
                                                try clear p169
                                                try clear p17
                                                try clear p170
                                                try clear p171
                                                try clear p2
                                                try clear p6
                                                try clear q1
                                                try clear q15
                                                try clear q152
                                                try clear q153
                                                try clear q154
                                                try clear q155
                                                try clear q16
                                                try clear q169
                                                try clear q17
                                                try clear q170
                                                try clear q171
                                                obtain ⟨x12_6, x13_6, rfl, rfl, HA, HK6, HO_10, HB⟩ := hrel
                                                cases gk with
                                                | zero => exact absurd HA.out (by simp [evenhandedlaw16_BoundsNext.l2])
                                                | succ k6 =>
                                                  have H := HA.out
                                                  clear HA
                                                  simp only [evenhandedlaw16_BoundsNext.l2] at H
                                                  by_cases c40 : x13_6 < (l0.length : Int)
                                                  · rw [if_pos c40] at H
                                                    have c40b0 : decide (x13_6 < (l0.length : Int)) = true := decide_eq_true c40
                                                    clear c40
                                                    by_cases c41 : x12_6 = true
                                                    · subst c41
                                                      have H1 : (evenhandedlaw16_BoundsNext.l2 k6 l0 a1 t159 t160 t166 x11_4 true (wrap64 (x13_6 + 1))) = some r := by rw [if_pos rfl] at H; exact H
                                                      clear H
                                                      have H := H1
                                                      clear H1
                                                      have H' := Aside0.mk H
                                                      clear H
                                                      go_wp2
                                                      repeat (go_quiet (fail); try go_wp2)
                                                      go_roundg k6
                                                      case measure => have := HJ4.out; have := HK2.out; have := HJ18.out; have := HK4.out; have := HJ30.out; have := HK6.out; omega
                                                      case rel => exact ⟨(true), (wrap64 (x13_6 + 1)), (by first | rfl | (simp; done) | (simp [*]; done)), (by first | rfl | (simp; done) | (simp [*]; done)), H', ⟨by have := HJ4.out; have := HK2.out; have := HJ18.out; have := HK4.out; have := HJ30.out; have := HK6.out; omega⟩, ⟨by (with_reducible repeat (first | apply Kd.R_alloc | apply Kd.R_drewN | apply Kd.R_drew)); exact HO_10.out⟩, ⟨by repeat (first | (with_reducible first | exact HB.out | apply below_alloc | apply pw_below_drewN | apply below_drew1) | exact HB.out)⟩⟩
                                                    · replace c41 := Bool.eq_false_iff.mpr c41
                                                      subst c41
                                                      have H1 : (if 0 ≤ x13_6 then (if (rd_T25 l0 x13_6).f6 = true then (if 0 ≤ x11_4 then (if x11_4 < (t166.length : Int) then (evenhandedlaw16_BoundsNext.l2 k6 l0 a1 t159 t160 t166 x11_4 ((wrap64 (((rd_T25 l0 x13_6).f7) + ((rd_T25 l0 x13_6).f2))) == (wrap64 (a1 + (rd t166 x11_4)))) (wrap64 (x13_6 + 1))) else (none)) else (none)) else (evenhandedlaw16_BoundsNext.l2 k6 l0 a1 t159 t160 t166 x11_4 false (wrap64 (x13_6 + 1)))) else (none)) = some r := by rw [if_neg (show ¬ (false = true) by decide)] at H; exact H
                                                      clear H
                                                      have H := H1
                                                      clear H1
                                                      by_cases c42 : 0 ≤ x13_6
                                                      · rw [if_pos c42] at H
                                                        have c42b0 : decide (0 ≤ x13_6) = true := decide_eq_true c42
                                                        clear c42
                                                        obtain ⟨bq43, hbq43⟩ : ∃ b_ : Bool, b_ = ((rd_T25 l0 x13_6).f6) := ⟨_, rfl⟩
                                                        replace H : (if bq43 = true then (if 0 ≤ x11_4 then (if x11_4 < (t166.length : Int) then (evenhandedlaw16_BoundsNext.l2 k6 l0 a1 t159 t160 t166 x11_4 ((wrap64 (((rd_T25 l0 x13_6).f7) + ((rd_T25 l0 x13_6).f2))) == (wrap64 (a1 + (rd t166 x11_4)))) (wrap64 (x13_6 + 1))) else (none)) else (none)) else (evenhandedlaw16_BoundsNext.l2 k6 l0 a1 t159 t160 t166 x11_4 false (wrap64 (x13_6 + 1)))) = some r := by rw [← hbq43] at H; exact H
                                                        have Nbq43 := Aside0.mk hbq43
                                                        clear hbq43
                                                        by_cases c44 : bq43 = true
                                                        · subst c44
                                                          have H1 : (if 0 ≤ x11_4 then (if x11_4 < (t166.length : Int) then (evenhandedlaw16_BoundsNext.l2 k6 l0 a1 t159 t160 t166 x11_4 ((wrap64 (((rd_T25 l0 x13_6).f7) + ((rd_T25 l0 x13_6).f2))) == (wrap64 (a1 + (rd t166 x11_4)))) (wrap64 (x13_6 + 1))) else (none)) else (none)) = some r := by rw [if_pos rfl] at H; exact H
                                                          clear H
                                                          have H := H1
                                                          clear H1
                                                          by_cases c45 : 0 ≤ x11_4
                                                          · rw [if_pos c45] at H
                                                            have c45b0 : decide (0 ≤ x11_4) = true := decide_eq_true c45
                                                            clear c45
                                                            by_cases c46 : x11_4 < (t166.length : Int)
                                                            · rw [if_pos c46] at H
                                                              have c46b0 : decide (x11_4 < (t166.length : Int)) = true := decide_eq_true c46
                                                              clear c46
                                                              have H' := Aside0.mk H
                                                              clear H
                                                              have p172 : 0 ≤ (x13_6 : Int) := of_decide_eq_true (by first | (with_reducible assumption) | assumption)
                                                              have q172 : x13_6 < (l0.length : Int) := of_decide_eq_true (by first | (with_reducible assumption) | assumption)
                                                              obtain ⟨ad172, e172, -, -, hx172_2, -, -, -, hx172_6, hx172_7, -, -, -⟩ := at_T25 HR0.out x13_6 p172 q172
                                                              (try rw [← Nbq43.out] at hx172_6)
                                                              cases e172
                                                              replace hx172_2 := (HB.out.cell (World.block_lt_of_cell? w _ hx172_2)).trans hx172_2
                                                              replace hx172_6 := (HB.out.cell (World.block_lt_of_cell? w _ hx172_6)).trans hx172_6
                                                              replace hx172_7 := (HB.out.cell (World.block_lt_of_cell? w _ hx172_7)).trans hx172_7
                                                              replace p172 := eq_true p172
                                                              replace q172 := eq_true q172
                                                              have p173 : 0 ≤ (x13_6 : Int) := of_decide_eq_true (by first | (with_reducible assumption) | assumption)
                                                              have q173 : x13_6 < (l0.length : Int) := of_decide_eq_true (by first | (with_reducible assumption) | assumption)
                                                              obtain ⟨ad173, e173, -, -, hx173_2, -, -, -, hx173_6, hx173_7, -, -, -⟩ := at_T25 HR0.out x13_6 p173 q173
                                                              (try rw [← Nbq43.out] at hx173_6)
                                                              obtain rfl : ad172 = ad173 := (by injection e173)
                                                              replace hx173_2 := (HB.out.cell (World.block_lt_of_cell? w _ hx173_2)).trans hx173_2
                                                              replace hx173_6 := (HB.out.cell (World.block_lt_of_cell? w _ hx173_6)).trans hx173_6
                                                              replace hx173_7 := (HB.out.cell (World.block_lt_of_cell? w _ hx173_7)).trans hx173_7
                                                              replace p173 := eq_true p173
                                                              replace q173 := eq_true q173
                                                              have p174 : 0 ≤ (x13_6 : Int) := of_decide_eq_true (by first | (with_reducible assumption) | assumption)
                                                              have q174 : x13_6 < (l0.length : Int) := of_decide_eq_true (by first | (with_reducible assumption) | assumption)
                                                              obtain ⟨ad174, e174, -, -, hx174_2, -, -, -, hx174_6, hx174_7, -, -, -⟩ := at_T25 HR0.out x13_6 p174 q174
                                                              (try rw [← Nbq43.out] at hx174_6)
                                                              obtain rfl : ad172 = ad174 := (by injection e174)
                                                              replace hx174_2 := (HB.out.cell (World.block_lt_of_cell? w _ hx174_2)).trans hx174_2
                                                              replace hx174_6 := (HB.out.cell (World.block_lt_of_cell? w _ hx174_6)).trans hx174_6
                                                              replace hx174_7 := (HB.out.cell (World.block_lt_of_cell? w _ hx174_7)).trans hx174_7
                                                              replace p174 := eq_true p174
                                                              replace q174 := eq_true q174
                                                              have p175 : 0 ≤ (x11_4 : Int) := of_decide_eq_true (by first | (with_reducible assumption) | assumption)
                                                              have q175 : x11_4 < (t166.length : Int) := of_decide_eq_true (by first | (with_reducible assumption) | assumption)
                                                              obtain ⟨ad175, e175, hx175_0⟩ := Kd.at_int (Kd.R_reads' HO_10.out).2.2 x11_4 p175 q175
                                                              cases e175
                                                              replace p175 := eq_true p175
                                                              replace q175 := eq_true q175
                                                              go_wp2
                                                              repeat (go_quiet (fail); try go_wp2)
                                                              go_roundg k6
                                                              case measure => have := HJ4.out; have := HK2.out; have := HJ18.out; have := HK4.out; have := HJ30.out; have := HK6.out; omega
                                                              case rel => exact ⟨(((wrap64 (((rd_T25 l0 x13_6).f7) + ((rd_T25 l0 x13_6).f2))) == (wrap64 (a1 + (rd t166 x11_4))))), (wrap64 (x13_6 + 1)), (by first | rfl | (simp; done) | (simp [*]; done)), (by first | rfl | (simp; done) | (simp [*]; done)), H', ⟨by have := HJ4.out; have := HK2.out; have := HJ18.out; have := HK4.out; have := HJ30.out; have := HK6.out; omega⟩, ⟨by (with_reducible repeat (first | apply Kd.R_alloc | apply Kd.R_drewN | apply Kd.R_drew)); exact HO_10.out⟩, ⟨by repeat (first | (with_reducible first | exact HB.out | apply below_alloc | apply pw_below_drewN | apply below_drew1) | exact HB.out)⟩⟩
                                                            · rw [if_neg c46] at H
                                                              exact absurd H (by simp)
                                                          · rw [if_neg c45] at H
                                                            exact absurd H (by simp)
                                                        · replace c44 := Bool.eq_false_iff.mpr c44
                                                          subst c44
                                                          have H1 : (evenhandedlaw16_BoundsNext.l2 k6 l0 a1 t159 t160 t166 x11_4 false (wrap64 (x13_6 + 1))) = some r := by rw [if_neg (show ¬ (false = true) by decide)] at H; exact H
                                                          clear H
                                                          have H := H1
                                                          clear H1
                                                          have H' := Aside0.mk H
                                                          clear H
                                                          have p172 : 0 ≤ (x13_6 : Int) := of_decide_eq_true (by first | (with_reducible assumption) | assumption)
                                                          have q172 : x13_6 < (l0.length : Int) := of_decide_eq_true (by first | (with_reducible assumption) | assumption)
                                                          obtain ⟨ad172, e172, -, -, hx172_2, -, -, -, hx172_6, hx172_7, -, -, -⟩ := at_T25 HR0.out x13_6 p172 q172
                                                          (try rw [← Nbq43.out] at hx172_6)
                                                          cases e172
                                                          replace hx172_2 := (HB.out.cell (World.block_lt_of_cell? w _ hx172_2)).trans hx172_2
                                                          replace hx172_6 := (HB.out.cell (World.block_lt_of_cell? w _ hx172_6)).trans hx172_6
                                                          replace hx172_7 := (HB.out.cell (World.block_lt_of_cell? w _ hx172_7)).trans hx172_7
                                                          replace p172 := eq_true p172
                                                          replace q172 := eq_true q172
                                                          go_wp2
                                                          repeat (go_quiet (fail); try go_wp2)
                                                          go_roundg k6
                                                          case measure => have := HJ4.out; have := HK2.out; have := HJ18.out; have := HK4.out; have := HJ30.out; have := HK6.out; omega
                                                          case rel => exact ⟨(false), (wrap64 (x13_6 + 1)), (by first | rfl | (simp; done) | (simp [*]; done)), (by first | rfl | (simp; done) | (simp [*]; done)), H', ⟨by have := HJ4.out; have := HK2.out; have := HJ18.out; have := HK4.out; have := HJ30.out; have := HK6.out; omega⟩, ⟨by (with_reducible repeat (first | apply Kd.R_alloc | apply Kd.R_drewN | apply Kd.R_drew)); exact HO_10.out⟩, ⟨by repeat (first | (with_reducible first | exact HB.out | apply below_alloc | apply pw_below_drewN | apply below_drew1) | exact HB.out)⟩⟩
                                                      · rw [if_neg c42] at H
                                                        exact absurd H (by simp)
                                                  · rw [if_neg c40] at H
                                                    have c40b0 : decide (x13_6 < (l0.length : Int)) = false := decide_eq_false c40
                                                    clear c40
                                                    by_cases c47 : x12_6 = true
                                                    · subst c47
                                                      have H1 : (evenhandedlaw16_BoundsNext.l1 k6 l0 a1 t159 t160 t166 (wrap64 (x11_4 + 1))) = some r := by rw [if_pos rfl] at H; exact H
                                                      clear H
                                                      have H := H1
                                                      clear H1
                                                      have H' := Aside0.mk H
                                                      clear H
                                                      go_wp2
                                                      repeat (go_quiet (fail); try go_wp2)
                                                      go_roundg k6
                                                      case measure => have := HJ4.out; have := HK2.out; have := HJ18.out; have := HK4.out; have := HJ30.out; have := HK6.out; omega
                                                      case rel => exact ⟨(wrap64 (x11_4 + 1)), (by first | rfl | (simp; done) | (simp [*]; done)), H', ⟨by have := HJ4.out; have := HK2.out; have := HJ18.out; have := HK4.out; have := HJ30.out; have := HK6.out; omega⟩, ⟨by (with_reducible repeat (first | apply Kd.R_alloc | apply Kd.R_drewN | apply Kd.R_drew)); exact HO_10.out⟩, ⟨by repeat (first | (with_reducible first | exact HB.out | apply below_alloc | apply pw_below_drewN | apply below_drew1) | exact HB.out)⟩⟩
                                                    · replace c47 := Bool.eq_false_iff.mpr c47
                                                      subst c47
                                                      have H1 : (some false) = some r := by rw [if_neg (show ¬ (false = true) by decide)] at H; exact H
                                                      clear H
                                                      have H := H1
                                                      clear H1
                                                      obtain rfl := Option.some.inj H
                                                      go_wp2
                                                      repeat (go_quiet (fail); try go_wp2)
                                                      go_ret
                                                      exact ⟨by first | rfl | (simp [errW_none, errW_some] <;> rfl) | (simp [*, errW_none, errW_some] <;> rfl), by repeat (first | (with_reducible first | exact HB.out | apply below_alloc | apply pw_below_drewN | apply below_drew1) | exact HB.out)⟩
                                  · rw [if_neg c30] at H
                                    have c30b0 : decide (x11_4 < (t166.length : Int)) = false := decide_eq_false c30
                                    clear c30
                                    have H' := Aside0.mk H
                                    clear H
                                    obtain ⟨Ao48, co48, eo48⟩ := Kd.R_slice HO_10.out
                                    subst eo48
                                    go_wp2
                                    repeat (go_quiet (fail); try go_wp2)
                                    go_loopg [14] k4 (fun kq v14 w' => ∃ (x14_5 : Int), v14 = .int .i64 x14_5 ∧ Aside0 (evenhandedlaw16_BoundsNext.l3 kq l0 a1 t159 t160 t166 x14_5 = some r) ∧ Aside0 (kq ≤ k4) ∧ Aside0 (Kd.R (Kd.int .i64) 3 w' w.heap.size (fun _ => True) (.slice Ao48 t166.length co48) t166) ∧ Aside0 (Below w.heap.size w w'))
                                    case atStart => exact ⟨(0), (by first | rfl | (simp; done) | (simp [*]; done)), H', ⟨Nat.le_refl _⟩, ⟨by (with_reducible repeat (first | apply Kd.R_alloc | apply Kd.R_drewN | apply Kd.R_drew)); exact HO_10.out⟩, ⟨by repeat (first | (with_reducible first | exact HB.out | apply below_alloc | apply pw_below_drewN | apply below_drew1) | exact HB.out)⟩⟩
                                    case round =>
                                      as_aux_lemma =>
                                        clear H'
                                        try clear c1
                                        try clear p1
                                        try clear q1
                                        try clear hx1
                                        try clear c2
                                        try clear p2
                                        try clear c3
                                        try clear c4
                                        try clear q4
                                        try clear p6
                                        try clear c7
                                        try clear c7b0
                                        try clear c7b1
                                        try clear c8
                                        try clear c8b0
                                        try clear c9
                                        try clear c10
                                        try clear c10b0
                                        try clear c11
                                        try clear c11b0
                                        try clear c12
                                        try clear c12b0
                                        try clear c13
                                        try clear c13b0
                                        try clear c14
                                        try clear c14b0
                                        try clear c15
                                        try clear c15b0
                                        try clear p15
                                        try clear q15
                                        try clear hx15
                                        try clear p16
                                        try clear q16
                                        try clear hx16
                                        try clear p17
                                        try clear q17
                                        try clear hx17
                                        try clear c23
                                        try clear c23b0
                                        try clear c23b1
                                        try clear c24
                                        try clear c30
                                        try clear c30b0
                                        try clear c33
                                        try clear c33b0
                                        try clear c34
                                        try clear c34b0
                                        try clear c35
                                        try clear c35b0
                                        try clear c37
                                        try clear c37b0
                                        try clear c38
                                        try clear c38b0
                                        try clear c39
                                        try clear c40
                                        try clear c40b0
                                        try clear c41
                                        try clear c42
                                        try clear c42b0
                                        try clear q43
                                        try clear c44
                                        try clear c45
                                        try clear c45b0
                                        try clear c46
                                        try clear c46b0
                                        try clear c47
                                        try clear hx152_0
                                        try clear hx152_1
                                        try clear hx152_10
                                        try clear hx152_2
                                        try clear hx152_3
                                        try clear hx152_4
                                        try clear hx152_5
                                        try clear hx152_6
                                        try clear hx152_7
                                        try clear hx152_8
                                        try clear hx152_9
                                        try clear hx153_0
                                        try clear hx153_1
                                        try clear hx153_10
                                        try clear hx153_2
                                        try clear hx153_3
                                        try clear hx153_4
                                        try clear hx153_5
                                        try clear hx153_6
                                        try clear hx153_7
                                        try clear hx153_8
                                        try clear hx153_9
                                        try clear hx154_0
                                        try clear hx154_1
                                        try clear hx154_10
                                        try clear hx154_2
                                        try clear hx154_3
                                        try clear hx154_4
                                        try clear hx154_5
                                        try clear hx154_6
                                        try clear hx154_7
                                        try clear hx154_8
                                        try clear hx154_9
                                        try clear hx155_0
                                        try clear hx155_1
                                        try clear hx155_10
                                        try clear hx155_2
                                        try clear hx155_3
                                        try clear hx155_4
                                        try clear hx155_5
                                        try clear hx155_6
                                        try clear hx155_7
                                        try clear hx155_8
                                        try clear hx155_9
                                        try clear hx169_0
                                        try clear hx170_0
                                        try clear hx171_0
                                        try clear hx172_0
                                        try clear hx172_1
                                        try clear hx172_10
                                        try clear hx172_2
                                        try clear hx172_3
                                        try clear hx172_4
                                        try clear hx172_5
                                        try clear hx172_6
                                        try clear hx172_7
                                        try clear hx172_8
                                        try clear hx172_9
                                        try clear hx173_0
                                        try clear hx173_1
                                        try clear hx173_10
                                        try clear hx173_2
                                        try clear hx173_3
                                        try clear hx173_4
                                        try clear hx173_5
                                        try clear hx173_6
                                        try clear hx173_7
                                        try clear hx173_8
                                        try clear hx173_9
                                        try clear hx174_0
                                        try clear hx174_1
                                        try clear hx174_10
                                        try clear hx174_2
                                        try clear hx174_3
                                        try clear hx174_4
                                        try clear hx174_5
                                        try clear hx174_6
                                        try clear hx174_7
                                        try clear hx174_8
                                        try clear hx174_9
                                        try clear hx175_0
                                        try clear p1
                                        try clear p15
                                        try clear p152
                                        try clear p153
                                        try clear p154
                                        try clear p155
                                        try clear p16
                                        try clear p169
                                        try clear p17
                                        try clear p170
                                        try clear p171
                                        try clear p172
                                        try clear p173
                                        try clear p174
                                        try clear p175
                                        try clear p2
                                        try clear p6
                                        try clear q1
                                        try clear q15
                                        try clear q152
                                        try clear q153
                                        try clear q154
                                        try clear q155
                                        try clear q16
                                        try clear q169
                                        try clear q17
                                        try clear q170
                                        try clear q171
                                        try clear q172
                                        try clear q173
                                        try clear q174
                                        try clear q175
                                        obtain ⟨x14_5, rfl, HA, HK5, HO_10, HB⟩ := hrel
                                        cases gk with
                                        | zero => exact absurd HA.out (by simp [evenhandedlaw16_BoundsNext.l3])
                                        | succ k5 =>
                                          have H := HA.out
                                          clear HA
                                          simp only [evenhandedlaw16_BoundsNext.l3] at H
                                          by_cases c49 : x14_5 < (l0.length : Int)
                                          · rw [if_pos c49] at H
                                            have c49b0 : decide (x14_5 < (l0.length : Int)) = true := decide_eq_true c49
                                            clear c49
                                            by_cases c50 : 0 ≤ x14_5
                                            · rw [if_pos c50] at H
                                              have c50b0 : decide (0 ≤ x14_5) = true := decide_eq_true c50
                                              clear c50
                                              have HC51 := Aside0.mk H
                                              clear H
                                              have p177 : 0 ≤ (x14_5 : Int) := of_decide_eq_true (by first | (with_reducible assumption) | assumption)
                                              have q177 : x14_5 < (l0.length : Int) := of_decide_eq_true (by first | (with_reducible assumption) | assumption)
                                              obtain ⟨ad177, e177, -, -, hx177_2, -, -, -, hx177_6, hx177_7, -, -, -⟩ := at_T25 HR0.out x14_5 p177 q177
                                              cases e177
                                              replace hx177_2 := (HB.out.cell (World.block_lt_of_cell? w _ hx177_2)).trans hx177_2
                                              replace hx177_6 := (HB.out.cell (World.block_lt_of_cell? w _ hx177_6)).trans hx177_6
                                              replace hx177_7 := (HB.out.cell (World.block_lt_of_cell? w _ hx177_7)).trans hx177_7
                                              replace p177 := eq_true p177
                                              replace q177 := eq_true q177
                                              have p178 : 0 ≤ (x14_5 : Int) := of_decide_eq_true (by first | (with_reducible assumption) | assumption)
                                              have q178 : x14_5 < (l0.length : Int) := of_decide_eq_true (by first | (with_reducible assumption) | assumption)
                                              obtain ⟨ad178, e178, -, -, hx178_2, -, -, -, hx178_6, hx178_7, -, -, -⟩ := at_T25 HR0.out x14_5 p178 q178
                                              obtain rfl : ad177 = ad178 := (by injection e178)
                                              replace hx178_2 := (HB.out.cell (World.block_lt_of_cell? w _ hx178_2)).trans hx178_2
                                              replace hx178_6 := (HB.out.cell (World.block_lt_of_cell? w _ hx178_6)).trans hx178_6
                                              replace hx178_7 := (HB.out.cell (World.block_lt_of_cell? w _ hx178_7)).trans hx178_7
                                              replace p178 := eq_true p178
                                              replace q178 := eq_true q178
                                              go_upto_region 31 with (fail)
                                              repeat (go_quiet (fail); go_upto_region 31 with (fail))
                                              go_cut [16] (fun v16 wc => ∃ (kq : Nat) (x16_50 : Bool), v16 = .bool x16_50 ∧ Aside0 (evenhandedlaw16_BoundsNext.j7 kq l0 a1 t159 t160 t166 x14_5 (wrap64 ((wrap64 (((rd_T25 l0 x14_5).f7) + ((rd_T25 l0 x14_5).f2))) - a1)) x16_50 = some r) ∧ Aside0 (kq ≤ k5) ∧ Aside0 (Kd.R (Kd.int .i64) 3 wc w.heap.size (fun _ => True) (.slice Ao48 t166.length co48) t166) ∧ Aside0 (Below w.heap.size w wc))
                                              case first =>
                                                as_aux_lemma =>
                                                  have H := HC51.out
                                                  clear HC51
                                                  (try clear hx177_6)
                                                  (try clear hx178_6)
                                                  obtain ⟨bq52, hbq52⟩ : ∃ b_ : Bool, b_ = ((rd_T25 l0 x14_5).f6) := ⟨_, rfl⟩
                                                  replace H : (if (bq52 = true) then (evenhandedlaw16_BoundsNext.j7 k5 l0 a1 t159 t160 t166 x14_5 (wrap64 ((wrap64 (((rd_T25 l0 x14_5).f7) + ((rd_T25 l0 x14_5).f2))) - a1)) (decide ((wrap64 ((wrap64 (((rd_T25 l0 x14_5).f7) + ((rd_T25 l0 x14_5).f2))) - a1)) ≤ 0))) else (evenhandedlaw16_BoundsNext.j7 k5 l0 a1 t159 t160 t166 x14_5 (wrap64 ((wrap64 (((rd_T25 l0 x14_5).f7) + ((rd_T25 l0 x14_5).f2))) - a1)) true)) = some r := by rw [← hbq52] at H; exact H
                                                  have Nbq52 := Aside0.mk hbq52
                                                  clear hbq52
                                                  (try rw [← Nbq52.out])
                                                  by_cases c53 : (bq52 = true)
                                                  · subst c53
                                                    have H1 : (evenhandedlaw16_BoundsNext.j7 k5 l0 a1 t159 t160 t166 x14_5 (wrap64 ((wrap64 (((rd_T25 l0 x14_5).f7) + ((rd_T25 l0 x14_5).f2))) - a1)) (decide ((wrap64 ((wrap64 (((rd_T25 l0 x14_5).f7) + ((rd_T25 l0 x14_5).f2))) - a1)) ≤ 0))) = some r := by rw [if_pos rfl] at H; exact H
                                                    clear H
                                                    have H := H1
                                                    clear H1
                                                    have H' := Aside0.mk H
                                                    clear H
                                                    have p179 : 0 ≤ (x14_5 : Int) := of_decide_eq_true (by first | (with_reducible assumption) | assumption)
                                                    have q179 : x14_5 < (l0.length : Int) := of_decide_eq_true (by first | (with_reducible assumption) | assumption)
                                                    obtain ⟨ad179, e179, -, -, hx179_2, -, -, -, hx179_6, hx179_7, -, -, -⟩ := at_T25 HR0.out x14_5 p179 q179
                                                    (try rw [← Nbq52.out] at hx179_6)
                                                    obtain rfl : ad177 = ad179 := (by injection e179)
                                                    replace hx179_2 := (HB.out.cell (World.block_lt_of_cell? w _ hx179_2)).trans hx179_2
                                                    replace hx179_6 := (HB.out.cell (World.block_lt_of_cell? w _ hx179_6)).trans hx179_6
                                                    replace hx179_7 := (HB.out.cell (World.block_lt_of_cell? w _ hx179_7)).trans hx179_7
                                                    replace p179 := eq_true p179
                                                    replace q179 := eq_true q179
                                                    go_wp2
                                                    repeat (go_quiet (fail); try go_wp2)
                                                    go_meet
                                                    case rel => exact ⟨_, (decide ((wrap64 ((wrap64 (((rd_T25 l0 x14_5).f7) + ((rd_T25 l0 x14_5).f2))) - a1)) ≤ 0)), (by first | rfl | (simp; done) | (simp [*]; done)), H', ⟨by have := HJ4.out; have := HK2.out; have := HJ18.out; have := HK4.out; have := HK5.out; first | omega | exact Nat.le_refl _⟩, ⟨by (with_reducible repeat (first | apply Kd.R_alloc | apply Kd.R_drewN | apply Kd.R_drew)); exact HO_10.out⟩, ⟨by repeat (first | (with_reducible first | exact HB.out | apply below_alloc | apply pw_below_drewN | apply below_drew1) | exact HB.out)⟩⟩
                                                  · replace c53 := Bool.eq_false_iff.mpr c53
                                                    subst c53
                                                    have H1 : (evenhandedlaw16_BoundsNext.j7 k5 l0 a1 t159 t160 t166 x14_5 (wrap64 ((wrap64 (((rd_T25 l0 x14_5).f7) + ((rd_T25 l0 x14_5).f2))) - a1)) true) = some r := by rw [if_neg (show ¬ (false = true) by decide)] at H; exact H
                                                    clear H
                                                    have H := H1
                                                    clear H1
                                                    have H' := Aside0.mk H
                                                    clear H
                                                    have p179 : 0 ≤ (x14_5 : Int) := of_decide_eq_true (by first | (with_reducible assumption) | assumption)
                                                    have q179 : x14_5 < (l0.length : Int) := of_decide_eq_true (by first | (with_reducible assumption) | assumption)
                                                    obtain ⟨ad179, e179, -, -, hx179_2, -, -, -, hx179_6, hx179_7, -, -, -⟩ := at_T25 HR0.out x14_5 p179 q179
                                                    (try rw [← Nbq52.out] at hx179_6)
                                                    obtain rfl : ad177 = ad179 := (by injection e179)
                                                    replace hx179_2 := (HB.out.cell (World.block_lt_of_cell? w _ hx179_2)).trans hx179_2
                                                    replace hx179_6 := (HB.out.cell (World.block_lt_of_cell? w _ hx179_6)).trans hx179_6
                                                    replace hx179_7 := (HB.out.cell (World.block_lt_of_cell? w _ hx179_7)).trans hx179_7
                                                    replace p179 := eq_true p179
                                                    replace q179 := eq_true q179
                                                    go_wp2
                                                    repeat (go_quiet (fail); try go_wp2)
                                                    go_meet
                                                    case rel => exact ⟨_, (true), (by first | rfl | (simp; done) | (simp [*]; done)), H', ⟨by have := HJ4.out; have := HK2.out; have := HJ18.out; have := HK4.out; have := HK5.out; first | omega | exact Nat.le_refl _⟩, ⟨by (with_reducible repeat (first | apply Kd.R_alloc | apply Kd.R_drewN | apply Kd.R_drew)); exact HO_10.out⟩, ⟨by repeat (first | (with_reducible first | exact HB.out | apply below_alloc | apply pw_below_drewN | apply below_drew1) | exact HB.out)⟩⟩
                                              case rest =>
                                                as_aux_lemma =>
                                                  clear HC51
                                                  try clear c1
                                                  try clear p1
                                                  try clear q1
                                                  try clear hx1
                                                  try clear c2
                                                  try clear p2
                                                  try clear c3
                                                  try clear c4
                                                  try clear q4
                                                  try clear c5
                                                  try clear q5
                                                  try clear p6
                                                  try clear c7
                                                  try clear c7b0
                                                  try clear c7b1
                                                  try clear c8
                                                  try clear c8b0
                                                  try clear c9
                                                  try clear c10
                                                  try clear c10b0
                                                  try clear c11
                                                  try clear c11b0
                                                  try clear c12
                                                  try clear c12b0
                                                  try clear c13
                                                  try clear c13b0
                                                  try clear c14
                                                  try clear c14b0
                                                  try clear c15
                                                  try clear c15b0
                                                  try clear p15
                                                  try clear q15
                                                  try clear hx15
                                                  try clear p16
                                                  try clear q16
                                                  try clear hx16
                                                  try clear p17
                                                  try clear q17
                                                  try clear hx17
                                                  try clear c23
                                                  try clear c23b0
                                                  try clear c23b1
                                                  try clear c24
                                                  try clear c30
                                                  try clear c30b0
                                                  try clear c33
                                                  try clear c33b0
                                                  try clear c34
                                                  try clear c34b0
                                                  try clear c35
                                                  try clear c35b0
                                                  try clear c37
                                                  try clear c37b0
                                                  try clear c38
                                                  try clear c38b0
                                                  try clear c39
                                                  try clear c40
                                                  try clear c40b0
                                                  try clear c41
                                                  try clear c42
                                                  try clear c42b0
                                                  try clear q43
                                                  try clear c44
                                                  try clear c45
                                                  try clear c45b0
                                                  try clear c46
                                                  try clear c46b0
                                                  try clear c47
                                                  try clear c49
                                                  try clear c49b0
                                                  try clear c50
                                                  try clear c50b0
                                                  try clear q52
                                                  try clear c53
                                                  try clear hx152_0
                                                  try clear hx152_1
                                                  try clear hx152_10
                                                  try clear hx152_2
                                                  try clear hx152_3
                                                  try clear hx152_4
                                                  try clear hx152_5
                                                  try clear hx152_6
                                                  try clear hx152_7
                                                  try clear hx152_8
                                                  try clear hx152_9
                                                  try clear hx153_0
                                                  try clear hx153_1
                                                  try clear hx153_10
                                                  try clear hx153_2
                                                  try clear hx153_3
                                                  try clear hx153_4
                                                  try clear hx153_5
                                                  try clear hx153_6
                                                  try clear hx153_7
                                                  try clear hx153_8
                                                  try clear hx153_9
                                                  try clear hx154_0
                                                  try clear hx154_1
                                                  try clear hx154_10
                                                  try clear hx154_2
                                                  try clear hx154_3
                                                  try clear hx154_4
                                                  try clear hx154_5
                                                  try clear hx154_6
                                                  try clear hx154_7
                                                  try clear hx154_8
                                                  try clear hx154_9
                                                  try clear hx155_0
                                                  try clear hx155_1
                                                  try clear hx155_10
                                                  try clear hx155_2
                                                  try clear hx155_3
                                                  try clear hx155_4
                                                  try clear hx155_5
                                                  try clear hx155_6
                                                  try clear hx155_7
                                                  try clear hx155_8
                                                  try clear hx155_9
                                                  try clear hx169_0
                                                  try clear hx170_0
                                                  try clear hx171_0
                                                  try clear hx172_0
                                                  try clear hx172_1
                                                  try clear hx172_10
                                                  try clear hx172_2
                                                  try clear hx172_3
                                                  try clear hx172_4
                                                  try clear hx172_5
                                                  try clear hx172_6
                                                  try clear hx172_7
                                                  try clear hx172_8
                                                  try clear hx172_9
                                                  try clear hx173_0
                                                  try clear hx173_1
                                                  try clear hx173_10
                                                  try clear hx173_2
                                                  try clear hx173_3
                                                  try clear hx173_4
                                                  try clear hx173_5
                                                  try clear hx173_6
                                                  try clear hx173_7
                                                  try clear hx173_8
                                                  try clear hx173_9
                                                  try clear hx174_0
                                                  try clear hx174_1
                                                  try clear hx174_10
                                                  try clear hx174_2
                                                  try clear hx174_3
                                                  try clear hx174_4
                                                  try clear hx174_5
                                                  try clear hx174_6
                                                  try clear hx174_7
                                                  try clear hx174_8
                                                  try clear hx174_9
                                                  try clear hx175_0
                                                  try clear hx177_0
                                                  try clear hx177_1
                                                  try clear hx177_10
                                                  try clear hx177_2
                                                  try clear hx177_3
                                                  try clear hx177_4
                                                  try clear hx177_5
                                                  try clear hx177_6
                                                  try clear hx177_7
                                                  try clear hx177_8
                                                  try clear hx177_9
                                                  try clear hx178_0
                                                  try clear hx178_1
                                                  try clear hx178_10
                                                  try clear hx178_2
                                                  try clear hx178_3
                                                  try clear hx178_4
                                                  try clear hx178_5
                                                  try clear hx178_6
                                                  try clear hx178_7
                                                  try clear hx178_8
                                                  try clear hx178_9
                                                  try clear hx179_0
                                                  try clear hx179_1
                                                  try clear hx179_10
                                                  try clear hx179_2
                                                  try clear hx179_3
                                                  try clear hx179_4
                                                  try clear hx179_5
                                                  try clear hx179_6
                                                  try clear hx179_7
                                                  try clear hx179_8
                                                  try clear hx179_9
                                                  try clear p1
                                                  try clear p15
                                                  try clear p152
                                                  try clear p153
                                                  try clear p154
                                                  try clear p155
                                                  try clear p16
                                                  try clear p169
                                                  try clear p17
                                                  try clear p170
                                                  try clear p171
                                                  try clear p172
                                                  try clear p173
                                                  try clear p174
                                                  try clear p175
                                                  try clear p177
                                                  try clear p178
                                                  try clear p179
                                                  try clear p2
                                                  try clear p6
                                                  try clear q1
                                                  try clear q15
                                                  try clear q152
                                                  try clear q153
                                                  try clear q154
                                                  try clear q155
                                                  try clear q16
                                                  try clear q169
                                                  try clear q17
                                                  try clear q170
                                                  try clear q171
                                                  try clear q172
                                                  try clear q173
                                                  try clear q174
                                                  try clear q175
                                                  try clear q177
                                                  try clear q178
                                                  try clear q179
                                                  try clear q4
                                                  try clear q43
                                                  obtain ⟨kq, x16_50, rfl, HA, HJ50, HO_10, HB⟩ := hcut
                                                  cases kq with
                                                  | zero => exact absurd HA.out (by simp [evenhandedlaw16_BoundsNext.j7])
                                                  | succ kj50 =>
                                                    have H := HA.out
                                                    clear HA
                                                    simp only [evenhandedlaw16_BoundsNext.j7] at H
                                                    have H' := Aside0.mk H
                                                    clear H
                                                    go_wp2
                                                    repeat (go_quiet (fail); try go_wp2)
                                                    go_loopg [16, 17] kj50 (fun kq v16 v17 w' => ∃ (x16_7 : Bool) (x17_7 : Int), v16 = .bool x16_7 ∧ v17 = .int .i64 x17_7 ∧ Aside0 (evenhandedlaw16_BoundsNext.l4 kq l0 a1 t159 t160 t166 x14_5 (wrap64 ((wrap64 (((rd_T25 l0 x14_5).f7) + ((rd_T25 l0 x14_5).f2))) - a1)) x16_7 x17_7 = some r) ∧ Aside0 (kq ≤ kj50) ∧ Aside0 (Kd.R (Kd.int .i64) 3 w' w.heap.size (fun _ => True) (.slice Ao48 t166.length co48) t166) ∧ Aside0 (Below w.heap.size w w'))
                                                    case atStart => exact ⟨(x16_50), (0), (by first | rfl | (simp; done) | (simp [*]; done)), (by first | rfl | (simp; done) | (simp [*]; done)), H', ⟨Nat.le_refl _⟩, ⟨by (with_reducible repeat (first | apply Kd.R_alloc | apply Kd.R_drewN | apply Kd.R_drew)); exact HO_10.out⟩, ⟨by repeat (first | (with_reducible first | exact HB.out | apply below_alloc | apply pw_below_drewN | apply below_drew1) | exact HB.out)⟩⟩
                                                    case round =>
                                                      as_aux_lemma =>
                                                        clear H'
                                                        try clear c1
                                                        try clear p1
                                                        try clear q1
                                                        try clear hx1
                                                        try clear c2
                                                        try clear p2
                                                        try clear c3
                                                        try clear c4
                                                        try clear q4
                                                        try clear c5
                                                        try clear q5
                                                        try clear p6
                                                        try clear c7
                                                        try clear c7b0
                                                        try clear c7b1
                                                        try clear c8
                                                        try clear c8b0
                                                        try clear c9
                                                        try clear c10
                                                        try clear c10b0
                                                        try clear c11
                                                        try clear c11b0
                                                        try clear c12
                                                        try clear c12b0
                                                        try clear c13
                                                        try clear c13b0
                                                        try clear c14
                                                        try clear c14b0
                                                        try clear c15
                                                        try clear c15b0
                                                        try clear p15
                                                        try clear q15
                                                        try clear hx15
                                                        try clear p16
                                                        try clear q16
                                                        try clear hx16
                                                        try clear p17
                                                        try clear q17
                                                        try clear hx17
                                                        try clear c23
                                                        try clear c23b0
                                                        try clear c23b1
                                                        try clear c24
                                                        try clear c30
                                                        try clear c30b0
                                                        try clear c33
                                                        try clear c33b0
                                                        try clear c34
                                                        try clear c34b0
                                                        try clear c35
                                                        try clear c35b0
                                                        try clear c37
                                                        try clear c37b0
                                                        try clear c38
                                                        try clear c38b0
                                                        try clear c39
                                                        try clear c40
                                                        try clear c40b0
                                                        try clear c41
                                                        try clear c42
                                                        try clear c42b0
                                                        try clear q43
                                                        try clear c44
                                                        try clear c45
                                                        try clear c45b0
                                                        try clear c46
                                                        try clear c46b0
                                                        try clear c47
                                                        try clear c49
                                                        try clear c49b0
                                                        try clear c50
                                                        try clear c50b0
                                                        try clear q52
                                                        try clear c53
                                                        try clear hx152_0
                                                        try clear hx152_1
                                                        try clear hx152_10
                                                        try clear hx152_2
                                                        try clear hx152_3
                                                        try clear hx152_4
                                                        try clear hx152_5
                                                        try clear hx152_6
                                                        try clear hx152_7
                                                        try clear hx152_8
                                                        try clear hx152_9
                                                        try clear hx153_0
                                                        try clear hx153_1
                                                        try clear hx153_10
                                                        try clear hx153_2
                                                        try clear hx153_3
                                                        try clear hx153_4
                                                        try clear hx153_5
                                                        try clear hx153_6
                                                        try clear hx153_7
                                                        try clear hx153_8
                                                        try clear hx153_9
                                                        try clear hx154_0
                                                        try clear hx154_1
                                                        try clear hx154_10
                                                        try clear hx154_2
                                                        try clear hx154_3
                                                        try clear hx154_4
                                                        try clear hx154_5
                                                        try clear hx154_6
                                                        try clear hx154_7
                                                        try clear hx154_8
                                                        try clear hx154_9
                                                        try clear hx155_0
                                                        try clear hx155_1
                                                        try clear hx155_10
                                                        try clear hx155_2
                                                        try clear hx155_3
                                                        try clear hx155_4
                                                        try clear hx155_5
                                                        try clear hx155_6
                                                        try clear hx155_7
                                                        try clear hx155_8
                                                        try clear hx155_9
                                                        try clear hx169_0
                                                        try clear hx170_0
                                                        try clear hx171_0
                                                        try clear hx172_0
                                                        try clear hx172_1
                                                        try clear hx172_10
                                                        try clear hx172_2
                                                        try clear hx172_3
                                                        try clear hx172_4
                                                        try clear hx172_5
                                                        try clear hx172_6
                                                        try clear hx172_7
                                                        try clear hx172_8
                                                        try clear hx172_9
                                                        try clear hx173_0
                                                        try clear hx173_1
                                                        try clear hx173_10
                                                        try clear hx173_2
                                                        try clear hx173_3
                                                        try clear hx173_4
                                                        try clear hx173_5
                                                        try clear hx173_6
                                                        try clear hx173_7
                                                        try clear hx173_8
                                                        try clear hx173_9
                                                        try clear hx174_0
                                                        try clear hx174_1
                                                        try clear hx174_10
                                                        try clear hx174_2
                                                        try clear hx174_3
                                                        try clear hx174_4
                                                        try clear hx174_5
                                                        try clear hx174_6
                                                        try clear hx174_7
                                                        try clear hx174_8
                                                        try clear hx174_9
                                                        try clear hx175_0
                                                        try clear hx177_0
                                                        try clear hx177_1
                                                        try clear hx177_10
                                                        try clear hx177_2
                                                        try clear hx177_3
                                                        try clear hx177_4
                                                        try clear hx177_5
                                                        try clear hx177_6
                                                        try clear hx177_7
                                                        try clear hx177_8
                                                        try clear hx177_9
                                                        try clear hx178_0
                                                        try clear hx178_1
                                                        try clear hx178_10
                                                        try clear hx178_2
                                                        try clear hx178_3
                                                        try clear hx178_4
                                                        try clear hx178_5
                                                        try clear hx178_6
                                                        try clear hx178_7
                                                        try clear hx178_8
                                                        try clear hx178_9
                                                        try clear hx179_0
                                                        try clear hx179_1
                                                        try clear hx179_10
                                                        try clear hx179_2
                                                        try clear hx179_3
                                                        try clear hx179_4
                                                        try clear hx179_5
                                                        try clear hx179_6
                                                        try clear hx179_7
                                                        try clear hx179_8
                                                        try clear hx179_9
                                                        try clear p1
                                                        try clear p15
                                                        try clear p152
                                                        try clear p153
                                                        try clear p154
                                                        try clear p155
                                                        try clear p16
                                                        try clear p169
                                                        try clear p17
                                                        try clear p170
                                                        try clear p171
                                                        try clear p172
                                                        try clear p173
                                                        try clear p174
                                                        try clear p175
                                                        try clear p177
                                                        try clear p178
                                                        try clear p179
                                                        try clear p2
                                                        try clear p6
                                                        try clear q1
                                                        try clear q15
                                                        try clear q152
                                                        try clear q153
                                                        try clear q154
                                                        try clear q155
                                                        try clear q16
                                                        try clear q169
                                                        try clear q17
                                                        try clear q170
                                                        try clear q171
                                                        try clear q172
                                                        try clear q173
                                                        try clear q174
                                                        try clear q175
                                                        try clear q177
                                                        try clear q178
                                                        try clear q179
                                                        try clear q4
                                                        try clear q43
                                                        try clear q5
                                                        try clear q52
                                                        obtain ⟨x16_7, x17_7, rfl, rfl, HA, HK7, HO_10, HB⟩ := hrel
                                                        cases gk with
                                                        | zero => exact absurd HA.out (by simp [evenhandedlaw16_BoundsNext.l4])
                                                        | succ k7 =>
                                                          have H := HA.out
                                                          clear HA
                                                          simp only [evenhandedlaw16_BoundsNext.l4] at H
                                                          by_cases c54 : x17_7 < (t166.length : Int)
                                                          · rw [if_pos c54] at H
                                                            have c54b0 : decide (x17_7 < (t166.length : Int)) = true := decide_eq_true c54
                                                            clear c54
                                                            by_cases c55 : x16_7 = true
                                                            · subst c55
                                                              have H1 : (evenhandedlaw16_BoundsNext.l4 k7 l0 a1 t159 t160 t166 x14_5 (wrap64 ((wrap64 (((rd_T25 l0 x14_5).f7) + ((rd_T25 l0 x14_5).f2))) - a1)) true (wrap64 (x17_7 + 1))) = some r := by rw [if_pos rfl] at H; exact H
                                                              clear H
                                                              have H := H1
                                                              clear H1
                                                              have H' := Aside0.mk H
                                                              clear H
                                                              go_wp2
                                                              repeat (go_quiet (fail); try go_wp2)
                                                              go_roundg k7
                                                              case measure => have := HJ4.out; have := HK2.out; have := HJ18.out; have := HK4.out; have := HK5.out; have := HJ50.out; have := HK7.out; omega
                                                              case rel => exact ⟨(true), (wrap64 (x17_7 + 1)), (by first | rfl | (simp; done) | (simp [*]; done)), (by first | rfl | (simp; done) | (simp [*]; done)), H', ⟨by have := HJ4.out; have := HK2.out; have := HJ18.out; have := HK4.out; have := HK5.out; have := HJ50.out; have := HK7.out; omega⟩, ⟨by (with_reducible repeat (first | apply Kd.R_alloc | apply Kd.R_drewN | apply Kd.R_drew)); exact HO_10.out⟩, ⟨by repeat (first | (with_reducible first | exact HB.out | apply below_alloc | apply pw_below_drewN | apply below_drew1) | exact HB.out)⟩⟩
                                                            · replace c55 := Bool.eq_false_iff.mpr c55
                                                              subst c55
                                                              have H1 : (if 0 ≤ x17_7 then (evenhandedlaw16_BoundsNext.l4 k7 l0 a1 t159 t160 t166 x14_5 (wrap64 ((wrap64 (((rd_T25 l0 x14_5).f7) + ((rd_T25 l0 x14_5).f2))) - a1)) ((rd t166 x17_7) == (wrap64 ((wrap64 (((rd_T25 l0 x14_5).f7) + ((rd_T25 l0 x14_5).f2))) - a1))) (wrap64 (x17_7 + 1))) else (none)) = some r := by rw [if_neg (show ¬ (false = true) by decide)] at H; exact H
                                                              clear H
                                                              have H := H1
                                                              clear H1
                                                              by_cases c56 : 0 ≤ x17_7
                                                              · rw [if_pos c56] at H
                                                                have c56b0 : decide (0 ≤ x17_7) = true := decide_eq_true c56
                                                                clear c56
                                                                have H' := Aside0.mk H
                                                                clear H
                                                                have p180 : 0 ≤ (x17_7 : Int) := of_decide_eq_true (by first | (with_reducible assumption) | assumption)
                                                                have q180 : x17_7 < (t166.length : Int) := of_decide_eq_true (by first | (with_reducible assumption) | assumption)
                                                                obtain ⟨ad180, e180, hx180_0⟩ := Kd.at_int (Kd.R_reads' HO_10.out).2.2 x17_7 p180 q180
                                                                cases e180
                                                                replace p180 := eq_true p180
                                                                replace q180 := eq_true q180
                                                                go_wp2
                                                                repeat (go_quiet (fail); try go_wp2)
                                                                go_roundg k7
                                                                case measure => have := HJ4.out; have := HK2.out; have := HJ18.out; have := HK4.out; have := HK5.out; have := HJ50.out; have := HK7.out; omega
                                                                case rel => exact ⟨(((rd t166 x17_7) == (wrap64 ((wrap64 (((rd_T25 l0 x14_5).f7) + ((rd_T25 l0 x14_5).f2))) - a1)))), (wrap64 (x17_7 + 1)), (by first | rfl | (simp; done) | (simp [*]; done)), (by first | rfl | (simp; done) | (simp [*]; done)), H', ⟨by have := HJ4.out; have := HK2.out; have := HJ18.out; have := HK4.out; have := HK5.out; have := HJ50.out; have := HK7.out; omega⟩, ⟨by (with_reducible repeat (first | apply Kd.R_alloc | apply Kd.R_drewN | apply Kd.R_drew)); exact HO_10.out⟩, ⟨by repeat (first | (with_reducible first | exact HB.out | apply below_alloc | apply pw_below_drewN | apply below_drew1) | exact HB.out)⟩⟩
                                                              · rw [if_neg c56] at H
                                                                exact absurd H (by simp)
                                                          · rw [if_neg c54] at H
                                                            have c54b0 : decide (x17_7 < (t166.length : Int)) = false := decide_eq_false c54
                                                            clear c54
                                                            by_cases c57 : x16_7 = true
                                                            · subst c57
                                                              have H1 : (evenhandedlaw16_BoundsNext.l3 k7 l0 a1 t159 t160 t166 (wrap64 (x14_5 + 1))) = some r := by rw [if_pos rfl] at H; exact H
                                                              clear H
                                                              have H := H1
                                                              clear H1
                                                              have H' := Aside0.mk H
                                                              clear H
                                                              go_wp2
                                                              repeat (go_quiet (fail); try go_wp2)
                                                              go_roundg k7
                                                              case measure => have := HJ4.out; have := HK2.out; have := HJ18.out; have := HK4.out; have := HK5.out; have := HJ50.out; have := HK7.out; omega
                                                              case rel => exact ⟨(wrap64 (x14_5 + 1)), (by first | rfl | (simp; done) | (simp [*]; done)), H', ⟨by have := HJ4.out; have := HK2.out; have := HJ18.out; have := HK4.out; have := HK5.out; have := HJ50.out; have := HK7.out; omega⟩, ⟨by (with_reducible repeat (first | apply Kd.R_alloc | apply Kd.R_drewN | apply Kd.R_drew)); exact HO_10.out⟩, ⟨by repeat (first | (with_reducible first | exact HB.out | apply below_alloc | apply pw_below_drewN | apply below_drew1) | exact HB.out)⟩⟩
                                                            · replace c57 := Bool.eq_false_iff.mpr c57
                                                              subst c57
                                                              have H1 : (some false) = some r := by rw [if_neg (show ¬ (false = true) by decide)] at H; exact H
                                                              clear H
                                                              have H := H1
                                                              clear H1
                                                              obtain rfl := Option.some.inj H
                                                              go_wp2
                                                              repeat (go_quiet (fail); try go_wp2)
                                                              go_ret
                                                              exact ⟨by first | rfl | (simp [errW_none, errW_some] <;> rfl) | (simp [*, errW_none, errW_some] <;> rfl), by repeat (first | (with_reducible first | exact HB.out | apply below_alloc | apply pw_below_drewN | apply below_drew1) | exact HB.out)⟩
                                            · rw [if_neg c50] at H
                                              exact absurd H (by simp)
                                          · rw [if_neg c49] at H
                                            have c49b0 : decide (x14_5 < (l0.length : Int)) = false := decide_eq_false c49
                                            clear c49
                                            by_cases c58 : ((decide ((t166.length : Int) > 0)) == t160) = true
                                            · rw [if_pos c58] at H
                                              have c58b0 : ((decide ((t166.length : Int) > 0)) == t160) = true := c58
                                              (try (have c58b1 : decide ((decide ((t166.length : Int) > 0)) = t160) = true := by simpa using c58))
                                              (try (have c58b2 : ((decide ((t166.length : Int) > 0)) == t160) = true := by simpa using c58))
                                              clear c58
                                              by_cases c59 : t160 = true
                                              · subst c59
                                                have H1 : (if 0 < (t166.length : Int) then (some ((rd t166 0) == (wrap64 (t159 - a1)))) else (none)) = some r := by rw [if_pos rfl] at H; exact H
                                                clear H
                                                have H := H1
                                                clear H1
                                                by_cases c60 : 0 < (t166.length : Int)
                                                · rw [if_pos c60] at H
                                                  have c60b0 : decide (0 < (t166.length : Int)) = true := decide_eq_true c60
                                                  have c60b1 : decide (0 < t166.length) = true := decide_eq_true (by omega)
                                                  clear c60
                                                  obtain rfl := Option.some.inj H
                                                  have p176 : 0 ≤ (0 : Int) := (by omega)
                                                  have q176 : 0 < (t166.length : Int) := of_decide_eq_true (by first | (with_reducible assumption) | assumption)
                                                  obtain ⟨ad176, e176, hx176_0⟩ := Kd.at_int (Kd.R_reads' HO_10.out).2.2 0 p176 q176
                                                  cases e176
                                                  have qi176 : (0 < t166.length) = True := eq_true (by omega)
                                                  (try rw [show ((0 : Int)).toNat = 0 from rfl] at hx176_0)
                                                  (try rw [Addr.add_zero'] at hx176_0)
                                                  replace p176 := eq_true p176
                                                  replace q176 := eq_true q176
                                                  go_wp2
                                                  repeat (go_quiet (fail); try go_wp2)
                                                  go_ret
                                                  exact ⟨by first | rfl | (simp [errW_none, errW_some] <;> rfl) | (simp [*, errW_none, errW_some] <;> rfl), by repeat (first | (with_reducible first | exact HB.out | apply below_alloc | apply pw_below_drewN | apply below_drew1) | exact HB.out)⟩
                                                · rw [if_neg c60] at H
                                                  exact absurd H (by simp)
                                              · replace c59 := Bool.eq_false_iff.mpr c59
                                                subst c59
                                                obtain rfl : t166 = [] := by simpa using c58b0
                                                have H1 : (some true) = some r := by rw [if_neg (show ¬ (false = true) by decide)] at H; exact H
                                                clear H
                                                have H := H1
                                                clear H1
                                                obtain rfl := Option.some.inj H
                                                go_wp2
                                                repeat (go_quiet (fail); try go_wp2)
                                                go_ret
                                                exact ⟨by first | rfl | (simp [errW_none, errW_some] <;> rfl) | (simp [*, errW_none, errW_some] <;> rfl), by repeat (first | (with_reducible first | exact HB.out | apply below_alloc | apply pw_below_drewN | apply below_drew1) | exact HB.out)⟩
                                            · rw [if_neg c58] at H
                                              have c58b0 : ((decide ((t166.length : Int) > 0)) == t160) = false := by simpa using c58
                                              (try (have c58b1 : decide ((decide ((t166.length : Int) > 0)) = t160) = false := by simpa using c58))
                                              (try (have c58b2 : ((decide ((t166.length : Int) > 0)) == t160) = false := by simpa using c58))
                                              (try (have c58b3 : ¬ ((decide ((t166.length : Int) > 0)) = t160) := by simpa using c58))
                                              clear c58
                                              obtain rfl := Option.some.inj H
                                              by_cases hz : t166 = []
                                              · subst hz
                                                obtain rfl : t160 = true := by simpa using c58b0
                                                go_wp2
                                                repeat (go_quiet (fail); try go_wp2)
                                                go_ret
                                                exact ⟨by first | rfl | (simp [errW_none, errW_some] <;> rfl) | (simp [*, errW_none, errW_some] <;> rfl), by repeat (first | (with_reducible first | exact HB.out | apply below_alloc | apply pw_below_drewN | apply below_drew1) | exact HB.out)⟩
                                              · have z0 : 0 < t166.length := List.length_pos_iff.2 hz
                                                have z1 : decide ((t166.length : Int) > 0) = true := decide_eq_true (by omega)
                                                have z2 : decide (0 < t166.length) = true := decide_eq_true z0
                                                have z3 : decide (0 < (t166.length : Int)) = true := z1
                                                obtain rfl : t160 = false := by rw [z1] at c58b0; simpa using c58b0
                                                go_wp2
                                                repeat (go_quiet (fail); try go_wp2)
                                                go_ret
                                                exact ⟨by first | rfl | (simp [errW_none, errW_some] <;> rfl) | (simp [*, errW_none, errW_some] <;> rfl), by repeat (first | (with_reducible first | exact HB.out | apply below_alloc | apply pw_below_drewN | apply below_drew1) | exact HB.out)⟩
  · replace c4 := Bool.eq_false_iff.mpr c4
    subst c4
    have H1 : (some false) = some r := by rw [if_neg (show ¬ (false = true) by decide)] at H; exact H
    clear H
    have H := H1
    clear H1
    obtain rfl := Option.some.inj H
    go_enter Try.func3, Try.ntmps3
    go_wp2_with (first | (go_at_call 8; (with_reducible refine (evenhandedlaw16_awake.calls k  false _ A3.out).mono ?_); rintro e w61 ⟨rfl, hb⟩; have n0_ := Aside0.mk (below_step (by repeat (first | (with_reducible first | exact HB.out | apply below_alloc | apply pw_below_drewN | apply below_drew1) | exact HB.out)) hb); clear HB; have HB := n0_; clear n0_; (try clear hb); (try clear hb2); (try clear hk); (try clear hi)))
    repeat (go_quiet (first | (go_at_call 8; (with_reducible refine (evenhandedlaw16_awake.calls k  false _ A3.out).mono ?_); rintro e w61 ⟨rfl, hb⟩; have n0_ := Aside0.mk (below_step (by repeat (first | (with_reducible first | exact HB.out | apply below_alloc | apply pw_below_drewN | apply below_drew1) | exact HB.out)) hb); clear HB; have HB := n0_; clear n0_; (try clear hb); (try clear hb2); (try clear hk); (try clear hi))); try go_wp2_with (first | (go_at_call 8; (with_reducible refine (evenhandedlaw16_awake.calls k  false _ A3.out).mono ?_); rintro e w61 ⟨rfl, hb⟩; have n0_ := Aside0.mk (below_step (by repeat (first | (with_reducible first | exact HB.out | apply below_alloc | apply pw_below_drewN | apply below_drew1) | exact HB.out)) hb); clear HB; have HB := n0_; clear n0_; (try clear hb); (try clear hb2); (try clear hk); (try clear hi))))
    go_ret
    exact ⟨by first | rfl | (simp [errW_none, errW_some] <;> rfl) | (simp [*, errW_none, errW_some] <;> rfl), by repeat (first | (with_reducible first | exact HB.out | apply below_alloc | apply pw_below_drewN | apply below_drew1) | exact HB.out)⟩

end Go.Proofs.Ytiljdmlganploaa.PBoundsNext
