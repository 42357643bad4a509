/- The machine's side of the law, written by the kit's print program for the functions that it takes. -/
import Derived.Test.YthkjmhngmpdngaaGreatPRatx0
import Derived.Test.YthkjmhngmpdngaaGreatExt
import Derived.Test.YthkjmhngmpdngaaGreatPRatx1
import Derived.Test.YthkjmhngmpdngaaGreatPRatx2
import Derived.Test.YthkjmhngmpdngaaGreatPRatx3
namespace Go.Proofs.YthkjmhngmpdngaaGreat.PRat
open Go.RowKit Go.Proofs.YthkjmhngmpdngaaGreatW.PrintWords Go.Proofs.YthkjmhngmpdngaaGreatW.PrintLast Go.Proofs.YthkjmhngmpdngaaGreatW.PrintMore
attribute [local go_sem] max2_int min2_int max_two min_two max_three min_three max_four min_four   -- for this text's walks alone
set_option linter.unusedVariables false
set_option linter.unusedSimpArgs false

/-! ### ratio_gcd: function 123 -/
def ratio_gcd.l0 : Nat → Int → Int → Bool → Int → Int → Bool → Option (Int × Int × Bool)
  | 0, _, _, _, _, _, _ => none
  | k + 1, x147000, x147001, x147002, x148000, x148001, x148002 => (ratio_wide_zero.f x148000 x148001 x148002).bind fun t149 => (if t149 = true then (some (x147000, x147001, false)) else ((ratio_wide_mod.f k x147000 x147001 x147002 x148000 x148001 x148002).bind fun bt150 => (ratio_gcd.l0 k x148000 x148001 x148002 bt150.1 bt150.2.1 bt150.2.2)))
def ratio_gcd.f (k : Nat) (a0_0 : Int) (a0_1 : Int) (a0_2 : Bool) (a1_0 : Int) (a1_1 : Int) (a1_2 : Bool) : Option (Int × Int × Bool) := ratio_gcd.l0 k a0_0 a0_1 a0_2 a1_0 a1_1 a1_2
set_option maxHeartbeats 8000000 in
set_option maxRecDepth 100000 in
theorem ratio_gcd.calls (k : Nat) (a0_0 : Int) (a0_1 : Int) (a0_2 : Bool) (a1_0 : Int) (a1_1 : Int) (a1_2 : Bool) (r1 : Int) (r2 : Int) (r3 : Bool) (w : World) (h : ratio_gcd.f k a0_0 a0_1 a0_2 a1_0 a1_1 a1_2 = some (r1, r2, r3)) :
    Calls Tryz.prog 123 #[.agg #[.int .u64 a0_0, .int .u64 a0_1, .bool a0_2], .agg #[.int .u64 a1_0, .int .u64 a1_1, .bool a1_2]] w fun e w' => e = .returned (.agg #[.int .u64 r1, .int .u64 r2, .bool r3]) ∧ Below w.heap.size w w' := by
  have hu141 := Tryz.underlying141
  have HB := Aside0.mk (Below.refl w.heap.size w)
  have H : (ratio_gcd.l0 k a0_0 a0_1 a0_2 a1_0 a1_1 a1_2) = some (r1, r2, r3) := h
  clear h
  have H' := Aside0.mk H
  clear H
  go_enter Tryz.func123, Tryz.ntmps123
  go_wp2_with (first | ((with_reducible refine gate_dst (N := 2) rfl ?_); refine box_event ?hg (N := 2) ?hd (cs := #[.int .u64 a0_0, .int .u64 a0_1, .bool a0_2]) (t := 141) ?hr ?_; (case hd => rfl); (case hg => rfl); (case hr => first | (go_simp; done) | (go_simp; rfl)); intro gb146 hg w3 hbox hb; have n0_ := Aside0.mk (below_step (by repeat (first | (with_reducible first | exact HB.out | apply below_alloc | apply pw_below_drewN | apply below_drew1) | exact HB.out)) hb); have n1_ := Aside0.mk (hbox); have n2_ := Aside0.mk ((by rw [hg]; exact (below_size (by repeat (first | (with_reducible first | exact HB.out | apply below_alloc | apply pw_below_drewN | apply below_drew1) | exact HB.out))) : w.heap.size ≤ gb146)); have n3_ := Aside0.mk ((by rw [hg]; exact (below_size (by repeat (first | (with_reducible first | exact HB.out | apply below_alloc | apply pw_below_drewN | apply below_drew1) | exact HB.out))) : w.heap.size ≤ gb146)); clear HB; have HB := n0_; have BK146 := n1_; have GW146 := n2_; have GE146 := n3_; clear n0_ n1_ n2_ n3_; clear hb hbox hg) | ((with_reducible refine gate_dst (N := 3) rfl ?_); refine box_event ?hg (N := 3) ?hd (cs := #[.int .u64 a1_0, .int .u64 a1_1, .bool a1_2]) (t := 141) ?hr ?_; (case hd => rfl); (case hg => rfl); (case hr => first | (go_simp; done) | (go_simp; rfl)); intro gb147 hg w4 hbox hb; have n0_ := Aside0.mk (blk_below (g := gb146) (o := .cells #[.int .u64 a0_0, .int .u64 a0_1, .bool a0_2] 141 (0, 0)) (by (with_reducible repeat (first | refine blk_drewN ?_ _ | refine blk_drew ?_ | refine blk_alloc ?_ _)); exact BK146.out) hb); have n1_ := Aside0.mk (below_step (by repeat (first | (with_reducible first | exact HB.out | apply below_alloc | apply pw_below_drewN | apply below_drew1 | refine below_set ?_ GE146.out) | exact HB.out)) hb); have n2_ := Aside0.mk (hbox); have n3_ := Aside0.mk ((by rw [hg]; exact (below_size (by repeat (first | (with_reducible first | exact HB.out | apply below_alloc | apply pw_below_drewN | apply below_drew1 | refine below_set ?_ GE146.out) | exact HB.out))) : w.heap.size ≤ gb147)); have n4_ := Aside0.mk ((by rw [hg]; exact (below_size (by repeat (first | (with_reducible first | exact HB.out | apply below_alloc | apply pw_below_drewN | apply below_drew1 | refine below_set ?_ GE146.out) | exact HB.out))) : w.heap.size ≤ gb147)); have n5_ := Aside0.mk ((by rw [hg]; exact Nat.ne_of_lt (blk_lt (g := gb146) (o := .cells #[.int .u64 a0_0, .int .u64 a0_1, .bool a0_2] 141 (0, 0)) (by (with_reducible repeat (first | refine blk_drewN ?_ _ | refine blk_drew ?_ | refine blk_alloc ?_ _)); exact BK146.out)) : gb146 ≠ gb147)); have n6_ := Aside0.mk ((by rw [hg]; exact Nat.ne_of_gt (blk_lt (g := gb146) (o := .cells #[.int .u64 a0_0, .int .u64 a0_1, .bool a0_2] 141 (0, 0)) (by (with_reducible repeat (first | refine blk_drewN ?_ _ | refine blk_drew ?_ | refine blk_alloc ?_ _)); exact BK146.out)) : gb147 ≠ gb146)); clear BK146; clear HB; have BK146 := n0_; have HB := n1_; have BK147 := n2_; have GW147 := n3_; have GE147 := n4_; have NB146_147 := n5_; have NB147_146 := n6_; clear n0_ n1_ n2_ n3_ n4_ n5_ n6_; clear hb hbox hg) | ((with_reducible refine gate_dst (N := 4) rfl ?_); refine box_event ?hg (N := 4) ?hd (cs := #[.int .u64 0, .int .u64 0, .bool false]) (t := 141) ?hr ?_; (case hd => rfl); (case hg => rfl); (case hr => first | (go_simp; done) | (go_simp; rfl)); intro gb148 hg w5 hbox hb; have n0_ := Aside0.mk (blk_below (g := gb146) (o := .cells #[.int .u64 a0_0, .int .u64 a0_1, .bool a0_2] 141 (0, 0)) (by (with_reducible repeat (first | refine blk_drewN ?_ _ | refine blk_drew ?_ | refine blk_alloc ?_ _)); exact BK146.out) hb); have n1_ := Aside0.mk (blk_below (g := gb147) (o := .cells #[.int .u64 a1_0, .int .u64 a1_1, .bool a1_2] 141 (0, 0)) (by (with_reducible repeat (first | refine blk_drewN ?_ _ | refine blk_drew ?_ | refine blk_alloc ?_ _)); exact BK147.out) hb); have n2_ := Aside0.mk (below_step (by repeat (first | (with_reducible first | exact HB.out | apply below_alloc | apply pw_below_drewN | apply below_drew1 | refine below_set ?_ GE146.out | refine below_set ?_ GE147.out) | exact HB.out)) hb); have n3_ := Aside0.mk (hbox); have n4_ := Aside0.mk ((by rw [hg]; exact (below_size (by repeat (first | (with_reducible first | exact HB.out | apply below_alloc | apply pw_below_drewN | apply below_drew1 | refine below_set ?_ GE146.out | refine below_set ?_ GE147.out) | exact HB.out))) : w.heap.size ≤ gb148)); have n5_ := Aside0.mk ((by rw [hg]; exact (below_size (by repeat (first | (with_reducible first | exact HB.out | apply below_alloc | apply pw_below_drewN | apply below_drew1 | refine below_set ?_ GE146.out | refine below_set ?_ GE147.out) | exact HB.out))) : w.heap.size ≤ gb148)); have n6_ := Aside0.mk ((by rw [hg]; exact Nat.ne_of_lt (blk_lt (g := gb146) (o := .cells #[.int .u64 a0_0, .int .u64 a0_1, .bool a0_2] 141 (0, 0)) (by (with_reducible repeat (first | refine blk_drewN ?_ _ | refine blk_drew ?_ | refine blk_alloc ?_ _)); exact BK146.out)) : gb146 ≠ gb148)); have n7_ := Aside0.mk ((by rw [hg]; exact Nat.ne_of_gt (blk_lt (g := gb146) (o := .cells #[.int .u64 a0_0, .int .u64 a0_1, .bool a0_2] 141 (0, 0)) (by (with_reducible repeat (first | refine blk_drewN ?_ _ | refine blk_drew ?_ | refine blk_alloc ?_ _)); exact BK146.out)) : gb148 ≠ gb146)); have n8_ := Aside0.mk ((by rw [hg]; exact Nat.ne_of_lt (blk_lt (g := gb147) (o := .cells #[.int .u64 a1_0, .int .u64 a1_1, .bool a1_2] 141 (0, 0)) (by (with_reducible repeat (first | refine blk_drewN ?_ _ | refine blk_drew ?_ | refine blk_alloc ?_ _)); exact BK147.out)) : gb147 ≠ gb148)); have n9_ := Aside0.mk ((by rw [hg]; exact Nat.ne_of_gt (blk_lt (g := gb147) (o := .cells #[.int .u64 a1_0, .int .u64 a1_1, .bool a1_2] 141 (0, 0)) (by (with_reducible repeat (first | refine blk_drewN ?_ _ | refine blk_drew ?_ | refine blk_alloc ?_ _)); exact BK147.out)) : gb148 ≠ gb147)); clear BK146; clear BK147; clear HB; have BK146 := n0_; have BK147 := n1_; have HB := n2_; have BK148 := n3_; have GW148 := n4_; have GE148 := n5_; have NB146_148 := n6_; have NB148_146 := n7_; have NB147_148 := n8_; have NB148_147 := n9_; clear n0_ n1_ n2_ n3_ n4_ n5_ n6_ n7_ n8_ n9_; clear hb hbox hg))
  (try simp only [Act.put, List.setIfInBounds_toArray, List.set_cons_zero, List.set_cons_succ])
  go_loopg [] k (fun kq w' => ∃ (x147000_1 : Int) (x147001_1 : Int) (x147002_1 : Bool) (x148000_1 : Int) (x148001_1 : Int) (x148002_1 : Bool), Aside0 (ratio_gcd.l0 kq x147000_1 x147001_1 x147002_1 x148000_1 x148001_1 x148002_1 = some (r1, r2, r3)) ∧ Aside0 (kq ≤ k) ∧ Aside0 (w'.heap[gb146]? = some (.cells #[.int .u64 x147000_1, .int .u64 x147001_1, .bool x147002_1] 141 (0, 0))) ∧ Aside0 (w'.heap[gb147]? = some (.cells #[.int .u64 x148000_1, .int .u64 x148001_1, .bool x148002_1] 141 (0, 0))) ∧ Aside0 (w'.heap[gb148]? = some (.cells #[.int .u64 0, .int .u64 0, .bool false] 141 (0, 0))) ∧ Aside0 (Below w.heap.size w w'))
  case atStart => exact ⟨(a0_0), (a0_1), (a0_2), (a1_0), (a1_1), (a1_2), H', ⟨Nat.le_refl _⟩, ⟨by (with_reducible repeat (first | refine blk_drewN ?_ _ | refine blk_drew ?_ | refine blk_alloc ?_ _)); exact BK146.out⟩, ⟨by (with_reducible repeat (first | refine blk_drewN ?_ _ | refine blk_drew ?_ | refine blk_alloc ?_ _)); exact BK147.out⟩, ⟨by (with_reducible repeat (first | refine blk_drewN ?_ _ | refine blk_drew ?_ | refine blk_alloc ?_ _)); exact BK148.out⟩, ⟨by repeat (first | (with_reducible first | exact HB.out | apply below_alloc | apply pw_below_drewN | apply below_drew1 | refine below_set ?_ GE146.out | refine below_set ?_ GE147.out | refine below_set ?_ GE148.out) | exact HB.out)⟩⟩
  case round =>
    clear H'
    try clear c1
    try clear p2
    obtain ⟨x147000_1, x147001_1, x147002_1, x148000_1, x148001_1, x148002_1, HA, HK1, BK146, BK147, BK148, HB⟩ := hrel
    cases gk with
    | zero => exact absurd HA.out (by simp [ratio_gcd.l0])
    | succ k1 =>
      have H := HA.out
      clear HA
      simp only [ratio_gcd.l0] at H
      replace H := Option.bind_eq_some_iff.mp H
      obtain ⟨t149, A60, H⟩ := H
      replace H : (if t149 = true then (some (x147000_1, x147001_1, false)) else ((ratio_wide_mod.f k1 x147000_1 x147001_1 x147002_1 x148000_1 x148001_1 x148002_1).bind fun bt150 => (ratio_gcd.l0 k1 x148000_1 x148001_1 x148002_1 bt150.1 bt150.2.1 bt150.2.2))) = some (r1, r2, r3) := H
      have A6 := Aside0.mk A60
      clear A60
      by_cases c7 : t149 = true
      · subst c7
        have H1 : (some (x147000_1, x147001_1, false)) = some (r1, r2, r3) := by rw [if_pos rfl] at H; exact H
        clear H
        have H := H1
        clear H1
        simp only [Option.some.injEq, Prod.mk.injEq] at H
        obtain ⟨rfl, rfl, rfl⟩ := H
        have hnb8 := NB147_146.out
        have hnc8 := NB146_147.out
        have hnb9 := NB147_148.out
        have hnc9 := NB148_147.out
        have hcz10_0 : wr.cell? ⟨gb147, 0, none⟩ = some (.int .u64 x148000_1) := (blk_cell BK147.out 0).trans rfl
        have hcz10_1 : wr.cell? ⟨gb147, 1, none⟩ = some (.int .u64 x148001_1) := (blk_cell BK147.out 1).trans rfl
        have hcz10_2 : wr.cell? ⟨gb147, 2, none⟩ = some (.bool x148002_1) := (blk_cell BK147.out 2).trans rfl
        have hfz10_0 := blk_frozen BK147.out 0
        have hfz10_1 := blk_frozen BK147.out 1
        have hfz10_2 := blk_frozen BK147.out 2
        go_wp2_with (first | ((with_reducible refine gate_callee (f := 122) rfl ?_); refine goesL_ (some 6) rfl rfl Tryz.func122 (by kernel_rfl) rfl #[.agg #[.int .u64 x148000_1, .int .u64 x148001_1, .bool x148002_1]] rfl (by (try simp only [List.map_toArray, List.map_cons, List.map_nil]); first | done | rfl | (simp only [List.length_drop, List.length_take]; rfl)) ?_; (with_reducible refine (ratio_wide_zero.calls x148000_1 x148001_1 x148002_1 true _ A6.out).mono ?_); rintro e w11 ⟨rfl, hb⟩; refine ⟨_, rfl, ?_⟩; have n0_ := Aside0.mk (blk_below (g := gb146) (o := .cells #[.int .u64 x147000_1, .int .u64 x147001_1, .bool x147002_1] 141 (0, 0)) (by (with_reducible repeat (first | refine blk_drewN ?_ _ | refine blk_drew ?_ | refine blk_alloc ?_ _)); exact BK146.out) hb); have n1_ := Aside0.mk (blk_below (g := gb147) (o := .cells #[.int .u64 x148000_1, .int .u64 x148001_1, .bool x148002_1] 141 (0, 0)) (by (with_reducible repeat (first | refine blk_drewN ?_ _ | refine blk_drew ?_ | refine blk_alloc ?_ _)); exact BK147.out) hb); have n2_ := Aside0.mk (blk_below (g := gb148) (o := .cells #[.int .u64 0, .int .u64 0, .bool false] 141 (0, 0)) (by (with_reducible repeat (first | refine blk_drewN ?_ _ | refine blk_drew ?_ | refine blk_alloc ?_ _)); exact BK148.out) hb); have n3_ := Aside0.mk (below_step (by repeat (first | (with_reducible first | exact HB.out | apply below_alloc | apply pw_below_drewN | apply below_drew1 | refine below_set ?_ GE146.out | refine below_set ?_ GE147.out | refine below_set ?_ GE148.out) | exact HB.out)) hb); clear BK146; clear BK147; clear BK148; clear HB; have BK146 := n0_; have BK147 := n1_; have BK148 := n2_; have HB := n3_; clear n0_ n1_ n2_ n3_; (try clear hb); (try clear hb2); (try clear hk); (try clear hi); have hnb12 := NB146_148.out; have hnc12 := NB148_146.out; have hcz13_0 : w11.cell? ⟨gb146, 0, none⟩ = some (.int .u64 x147000_1) := (blk_cell BK146.out 0).trans rfl; have hcz13_1 : w11.cell? ⟨gb146, 1, none⟩ = some (.int .u64 x147001_1) := (blk_cell BK146.out 1).trans rfl; have hcz13_2 : w11.cell? ⟨gb146, 2, none⟩ = some (.bool x147002_1) := (blk_cell BK146.out 2).trans rfl; have hfz13_0 := blk_frozen BK146.out 0; have hfz13_1 := blk_frozen BK146.out 1; have hfz13_2 := blk_frozen BK146.out 2; have hcz14_0 : w11.cell? ⟨gb148, 0, none⟩ = some (.int .u64 0) := (blk_cell BK148.out 0).trans rfl; have hcz14_1 : w11.cell? ⟨gb148, 1, none⟩ = some (.int .u64 0) := (blk_cell BK148.out 1).trans rfl; have hcz14_2 : w11.cell? ⟨gb148, 2, none⟩ = some (.bool false) := (blk_cell BK148.out 2).trans rfl; have hfz14_0 := blk_frozen BK148.out 0; have hfz14_1 := blk_frozen BK148.out 1; have hfz14_2 := blk_frozen BK148.out 2))
        refine bodyPost_ret (results_cell_row rfl _ _ gb148 141 #[.int .u64 x147000_1, .int .u64 x147001_1, .bool false] (0, 0) _ rfl (by (with_reducible repeat (first | refine blk_drewN ?_ _ | refine blk_drew ?_ | refine blk_alloc ?_ _)); refine blk_put (cs := #[.int .u64 x147000_1, .int .u64 x147001_1, .bool false]) ?_ 2 _ rfl; (with_reducible repeat (first | refine blk_drewN ?_ _ | refine blk_drew ?_ | refine blk_alloc ?_ _)); refine blk_put (cs := #[.int .u64 x147000_1, .int .u64 0, .bool false]) ?_ 1 _ rfl; (with_reducible repeat (first | refine blk_drewN ?_ _ | refine blk_drew ?_ | refine blk_alloc ?_ _)); refine blk_put (cs := #[.int .u64 0, .int .u64 0, .bool false]) ?_ 0 _ rfl; (with_reducible repeat (first | refine blk_drewN ?_ _ | refine blk_drew ?_ | refine blk_alloc ?_ _)); exact BK148.out) Tryz.underlying141 rfl (by kernel_rfl)) rfl ?_
        exact ⟨by first | rfl | (simp [errW_none, errW_some] <;> rfl) | (simp [*, errW_none, errW_some] <;> rfl), by repeat (first | (with_reducible first | exact HB.out | apply below_alloc | apply pw_below_drewN | apply below_drew1 | refine below_set ?_ GE146.out | refine below_set ?_ GE147.out | refine below_set ?_ GE148.out) | exact HB.out)⟩
      · replace c7 := Bool.eq_false_iff.mpr c7
        subst c7
        have H1 : ((ratio_wide_mod.f k1 x147000_1 x147001_1 x147002_1 x148000_1 x148001_1 x148002_1).bind fun bt150 => (ratio_gcd.l0 k1 x148000_1 x148001_1 x148002_1 bt150.1 bt150.2.1 bt150.2.2)) = some (r1, r2, r3) := by rw [if_neg (show ¬ (false = true) by decide)] at H; exact H
        clear H
        have H := H1
        clear H1
        replace H := Option.bind_eq_some_iff.mp H
        obtain ⟨⟨t150, t151, t152⟩, A150, H⟩ := H
        replace H : (ratio_gcd.l0 k1 x148000_1 x148001_1 x148002_1 t150 t151 t152) = some (r1, r2, r3) := H
        have A15 := Aside0.mk A150
        clear A150
        have H' := Aside0.mk H
        clear H
        have hnb16 := NB147_146.out
        have hnc16 := NB146_147.out
        have hnb17 := NB147_148.out
        have hnc17 := NB148_147.out
        have hcz18_0 : wr.cell? ⟨gb147, 0, none⟩ = some (.int .u64 x148000_1) := (blk_cell BK147.out 0).trans rfl
        have hcz18_1 : wr.cell? ⟨gb147, 1, none⟩ = some (.int .u64 x148001_1) := (blk_cell BK147.out 1).trans rfl
        have hcz18_2 : wr.cell? ⟨gb147, 2, none⟩ = some (.bool x148002_1) := (blk_cell BK147.out 2).trans rfl
        have hfz18_0 := blk_frozen BK147.out 0
        have hfz18_1 := blk_frozen BK147.out 1
        have hfz18_2 := blk_frozen BK147.out 2
        try go_wp2_with (first | ((with_reducible refine gate_callee (f := 122) rfl ?_); refine goesL_ (some 6) rfl rfl Tryz.func122 (by kernel_rfl) rfl #[.agg #[.int .u64 x148000_1, .int .u64 x148001_1, .bool x148002_1]] rfl (by (try simp only [List.map_toArray, List.map_cons, List.map_nil]); first | done | rfl | (simp only [List.length_drop, List.length_take]; rfl)) ?_; (with_reducible refine (ratio_wide_zero.calls x148000_1 x148001_1 x148002_1 false _ A6.out).mono ?_); rintro e w19 ⟨rfl, hb⟩; refine ⟨_, rfl, ?_⟩; have n0_ := Aside0.mk (blk_below (g := gb146) (o := .cells #[.int .u64 x147000_1, .int .u64 x147001_1, .bool x147002_1] 141 (0, 0)) (by (with_reducible repeat (first | refine blk_drewN ?_ _ | refine blk_drew ?_ | refine blk_alloc ?_ _)); exact BK146.out) hb); have n1_ := Aside0.mk (blk_below (g := gb147) (o := .cells #[.int .u64 x148000_1, .int .u64 x148001_1, .bool x148002_1] 141 (0, 0)) (by (with_reducible repeat (first | refine blk_drewN ?_ _ | refine blk_drew ?_ | refine blk_alloc ?_ _)); exact BK147.out) hb); have n2_ := Aside0.mk (blk_below (g := gb148) (o := .cells #[.int .u64 0, .int .u64 0, .bool false] 141 (0, 0)) (by (with_reducible repeat (first | refine blk_drewN ?_ _ | refine blk_drew ?_ | refine blk_alloc ?_ _)); exact BK148.out) hb); have n3_ := Aside0.mk (below_step (by repeat (first | (with_reducible first | exact HB.out | apply below_alloc | apply pw_below_drewN | apply below_drew1 | refine below_set ?_ GE146.out | refine below_set ?_ GE147.out | refine below_set ?_ GE148.out) | exact HB.out)) hb); clear BK146; clear BK147; clear BK148; clear HB; have BK146 := n0_; have BK147 := n1_; have BK148 := n2_; have HB := n3_; clear n0_ n1_ n2_ n3_; (try clear hb); (try clear hb2); (try clear hk); (try clear hi)))
        have n0_ := Aside0.mk (blk_drew BK146.out)
        have n1_ := Aside0.mk (blk_drew BK147.out)
        have n2_ := Aside0.mk (blk_drew BK148.out)
        have n3_ := Aside0.mk (below_drew1 HB.out)
        clear BK146
        clear BK147
        clear BK148
        clear HB
        have BK146 := n0_
        have BK147 := n1_
        have BK148 := n2_
        have HB := n3_
        clear n0_ n1_ n2_ n3_
        refine start_ (n := 6) (S := fun w' => w'.cell? ⟨gb147, 0, none⟩ = some (.int .u64 x148000_1) ∧ w'.cell? ⟨gb147, 1, none⟩ = some (.int .u64 x148001_1) ∧ w'.cell? ⟨gb147, 2, none⟩ = some (.bool x148002_1) ∧ w'.cell? ⟨gb146, 0, none⟩ = some (.int .u64 x147000_1) ∧ w'.cell? ⟨gb146, 1, none⟩ = some (.int .u64 x147001_1) ∧ w'.cell? ⟨gb146, 2, none⟩ = some (.bool x147002_1)) (ds := [4, 5]) #[false, false, false, false, false, false] (by kernel_rfl) rfl rfl ⟨(blk_cell BK147.out 0).trans rfl, (blk_cell BK147.out 1).trans rfl, (blk_cell BK147.out 2).trans rfl, (blk_cell BK146.out 0).trans rfl, (blk_cell BK146.out 1).trans rfl, (blk_cell BK146.out 2).trans rfl⟩ (fun hHeld => ?_)
        generalize w19.drew = w20 at BK146 BK147 BK148 HB hHeld ⊢
        refine take_ (i := 0) (N := some 8) (v := ?_) (a' := ?_) #[true, false, false, false, false, false] rfl rfl (by kernel_rfl) (fun _ _ _ h => h) (Or.inl ⟨by rfl, ?_⟩) hHeld ?_ ?_
        rotate_left
        · rintro w' ⟨s0, s1, s2, s3, s4, s5⟩
          go_simp
          with_reducible rfl
        rotate_left
        · simp only [Act.put, List.setIfInBounds_toArray, List.set_cons_zero, List.set_cons_succ, i64_w, i32_w]
          rfl
        refine take_ (i := 1) (N := some 9) (v := ?_) (a' := ?_) #[true, true, false, false, false, false] rfl rfl (by kernel_rfl) (fun _ _ _ h => h) (Or.inl ⟨by rfl, ?_⟩) hHeld ?_ ?_
        rotate_left
        · rintro w' ⟨s0, s1, s2, s3, s4, s5⟩
          go_simp
          with_reducible rfl
        rotate_left
        · simp only [Act.put, List.setIfInBounds_toArray, List.set_cons_zero, List.set_cons_succ, i64_w, i32_w]
          rfl
        refine take_ (i := 2) (N := some 10) (v := ?_) (a' := ?_) #[true, true, true, false, false, false] rfl rfl (by kernel_rfl) (fun _ _ _ h => h) (Or.inl ⟨by rfl, ?_⟩) hHeld ?_ ?_
        rotate_left
        · rintro w' ⟨s0, s1, s2, s3, s4, s5⟩
          go_simp
          with_reducible rfl
        rotate_left
        · simp only [Act.put, List.setIfInBounds_toArray, List.set_cons_zero, List.set_cons_succ, i64_w, i32_w]
          rfl
        refine one_ (i := 3) (N := some 11) #[true, true, true, true, false, false] rfl rfl (by kernel_rfl) (by decide) (fun K hK => ?_)
        refine goes_ Tryz.func135 (by kernel_rfl) rfl #[.agg #[.int .u64 x147000_1, .int .u64 x147001_1, .bool x147002_1], .agg #[.int .u64 x148000_1, .int .u64 x148001_1, .bool x148002_1]] (by rfl) rfl rfl (by (try simp only [List.map_toArray, List.map_cons, List.map_nil]); first | done | rfl | (simp only [List.length_drop, List.length_take]; rfl)) ?_
        with_reducible refine (ratio_wide_mod.calls k1 x147000_1 x147001_1 x147002_1 x148000_1 x148001_1 x148002_1 t150 t151 t152 _ A15.out).mono ?_
        rintro e w21 ⟨rfl, hb⟩
        refine ⟨_, rfl, ?_⟩
        have n0_ := Aside0.mk (blk_below (g := gb146) (o := .cells #[.int .u64 x147000_1, .int .u64 x147001_1, .bool x147002_1] 141 (0, 0)) (by (with_reducible repeat (first | refine blk_drewN ?_ _ | refine blk_drew ?_ | refine blk_alloc ?_ _)); exact BK146.out) hb)
        have n1_ := Aside0.mk (blk_below (g := gb147) (o := .cells #[.int .u64 x148000_1, .int .u64 x148001_1, .bool x148002_1] 141 (0, 0)) (by (with_reducible repeat (first | refine blk_drewN ?_ _ | refine blk_drew ?_ | refine blk_alloc ?_ _)); exact BK147.out) hb)
        have n2_ := Aside0.mk (blk_below (g := gb148) (o := .cells #[.int .u64 0, .int .u64 0, .bool false] 141 (0, 0)) (by (with_reducible repeat (first | refine blk_drewN ?_ _ | refine blk_drew ?_ | refine blk_alloc ?_ _)); exact BK148.out) hb)
        have n3_ := Aside0.mk (below_step (by repeat (first | (with_reducible first | exact HB.out | apply below_alloc | apply pw_below_drewN | apply below_drew1 | refine below_set ?_ GE146.out | refine below_set ?_ GE147.out | refine below_set ?_ GE148.out) | exact HB.out)) hb)
        clear BK146
        clear BK147
        clear BK148
        clear HB
        have BK146 := n0_
        have BK147 := n1_
        have BK148 := n2_
        have HB := n3_
        clear n0_ n1_ n2_ n3_
        (try clear hb)
        (try clear hb2)
        (try clear hk)
        (try clear hi)
        refine hK.out _ _ ⟨(blk_cell BK147.out 0).trans rfl, (blk_cell BK147.out 1).trans rfl, (blk_cell BK147.out 2).trans rfl, (blk_cell BK146.out 0).trans rfl, (blk_cell BK146.out 1).trans rfl, (blk_cell BK146.out 2).trans rfl⟩ (fun hHeld => ?_)
        clear hK K
        refine norm_ (a' := ?_) ?_ ?_
        rotate_left
        · show Act.put _ (some 11) _ = _
          simp only [Act.put, List.setIfInBounds_toArray, List.set_cons_zero, List.set_cons_succ, i64_w, i32_w]
          rfl
        refine last_ (i := 4) (N := none) #[true, true, true, true, true, false] rfl rfl (by kernel_rfl) (by decide) (fun K hK => ?_)
        have hs22 : w21.cell? ⟨gb146, 0, none⟩ = some (.int .u64 x147000_1) := (blk_cell BK146.out 0).trans rfl
        have hfs22 := blk_frozen BK146.out 0
        have hns22_1 := NB147_146.out
        have hns22_2 := NB148_146.out
        have hms22_1 := NB146_147.out
        have hms22_2 := NB146_148.out
        have hs23 : w21.cell? ⟨gb146, 1, none⟩ = some (.int .u64 x147001_1) := (blk_cell BK146.out 1).trans rfl
        have hfs23 := blk_frozen BK146.out 1
        have hns23_1 := NB147_146.out
        have hns23_2 := NB148_146.out
        have hms23_1 := NB146_147.out
        have hms23_2 := NB146_148.out
        have hs24 : w21.cell? ⟨gb146, 2, none⟩ = some (.bool x147002_1) := (blk_cell BK146.out 2).trans rfl
        have hfs24 := blk_frozen BK146.out 2
        have hns24_1 := NB147_146.out
        have hns24_2 := NB148_146.out
        have hms24_1 := NB146_147.out
        have hms24_2 := NB146_148.out
        refine skip_ (w1 := ?_) (by rfl) rfl ?_ ?_
        rotate_left
        · go_simp
          rfl
        refine hK.out _ _ ?_
        clear hK K
        refine last_ (i := 5) (N := none) #[true, true, true, true, true, true] rfl rfl (by kernel_rfl) (by decide) (fun K hK => ?_)
        have hs25 : w21.cell? ⟨gb147, 0, none⟩ = some (.int .u64 x148000_1) := (blk_cell BK147.out 0).trans rfl
        have hfs25 := blk_frozen BK147.out 0
        have hns25_0 := NB146_147.out
        have hns25_2 := NB148_147.out
        have hms25_0 := NB147_146.out
        have hms25_2 := NB147_148.out
        have hs26 : w21.cell? ⟨gb147, 1, none⟩ = some (.int .u64 x148001_1) := (blk_cell BK147.out 1).trans rfl
        have hfs26 := blk_frozen BK147.out 1
        have hns26_0 := NB146_147.out
        have hns26_2 := NB148_147.out
        have hms26_0 := NB147_146.out
        have hms26_2 := NB147_148.out
        have hs27 : w21.cell? ⟨gb147, 2, none⟩ = some (.bool x148002_1) := (blk_cell BK147.out 2).trans rfl
        have hfs27 := blk_frozen BK147.out 2
        have hns27_0 := NB146_147.out
        have hns27_2 := NB148_147.out
        have hms27_0 := NB147_146.out
        have hms27_2 := NB147_148.out
        refine skip_ (w1 := ?_) (by rfl) rfl ?_ ?_
        rotate_left
        · go_simp
          rfl
        refine hK.out _ _ ?_
        clear hK K
        refine done_ (by kernel_rfl) ?_
        try go_wp2
        go_roundg k1
        case measure => have := HK1.out; omega
        case rel => exact ⟨(x148000_1), (x148001_1), (x148002_1), (t150), (t151), (t152), H', ⟨by have := HK1.out; omega⟩, ⟨by (with_reducible repeat (first | refine blk_drewN ?_ _ | refine blk_drew ?_ | refine blk_alloc ?_ _)); refine blk_far ?_ NB146_147.out _; (with_reducible repeat (first | refine blk_drewN ?_ _ | refine blk_drew ?_ | refine blk_alloc ?_ _)); refine blk_far ?_ NB146_147.out _; (with_reducible repeat (first | refine blk_drewN ?_ _ | refine blk_drew ?_ | refine blk_alloc ?_ _)); refine blk_far ?_ NB146_147.out _; (with_reducible repeat (first | refine blk_drewN ?_ _ | refine blk_drew ?_ | refine blk_alloc ?_ _)); refine blk_put (cs := #[.int .u64 x148000_1, .int .u64 x148001_1, .bool x147002_1]) ?_ 2 _ rfl; (with_reducible repeat (first | refine blk_drewN ?_ _ | refine blk_drew ?_ | refine blk_alloc ?_ _)); refine blk_put (cs := #[.int .u64 x148000_1, .int .u64 x147001_1, .bool x147002_1]) ?_ 1 _ rfl; (with_reducible repeat (first | refine blk_drewN ?_ _ | refine blk_drew ?_ | refine blk_alloc ?_ _)); refine blk_put (cs := #[.int .u64 x147000_1, .int .u64 x147001_1, .bool x147002_1]) ?_ 0 _ rfl; (with_reducible repeat (first | refine blk_drewN ?_ _ | refine blk_drew ?_ | refine blk_alloc ?_ _)); exact BK146.out⟩, ⟨by (with_reducible repeat (first | refine blk_drewN ?_ _ | refine blk_drew ?_ | refine blk_alloc ?_ _)); refine blk_put (cs := #[.int .u64 t150, .int .u64 t151, .bool x148002_1]) ?_ 2 _ rfl; (with_reducible repeat (first | refine blk_drewN ?_ _ | refine blk_drew ?_ | refine blk_alloc ?_ _)); refine blk_put (cs := #[.int .u64 t150, .int .u64 x148001_1, .bool x148002_1]) ?_ 1 _ rfl; (with_reducible repeat (first | refine blk_drewN ?_ _ | refine blk_drew ?_ | refine blk_alloc ?_ _)); refine blk_put (cs := #[.int .u64 x148000_1, .int .u64 x148001_1, .bool x148002_1]) ?_ 0 _ rfl; (with_reducible repeat (first | refine blk_drewN ?_ _ | refine blk_drew ?_ | refine blk_alloc ?_ _)); refine blk_far ?_ NB147_146.out _; (with_reducible repeat (first | refine blk_drewN ?_ _ | refine blk_drew ?_ | refine blk_alloc ?_ _)); refine blk_far ?_ NB147_146.out _; (with_reducible repeat (first | refine blk_drewN ?_ _ | refine blk_drew ?_ | refine blk_alloc ?_ _)); refine blk_far ?_ NB147_146.out _; (with_reducible repeat (first | refine blk_drewN ?_ _ | refine blk_drew ?_ | refine blk_alloc ?_ _)); exact BK147.out⟩, ⟨by (with_reducible repeat (first | refine blk_drewN ?_ _ | refine blk_drew ?_ | refine blk_alloc ?_ _)); refine blk_far ?_ NB148_147.out _; (with_reducible repeat (first | refine blk_drewN ?_ _ | refine blk_drew ?_ | refine blk_alloc ?_ _)); refine blk_far ?_ NB148_147.out _; (with_reducible repeat (first | refine blk_drewN ?_ _ | refine blk_drew ?_ | refine blk_alloc ?_ _)); refine blk_far ?_ NB148_147.out _; (with_reducible repeat (first | refine blk_drewN ?_ _ | refine blk_drew ?_ | refine blk_alloc ?_ _)); refine blk_far ?_ NB148_146.out _; (with_reducible repeat (first | refine blk_drewN ?_ _ | refine blk_drew ?_ | refine blk_alloc ?_ _)); refine blk_far ?_ NB148_146.out _; (with_reducible repeat (first | refine blk_drewN ?_ _ | refine blk_drew ?_ | refine blk_alloc ?_ _)); refine blk_far ?_ NB148_146.out _; (with_reducible repeat (first | refine blk_drewN ?_ _ | refine blk_drew ?_ | refine blk_alloc ?_ _)); exact BK148.out⟩, ⟨by repeat (first | (with_reducible first | exact HB.out | apply below_alloc | apply pw_below_drewN | apply below_drew1 | refine below_set ?_ GE146.out | refine below_set ?_ GE147.out | refine below_set ?_ GE148.out) | exact HB.out)⟩⟩

/-! ### ratio_wide_by: function 124 -/
mutual
def ratio_wide_by.j0 : Nat → Bool → Int → Int → Bool → Int → Int → Bool → Option (Int × Bool)
  | 0, _, _, _, _, _, _, _ => none
  | k + 1, x24, x154000, x154001, x154002, x155000, x155001, x155002 => if x24 = true then ((bits_Div64.f k x154000 x154001 x155001).bind fun bt155 => (some (bt155.1, true))) else (if x155000 = 0 then (some (0, false)) else ((ratio_wide_length.f x154000 x154001 x154002).bind fun t157 => ((ratio_wide_length.f x155000 x155001 x155002).bind fun t158 => (ratio_wide_by.l0 k 0 (wrap64 (t157 - t158)) x154000 x154001 x154002 x155000 x155001 x155002))))
def ratio_wide_by.l0 : Nat → Int → Int → Int → Int → Bool → Int → Int → Bool → Option (Int × Bool)
  | 0, _, _, _, _, _, _, _, _ => none
  | k + 1, x8, x9, x154000, x154001, x154002, x155000, x155001, x155002 => if x9 ≥ 0 then ((ratio_wide_up.f k x155000 x155001 x155002 x9).bind fun bt159 => ((ratio_wide_less.f x154000 x154001 x154002 bt159.1 bt159.2.1 bt159.2.2).bind fun t163 => (if t163 = true then (ratio_wide_by.l0 k x8 (wrap64 (x9 - 1)) x154000 x154001 x154002 x155000 x155001 x155002) else ((bits_Sub64.f x154001 bt159.2.1 0).bind fun bt164 => ((bits_Sub64.f x154000 bt159.1 bt164.2).bind fun bt166 => (if 0 ≤ (IntKind.u64.wrap (x9)) then (ratio_wide_by.l0 k (Go.bits .or .u64 x8 (shl .u64 1 (IntKind.u64.wrap (x9)))) (wrap64 (x9 - 1)) bt166.1 bt164.1 x154002 x155000 x155001 x155002) else (none))))))) else (some (x8, true))
end
def ratio_wide_by.f (k : Nat) (a0_0 : Int) (a0_1 : Int) (a0_2 : Bool) (a1_0 : Int) (a1_1 : Int) (a1_2 : Bool) : Option (Int × Bool) := if a1_0 = 0 then (ratio_wide_by.j0 k (decide (a0_0 < a1_1)) a0_0 a0_1 a0_2 a1_0 a1_1 a1_2) else (ratio_wide_by.j0 k false a0_0 a0_1 a0_2 a1_0 a1_1 a1_2)
set_option maxHeartbeats 8000000 in
set_option maxRecDepth 100000 in
theorem ratio_wide_by.calls (k : Nat) (a0_0 : Int) (a0_1 : Int) (a0_2 : Bool) (a1_0 : Int) (a1_1 : Int) (a1_2 : Bool) (r1 : Int) (r2 : Bool) (w : World) (h : ratio_wide_by.f k a0_0 a0_1 a0_2 a1_0 a1_1 a1_2 = some (r1, r2)) :
    Calls Tryz.prog 124 #[.agg #[.int .u64 a0_0, .int .u64 a0_1, .bool a0_2], .agg #[.int .u64 a1_0, .int .u64 a1_1, .bool a1_2]] w fun e w' => e = .returned (.tuple #[.int .u64 r1, .bool r2]) ∧ Below w.heap.size w w' := by
  have hu141 := Tryz.underlying141
  have HB := Aside0.mk (Below.refl w.heap.size w)
  have H : (if a1_0 = 0 then (ratio_wide_by.j0 k (decide (a0_0 < a1_1)) a0_0 a0_1 a0_2 a1_0 a1_1 a1_2) else (ratio_wide_by.j0 k false a0_0 a0_1 a0_2 a1_0 a1_1 a1_2)) = some (r1, r2) := h
  clear h
  have HC3 := Aside0.mk H
  clear H
  go_enter Tryz.func124, Tryz.ntmps124
  go_upto_region 1 with (first | ((with_reducible refine gate_dst (N := 2) rfl ?_); refine box_event ?hg (N := 2) ?hd (cs := #[.int .u64 a0_0, .int .u64 a0_1, .bool a0_2]) (t := 141) ?hr ?_; (case hd => rfl); (case hg => rfl); (case hr => first | (go_simp; done) | (go_simp; rfl)); intro gb153 hg w4 hbox hb; have n0_ := Aside0.mk (below_step (by repeat (first | (with_reducible first | exact HB.out | apply below_alloc | apply pw_below_drewN | apply below_drew1) | exact HB.out)) hb); have n1_ := Aside0.mk (hbox); have n2_ := Aside0.mk ((by rw [hg]; exact (below_size (by repeat (first | (with_reducible first | exact HB.out | apply below_alloc | apply pw_below_drewN | apply below_drew1) | exact HB.out))) : w.heap.size ≤ gb153)); have n3_ := Aside0.mk ((by rw [hg]; exact (below_size (by repeat (first | (with_reducible first | exact HB.out | apply below_alloc | apply pw_below_drewN | apply below_drew1) | exact HB.out))) : w.heap.size ≤ gb153)); clear HB; have HB := n0_; have BK153 := n1_; have GW153 := n2_; have GE153 := n3_; clear n0_ n1_ n2_ n3_; clear hb hbox hg) | ((with_reducible refine gate_dst (N := 3) rfl ?_); refine box_event ?hg (N := 3) ?hd (cs := #[.int .u64 a1_0, .int .u64 a1_1, .bool a1_2]) (t := 141) ?hr ?_; (case hd => rfl); (case hg => rfl); (case hr => first | (go_simp; done) | (go_simp; rfl)); intro gb154 hg w5 hbox hb; have n0_ := Aside0.mk (blk_below (g := gb153) (o := .cells #[.int .u64 a0_0, .int .u64 a0_1, .bool a0_2] 141 (0, 0)) (by (with_reducible repeat (first | refine blk_drewN ?_ _ | refine blk_drew ?_ | refine blk_alloc ?_ _)); exact BK153.out) hb); have n1_ := Aside0.mk (below_step (by repeat (first | (with_reducible first | exact HB.out | apply below_alloc | apply pw_below_drewN | apply below_drew1 | refine below_set ?_ GE153.out) | exact HB.out)) hb); have n2_ := Aside0.mk (hbox); have n3_ := Aside0.mk ((by rw [hg]; exact (below_size (by repeat (first | (with_reducible first | exact HB.out | apply below_alloc | apply pw_below_drewN | apply below_drew1 | refine below_set ?_ GE153.out) | exact HB.out))) : w.heap.size ≤ gb154)); have n4_ := Aside0.mk ((by rw [hg]; exact (below_size (by repeat (first | (with_reducible first | exact HB.out | apply below_alloc | apply pw_below_drewN | apply below_drew1 | refine below_set ?_ GE153.out) | exact HB.out))) : w.heap.size ≤ gb154)); have n5_ := Aside0.mk ((by rw [hg]; exact Nat.ne_of_lt (blk_lt (g := gb153) (o := .cells #[.int .u64 a0_0, .int .u64 a0_1, .bool a0_2] 141 (0, 0)) (by (with_reducible repeat (first | refine blk_drewN ?_ _ | refine blk_drew ?_ | refine blk_alloc ?_ _)); exact BK153.out)) : gb153 ≠ gb154)); have n6_ := Aside0.mk ((by rw [hg]; exact Nat.ne_of_gt (blk_lt (g := gb153) (o := .cells #[.int .u64 a0_0, .int .u64 a0_1, .bool a0_2] 141 (0, 0)) (by (with_reducible repeat (first | refine blk_drewN ?_ _ | refine blk_drew ?_ | refine blk_alloc ?_ _)); exact BK153.out)) : gb154 ≠ gb153)); clear BK153; clear HB; have BK153 := n0_; have HB := n1_; have BK154 := n2_; have GW154 := n3_; have GE154 := n4_; have NB153_154 := n5_; have NB154_153 := n6_; clear n0_ n1_ n2_ n3_ n4_ n5_ n6_; clear hb hbox hg))
  (try simp only [Act.put, List.setIfInBounds_toArray, List.set_cons_zero, List.set_cons_succ])
  go_cut [24] (fun v24 wc => ∃ (kq : Nat) (x24_2 : Bool), v24 = .bool x24_2 ∧ Aside0 (ratio_wide_by.j0 kq x24_2 a0_0 a0_1 a0_2 a1_0 a1_1 a1_2 = some (r1, r2)) ∧ Aside0 (kq ≤ k) ∧ Aside0 (wc.heap[gb153]? = some (.cells #[.int .u64 a0_0, .int .u64 a0_1, .bool a0_2] 141 (0, 0))) ∧ Aside0 (wc.heap[gb154]? = some (.cells #[.int .u64 a1_0, .int .u64 a1_1, .bool a1_2] 141 (0, 0))) ∧ Aside0 (Below w.heap.size w wc))
  case first =>
    have H := HC3.out
    clear HC3
    by_cases c6 : a1_0 = 0
    · rw [if_pos c6] at H
      have c6b0 : (a1_0 == 0) = true := beq_iff_eq.mpr c6
      have c6b1 : (a1_0 != 0) = false := bne_eq_false_iff_eq.mpr c6
      clear c6
      (first | rw [c6b0] | (simp only [i64_w, i32_w]; rw [c6b0]) | skip)
      have H' := Aside0.mk H
      clear H
      have hnb7 := NB154_153.out
      have hnc7 := NB153_154.out
      have hcz8_0 : w5.cell? ⟨gb154, 0, none⟩ = some (.int .u64 a1_0) := (blk_cell BK154.out 0).trans rfl
      have hcz8_1 : w5.cell? ⟨gb154, 1, none⟩ = some (.int .u64 a1_1) := (blk_cell BK154.out 1).trans rfl
      have hcz8_2 : w5.cell? ⟨gb154, 2, none⟩ = some (.bool a1_2) := (blk_cell BK154.out 2).trans rfl
      have hfz8_0 := blk_frozen BK154.out 0
      have hfz8_1 := blk_frozen BK154.out 1
      have hfz8_2 := blk_frozen BK154.out 2
      have hcz9_0 : w5.cell? ⟨gb153, 0, none⟩ = some (.int .u64 a0_0) := (blk_cell BK153.out 0).trans rfl
      have hcz9_1 : w5.cell? ⟨gb153, 1, none⟩ = some (.int .u64 a0_1) := (blk_cell BK153.out 1).trans rfl
      have hcz9_2 : w5.cell? ⟨gb153, 2, none⟩ = some (.bool a0_2) := (blk_cell BK153.out 2).trans rfl
      have hfz9_0 := blk_frozen BK153.out 0
      have hfz9_1 := blk_frozen BK153.out 1
      have hfz9_2 := blk_frozen BK153.out 2
      go_wp2
      go_meet
      case rel => exact ⟨_, (decide (a0_0 < a1_1)), (by first | rfl | (simp; done) | (simp [*]; done)), H', ⟨by first | omega | exact Nat.le_refl _⟩, ⟨by (with_reducible repeat (first | refine blk_drewN ?_ _ | refine blk_drew ?_ | refine blk_alloc ?_ _)); exact BK153.out⟩, ⟨by (with_reducible repeat (first | refine blk_drewN ?_ _ | refine blk_drew ?_ | refine blk_alloc ?_ _)); exact BK154.out⟩, ⟨by repeat (first | (with_reducible first | exact HB.out | apply below_alloc | apply pw_below_drewN | apply below_drew1 | refine below_set ?_ GE153.out | refine below_set ?_ GE154.out) | exact HB.out)⟩⟩
    · rw [if_neg c6] at H
      have c6b0 : (a1_0 == 0) = false := beq_eq_false_iff_ne.mpr c6
      have c6b1 : (a1_0 != 0) = true := bne_iff_ne.mpr c6
      (first | rw [c6b0] | (simp only [i64_w, i32_w]; rw [c6b0]) | skip)
      have H' := Aside0.mk H
      clear H
      have hnb10 := NB154_153.out
      have hnc10 := NB153_154.out
      have hcz11_0 : w5.cell? ⟨gb154, 0, none⟩ = some (.int .u64 a1_0) := (blk_cell BK154.out 0).trans rfl
      have hcz11_1 : w5.cell? ⟨gb154, 1, none⟩ = some (.int .u64 a1_1) := (blk_cell BK154.out 1).trans rfl
      have hcz11_2 : w5.cell? ⟨gb154, 2, none⟩ = some (.bool a1_2) := (blk_cell BK154.out 2).trans rfl
      have hfz11_0 := blk_frozen BK154.out 0
      have hfz11_1 := blk_frozen BK154.out 1
      have hfz11_2 := blk_frozen BK154.out 2
      go_wp2
      go_meet
      case rel => exact ⟨_, (false), (by first | rfl | (simp; done) | (simp [*]; done)), H', ⟨by first | omega | exact Nat.le_refl _⟩, ⟨by (with_reducible repeat (first | refine blk_drewN ?_ _ | refine blk_drew ?_ | refine blk_alloc ?_ _)); exact BK153.out⟩, ⟨by (with_reducible repeat (first | refine blk_drewN ?_ _ | refine blk_drew ?_ | refine blk_alloc ?_ _)); exact BK154.out⟩, ⟨by repeat (first | (with_reducible first | exact HB.out | apply below_alloc | apply pw_below_drewN | apply below_drew1 | refine below_set ?_ GE153.out | refine below_set ?_ GE154.out) | exact HB.out)⟩⟩
  case rest =>
    clear HC3
    try clear c1
    try clear p2
    try clear c6
    try clear c6b0
    try clear c6b1
    try clear c7
    try clear c10
    try clear hcz11_0
    try clear hcz11_1
    try clear hcz11_2
    try clear hcz8_0
    try clear hcz8_1
    try clear hcz8_2
    try clear hcz9_0
    try clear hcz9_1
    try clear hcz9_2
    try clear hfz11_0
    try clear hfz11_1
    try clear hfz11_2
    try clear hfz8_0
    try clear hfz8_1
    try clear hfz8_2
    try clear hfz9_0
    try clear hfz9_1
    try clear hfz9_2
    obtain ⟨kq, x24_2, rfl, HA, HJ2, BK153, BK154, HB⟩ := hcut
    cases kq with
    | zero => exact absurd HA.out (by simp [ratio_wide_by.j0])
    | succ kj2 =>
      have H := HA.out
      clear HA
      simp only [ratio_wide_by.j0] at H
      by_cases c12 : x24_2 = true
      · subst c12
        have H1 : ((bits_Div64.f kj2 a0_0 a0_1 a1_1).bind fun bt155 => (some (bt155.1, true))) = some (r1, r2) := by rw [if_pos rfl] at H; exact H
        clear H
        have H := H1
        clear H1
        replace H := Option.bind_eq_some_iff.mp H
        obtain ⟨⟨t155, t156⟩, A130, H⟩ := H
        replace H : (some (t155, true)) = some (r1, r2) := H
        have A13 := Aside0.mk A130
        clear A130
        simp only [Option.some.injEq, Prod.mk.injEq] at H
        obtain ⟨rfl, rfl⟩ := H
        have hnb14 := NB153_154.out
        have hnc14 := NB154_153.out
        have hcz15_0 : wc.cell? ⟨gb153, 0, none⟩ = some (.int .u64 a0_0) := (blk_cell BK153.out 0).trans rfl
        have hcz15_1 : wc.cell? ⟨gb153, 1, none⟩ = some (.int .u64 a0_1) := (blk_cell BK153.out 1).trans rfl
        have hcz15_2 : wc.cell? ⟨gb153, 2, none⟩ = some (.bool a0_2) := (blk_cell BK153.out 2).trans rfl
        have hfz15_0 := blk_frozen BK153.out 0
        have hfz15_1 := blk_frozen BK153.out 1
        have hfz15_2 := blk_frozen BK153.out 2
        have hcz16_0 : wc.cell? ⟨gb154, 0, none⟩ = some (.int .u64 a1_0) := (blk_cell BK154.out 0).trans rfl
        have hcz16_1 : wc.cell? ⟨gb154, 1, none⟩ = some (.int .u64 a1_1) := (blk_cell BK154.out 1).trans rfl
        have hcz16_2 : wc.cell? ⟨gb154, 2, none⟩ = some (.bool a1_2) := (blk_cell BK154.out 2).trans rfl
        have hfz16_0 := blk_frozen BK154.out 0
        have hfz16_1 := blk_frozen BK154.out 1
        have hfz16_2 := blk_frozen BK154.out 2
        go_wp2_with (first | ((with_reducible refine gate_callee (f := 136) rfl ?_); refine goesL_ (some 32) rfl rfl Tryz.func136 (by kernel_rfl) rfl #[.int .u64 a0_0, .int .u64 a0_1, .int .u64 a1_1] rfl (by (try simp only [List.map_toArray, List.map_cons, List.map_nil]); first | done | rfl | (simp only [List.length_drop, List.length_take]; rfl)) ?_; (with_reducible refine (bits_Div64.calls kj2 a0_0 a0_1 a1_1 t155 t156 _ A13.out).mono ?_); rintro e w' ⟨rfl, ⟨nd, rfl⟩⟩; refine ⟨_, rfl, ?_⟩))
        go_ret2
        exact ⟨by first | rfl | (simp [errW_none, errW_some] <;> rfl) | (simp [*, errW_none, errW_some] <;> rfl), by repeat (first | (with_reducible first | exact HB.out | apply below_alloc | apply pw_below_drewN | apply below_drew1 | refine below_set ?_ GE153.out | refine below_set ?_ GE154.out) | exact HB.out)⟩
      · replace c12 := Bool.eq_false_iff.mpr c12
        subst c12
        have H1 : (if a1_0 = 0 then (some (0, false)) else ((ratio_wide_length.f a0_0 a0_1 a0_2).bind fun t157 => ((ratio_wide_length.f a1_0 a1_1 a1_2).bind fun t158 => (ratio_wide_by.l0 kj2 0 (wrap64 (t157 - t158)) a0_0 a0_1 a0_2 a1_0 a1_1 a1_2)))) = some (r1, r2) := by rw [if_neg (show ¬ (false = true) by decide)] at H; exact H
        clear H
        have H := H1
        clear H1
        by_cases c17 : a1_0 = 0
        · rw [if_pos c17] at H
          have c17b0 : (a1_0 == 0) = true := beq_iff_eq.mpr c17
          have c17b1 : (a1_0 != 0) = false := bne_eq_false_iff_eq.mpr c17
          clear c17
          simp only [Option.some.injEq, Prod.mk.injEq] at H
          obtain ⟨rfl, rfl⟩ := H
          have hnb18 := NB154_153.out
          have hnc18 := NB153_154.out
          have hcz19_0 : wc.cell? ⟨gb154, 0, none⟩ = some (.int .u64 a1_0) := (blk_cell BK154.out 0).trans rfl
          have hcz19_1 : wc.cell? ⟨gb154, 1, none⟩ = some (.int .u64 a1_1) := (blk_cell BK154.out 1).trans rfl
          have hcz19_2 : wc.cell? ⟨gb154, 2, none⟩ = some (.bool a1_2) := (blk_cell BK154.out 2).trans rfl
          have hfz19_0 := blk_frozen BK154.out 0
          have hfz19_1 := blk_frozen BK154.out 1
          have hfz19_2 := blk_frozen BK154.out 2
          go_wp2
          go_ret2
          exact ⟨by first | rfl | (simp [errW_none, errW_some] <;> rfl) | (simp [*, errW_none, errW_some] <;> rfl), by repeat (first | (with_reducible first | exact HB.out | apply below_alloc | apply pw_below_drewN | apply below_drew1 | refine below_set ?_ GE153.out | refine below_set ?_ GE154.out) | exact HB.out)⟩
        · rw [if_neg c17] at H
          have c17b0 : (a1_0 == 0) = false := beq_eq_false_iff_ne.mpr c17
          have c17b1 : (a1_0 != 0) = true := bne_iff_ne.mpr c17
          replace H := Option.bind_eq_some_iff.mp H
          obtain ⟨t157, A200, H⟩ := H
          replace H : ((ratio_wide_length.f a1_0 a1_1 a1_2).bind fun t158 => (ratio_wide_by.l0 kj2 0 (wrap64 (t157 - t158)) a0_0 a0_1 a0_2 a1_0 a1_1 a1_2)) = some (r1, r2) := H
          have A20 := Aside0.mk A200
          clear A200
          replace H := Option.bind_eq_some_iff.mp H
          obtain ⟨t158, A210, H⟩ := H
          replace H : (ratio_wide_by.l0 kj2 0 (wrap64 (t157 - t158)) a0_0 a0_1 a0_2 a1_0 a1_1 a1_2) = some (r1, r2) := H
          have A21 := Aside0.mk A210
          clear A210
          have H' := Aside0.mk H
          clear H
          have hnb22 := NB154_153.out
          have hnc22 := NB153_154.out
          have hcz23_0 : wc.cell? ⟨gb154, 0, none⟩ = some (.int .u64 a1_0) := (blk_cell BK154.out 0).trans rfl
          have hcz23_1 : wc.cell? ⟨gb154, 1, none⟩ = some (.int .u64 a1_1) := (blk_cell BK154.out 1).trans rfl
          have hcz23_2 : wc.cell? ⟨gb154, 2, none⟩ = some (.bool a1_2) := (blk_cell BK154.out 2).trans rfl
          have hfz23_0 := blk_frozen BK154.out 0
          have hfz23_1 := blk_frozen BK154.out 1
          have hfz23_2 := blk_frozen BK154.out 2
          try go_wp2
          have n0_ := Aside0.mk (blk_drew BK153.out)
          have n1_ := Aside0.mk (blk_drew BK154.out)
          have n2_ := Aside0.mk (below_drew1 HB.out)
          clear BK153
          clear BK154
          clear HB
          have BK153 := n0_
          have BK154 := n1_
          have HB := n2_
          clear n0_ n1_ n2_
          refine start_ (n := 6) (S := fun w' => w'.cell? ⟨gb153, 0, none⟩ = some (.int .u64 a0_0) ∧ w'.cell? ⟨gb153, 1, none⟩ = some (.int .u64 a0_1) ∧ w'.cell? ⟨gb153, 2, none⟩ = some (.bool a0_2) ∧ w'.cell? ⟨gb154, 0, none⟩ = some (.int .u64 a1_0) ∧ w'.cell? ⟨gb154, 1, none⟩ = some (.int .u64 a1_1) ∧ w'.cell? ⟨gb154, 2, none⟩ = some (.bool a1_2)) (ds := []) #[false, false, false, false, false, false] (by kernel_rfl) rfl rfl ⟨(blk_cell BK153.out 0).trans rfl, (blk_cell BK153.out 1).trans rfl, (blk_cell BK153.out 2).trans rfl, (blk_cell BK154.out 0).trans rfl, (blk_cell BK154.out 1).trans rfl, (blk_cell BK154.out 2).trans rfl⟩ (fun hHeld => ?_)
          generalize wc.drew = w24 at BK153 BK154 HB hHeld ⊢
          refine take_ (i := 0) (N := some 39) (v := ?_) (a' := ?_) #[true, false, false, false, false, false] rfl rfl (by kernel_rfl) (fun _ _ _ h => h) (Or.inl ⟨by rfl, ?_⟩) hHeld ?_ ?_
          rotate_left
          · rintro w' ⟨s0, s1, s2, s3, s4, s5⟩
            go_simp
            with_reducible rfl
          rotate_left
          · simp only [Act.put, List.setIfInBounds_toArray, List.set_cons_zero, List.set_cons_succ, i64_w, i32_w]
            rfl
          refine take_ (i := 2) (N := some 41) (v := ?_) (a' := ?_) #[true, false, true, false, false, false] rfl rfl (by kernel_rfl) (fun _ _ _ h => h) (Or.inl ⟨by rfl, ?_⟩) hHeld ?_ ?_
          rotate_left
          · rintro w' ⟨s0, s1, s2, s3, s4, s5⟩
            go_simp
            with_reducible rfl
          rotate_left
          · simp only [Act.put, List.setIfInBounds_toArray, List.set_cons_zero, List.set_cons_succ, i64_w, i32_w]
            rfl
          refine one_ (i := 1) (N := some 40) #[true, true, true, false, false, false] rfl rfl (by kernel_rfl) (by decide) (fun K hK => ?_)
          refine goes_ Tryz.func137 (by kernel_rfl) rfl #[.agg #[.int .u64 a0_0, .int .u64 a0_1, .bool a0_2]] (by rfl) rfl rfl (by (try simp only [List.map_toArray, List.map_cons, List.map_nil]); first | done | rfl | (simp only [List.length_drop, List.length_take]; rfl)) ?_
          with_reducible refine (ratio_wide_length.calls a0_0 a0_1 a0_2 t157 _ A20.out).mono ?_
          rintro e w25 ⟨rfl, hb⟩
          refine ⟨_, rfl, ?_⟩
          have n0_ := Aside0.mk (blk_below (g := gb153) (o := .cells #[.int .u64 a0_0, .int .u64 a0_1, .bool a0_2] 141 (0, 0)) (by (with_reducible repeat (first | refine blk_drewN ?_ _ | refine blk_drew ?_ | refine blk_alloc ?_ _)); exact BK153.out) hb)
          have n1_ := Aside0.mk (blk_below (g := gb154) (o := .cells #[.int .u64 a1_0, .int .u64 a1_1, .bool a1_2] 141 (0, 0)) (by (with_reducible repeat (first | refine blk_drewN ?_ _ | refine blk_drew ?_ | refine blk_alloc ?_ _)); exact BK154.out) hb)
          have n2_ := Aside0.mk (below_step (by repeat (first | (with_reducible first | exact HB.out | apply below_alloc | apply pw_below_drewN | apply below_drew1 | refine below_set ?_ GE153.out | refine below_set ?_ GE154.out) | exact HB.out)) hb)
          clear BK153
          clear BK154
          clear HB
          have BK153 := n0_
          have BK154 := n1_
          have HB := n2_
          clear n0_ n1_ n2_
          (try clear hb)
          (try clear hb2)
          (try clear hk)
          (try clear hi)
          refine hK.out _ _ ⟨(blk_cell BK153.out 0).trans rfl, (blk_cell BK153.out 1).trans rfl, (blk_cell BK153.out 2).trans rfl, (blk_cell BK154.out 0).trans rfl, (blk_cell BK154.out 1).trans rfl, (blk_cell BK154.out 2).trans rfl⟩ (fun hHeld => ?_)
          clear hK K
          refine norm_ (a' := ?_) ?_ ?_
          rotate_left
          · show Act.put _ (some 40) _ = _
            simp only [Act.put, List.setIfInBounds_toArray, List.set_cons_zero, List.set_cons_succ, i64_w, i32_w]
            rfl
          refine one_ (i := 3) (N := some 42) #[true, true, true, true, false, false] rfl rfl (by kernel_rfl) (by decide) (fun K hK => ?_)
          refine goes_ Tryz.func137 (by kernel_rfl) rfl #[.agg #[.int .u64 a1_0, .int .u64 a1_1, .bool a1_2]] (by rfl) rfl rfl (by (try simp only [List.map_toArray, List.map_cons, List.map_nil]); first | done | rfl | (simp only [List.length_drop, List.length_take]; rfl)) ?_
          with_reducible refine (ratio_wide_length.calls a1_0 a1_1 a1_2 t158 _ A21.out).mono ?_
          rintro e w26 ⟨rfl, hb⟩
          refine ⟨_, rfl, ?_⟩
          have n0_ := Aside0.mk (blk_below (g := gb153) (o := .cells #[.int .u64 a0_0, .int .u64 a0_1, .bool a0_2] 141 (0, 0)) (by (with_reducible repeat (first | refine blk_drewN ?_ _ | refine blk_drew ?_ | refine blk_alloc ?_ _)); exact BK153.out) hb)
          have n1_ := Aside0.mk (blk_below (g := gb154) (o := .cells #[.int .u64 a1_0, .int .u64 a1_1, .bool a1_2] 141 (0, 0)) (by (with_reducible repeat (first | refine blk_drewN ?_ _ | refine blk_drew ?_ | refine blk_alloc ?_ _)); exact BK154.out) hb)
          have n2_ := Aside0.mk (below_step (by repeat (first | (with_reducible first | exact HB.out | apply below_alloc | apply pw_below_drewN | apply below_drew1 | refine below_set ?_ GE153.out | refine below_set ?_ GE154.out) | exact HB.out)) hb)
          clear BK153
          clear BK154
          clear HB
          have BK153 := n0_
          have BK154 := n1_
          have HB := n2_
          clear n0_ n1_ n2_
          (try clear hb)
          (try clear hb2)
          (try clear hk)
          (try clear hi)
          refine hK.out _ _ ⟨(blk_cell BK153.out 0).trans rfl, (blk_cell BK153.out 1).trans rfl, (blk_cell BK153.out 2).trans rfl, (blk_cell BK154.out 0).trans rfl, (blk_cell BK154.out 1).trans rfl, (blk_cell BK154.out 2).trans rfl⟩ (fun hHeld => ?_)
          clear hK K
          refine norm_ (a' := ?_) ?_ ?_
          rotate_left
          · show Act.put _ (some 42) _ = _
            simp only [Act.put, List.setIfInBounds_toArray, List.set_cons_zero, List.set_cons_succ, i64_w, i32_w]
            rfl
          refine pure_ (i := 4) (N := some 43) (v := ?_) (a' := ?_) #[true, true, true, true, true, false] rfl rfl (by kernel_rfl) (fun _ _ _ h => h) (Or.inl ⟨by rfl, ?_⟩) ?_ ?_
          rotate_left
          · intro w'
            go_simp
            with_reducible rfl
          rotate_left
          · simp only [Act.put, List.setIfInBounds_toArray, List.set_cons_zero, List.set_cons_succ, i64_w, i32_w]
            rfl
          refine pure_ (i := 5) (N := some 9) (v := ?_) (a' := ?_) #[true, true, true, true, true, true] rfl rfl (by kernel_rfl) (fun _ _ _ h => h) (Or.inl ⟨by rfl, ?_⟩) ?_ ?_
          rotate_left
          · intro w'
            go_simp
            with_reducible rfl
          rotate_left
          · simp only [Act.put, List.setIfInBounds_toArray, List.set_cons_zero, List.set_cons_succ, i64_w, i32_w]
            rfl
          refine done_ (by kernel_rfl) ?_
          try go_wp2
          go_loopg [8, 9] kj2 (fun kq v8 v9 w' => ∃ (x8_2 : Int) (x9_2 : Int) (x154000_2 : Int) (x154001_2 : Int), v8 = .int .u64 x8_2 ∧ v9 = .int .i64 x9_2 ∧ Aside0 (ratio_wide_by.l0 kq x8_2 x9_2 x154000_2 x154001_2 a0_2 a1_0 a1_1 a1_2 = some (r1, r2)) ∧ Aside0 (kq ≤ kj2) ∧ Aside0 (w'.heap[gb153]? = some (.cells #[.int .u64 x154000_2, .int .u64 x154001_2, .bool a0_2] 141 (0, 0))) ∧ Aside0 (w'.heap[gb154]? = some (.cells #[.int .u64 a1_0, .int .u64 a1_1, .bool a1_2] 141 (0, 0))) ∧ Aside0 (Below w.heap.size w w'))
          case atStart => exact ⟨(0), (wrap64 (t157 - t158)), (a0_0), (a0_1), (by first | rfl | (simp; done) | (simp [*]; done)), (by first | rfl | (simp; done) | (simp [*]; done)), H', ⟨Nat.le_refl _⟩, ⟨by (with_reducible repeat (first | refine blk_drewN ?_ _ | refine blk_drew ?_ | refine blk_alloc ?_ _)); exact BK153.out⟩, ⟨by (with_reducible repeat (first | refine blk_drewN ?_ _ | refine blk_drew ?_ | refine blk_alloc ?_ _)); exact BK154.out⟩, ⟨by repeat (first | (with_reducible first | exact HB.out | apply below_alloc | apply pw_below_drewN | apply below_drew1 | refine below_set ?_ GE153.out | refine below_set ?_ GE154.out) | exact HB.out)⟩⟩
          case round =>
            clear H'
            try clear c1
            try clear c2
            try clear p2
            try clear c6
            try clear c6b0
            try clear c6b1
            try clear p6
            try clear c7
            try clear c10
            try clear c12
            try clear c13
            try clear c14
            try clear c17
            try clear c17b0
            try clear c17b1
            try clear c18
            try clear c22
            try clear hcz11_0
            try clear hcz11_1
            try clear hcz11_2
            try clear hcz15_0
            try clear hcz15_1
            try clear hcz15_2
            try clear hcz16_0
            try clear hcz16_1
            try clear hcz16_2
            try clear hcz19_0
            try clear hcz19_1
            try clear hcz19_2
            try clear hcz23_0
            try clear hcz23_1
            try clear hcz23_2
            try clear hcz8_0
            try clear hcz8_1
            try clear hcz8_2
            try clear hcz9_0
            try clear hcz9_1
            try clear hcz9_2
            try clear hfz11_0
            try clear hfz11_1
            try clear hfz11_2
            try clear hfz15_0
            try clear hfz15_1
            try clear hfz15_2
            try clear hfz16_0
            try clear hfz16_1
            try clear hfz16_2
            try clear hfz19_0
            try clear hfz19_1
            try clear hfz19_2
            try clear hfz23_0
            try clear hfz23_1
            try clear hfz23_2
            try clear hfz8_0
            try clear hfz8_1
            try clear hfz8_2
            try clear hfz9_0
            try clear hfz9_1
            try clear hfz9_2
            try clear p2
            obtain ⟨x8_2, x9_2, x154000_2, x154001_2, rfl, rfl, HA, HK2, BK153, BK154, HB⟩ := hrel
            cases gk with
            | zero => exact absurd HA.out (by simp [ratio_wide_by.l0])
            | succ k2 =>
              have H := HA.out
              clear HA
              simp only [ratio_wide_by.l0] at H
              by_cases c27 : x9_2 ≥ 0
              · rw [if_pos c27] at H
                have c27b0 : decide (0 ≤ x9_2) = true := decide_eq_true c27
                clear c27
                replace H := Option.bind_eq_some_iff.mp H
                obtain ⟨⟨t159, t160, t161⟩, A280, H⟩ := H
                replace H : ((ratio_wide_less.f x154000_2 x154001_2 a0_2 t159 t160 t161).bind fun t163 => (if t163 = true then (ratio_wide_by.l0 k2 x8_2 (wrap64 (x9_2 - 1)) x154000_2 x154001_2 a0_2 a1_0 a1_1 a1_2) else ((bits_Sub64.f x154001_2 t160 0).bind fun bt164 => ((bits_Sub64.f x154000_2 t159 bt164.2).bind fun bt166 => (if 0 ≤ (IntKind.u64.wrap (x9_2)) then (ratio_wide_by.l0 k2 (Go.bits .or .u64 x8_2 (shl .u64 1 (IntKind.u64.wrap (x9_2)))) (wrap64 (x9_2 - 1)) bt166.1 bt164.1 a0_2 a1_0 a1_1 a1_2) else (none)))))) = some (r1, r2) := H
                have A28 := Aside0.mk A280
                clear A280
                replace H := Option.bind_eq_some_iff.mp H
                obtain ⟨t163, A290, H⟩ := H
                replace H : (if t163 = true then (ratio_wide_by.l0 k2 x8_2 (wrap64 (x9_2 - 1)) x154000_2 x154001_2 a0_2 a1_0 a1_1 a1_2) else ((bits_Sub64.f x154001_2 t160 0).bind fun bt164 => ((bits_Sub64.f x154000_2 t159 bt164.2).bind fun bt166 => (if 0 ≤ (IntKind.u64.wrap (x9_2)) then (ratio_wide_by.l0 k2 (Go.bits .or .u64 x8_2 (shl .u64 1 (IntKind.u64.wrap (x9_2)))) (wrap64 (x9_2 - 1)) bt166.1 bt164.1 a0_2 a1_0 a1_1 a1_2) else (none))))) = some (r1, r2) := H
                have A29 := Aside0.mk A290
                clear A290
                by_cases c30 : t163 = true
                · subst c30
                  have H1 : (ratio_wide_by.l0 k2 x8_2 (wrap64 (x9_2 - 1)) x154000_2 x154001_2 a0_2 a1_0 a1_1 a1_2) = some (r1, r2) := by rw [if_pos rfl] at H; exact H
                  clear H
                  have H := H1
                  clear H1
                  have H' := Aside0.mk H
                  clear H
                  have hnb31 := NB154_153.out
                  have hnc31 := NB153_154.out
                  have hcz32_0 : wr.cell? ⟨gb154, 0, none⟩ = some (.int .u64 a1_0) := (blk_cell BK154.out 0).trans rfl
                  have hcz32_1 : wr.cell? ⟨gb154, 1, none⟩ = some (.int .u64 a1_1) := (blk_cell BK154.out 1).trans rfl
                  have hcz32_2 : wr.cell? ⟨gb154, 2, none⟩ = some (.bool a1_2) := (blk_cell BK154.out 2).trans rfl
                  have hfz32_0 := blk_frozen BK154.out 0
                  have hfz32_1 := blk_frozen BK154.out 1
                  have hfz32_2 := blk_frozen BK154.out 2
                  go_wp2_with (first | ((with_reducible refine gate_callee (f := 138) rfl ?_); refine goesL_ (some 50) rfl rfl Tryz.func138 (by kernel_rfl) rfl #[.agg #[.int .u64 a1_0, .int .u64 a1_1, .bool a1_2], .int .i64 x9_2] rfl (by (try simp only [List.map_toArray, List.map_cons, List.map_nil]); first | done | rfl | (simp only [List.length_drop, List.length_take]; rfl)) ?_; (with_reducible refine (ratio_wide_up.calls k2 a1_0 a1_1 a1_2 x9_2 t159 t160 t161 _ A28.out).mono ?_); rintro e w33 ⟨rfl, hb⟩; refine ⟨_, rfl, ?_⟩; have n0_ := Aside0.mk (blk_below (g := gb153) (o := .cells #[.int .u64 x154000_2, .int .u64 x154001_2, .bool a0_2] 141 (0, 0)) (by (with_reducible repeat (first | refine blk_drewN ?_ _ | refine blk_drew ?_ | refine blk_alloc ?_ _)); exact BK153.out) hb); have n1_ := Aside0.mk (blk_below (g := gb154) (o := .cells #[.int .u64 a1_0, .int .u64 a1_1, .bool a1_2] 141 (0, 0)) (by (with_reducible repeat (first | refine blk_drewN ?_ _ | refine blk_drew ?_ | refine blk_alloc ?_ _)); exact BK154.out) hb); have n2_ := Aside0.mk (below_step (by repeat (first | (with_reducible first | exact HB.out | apply below_alloc | apply pw_below_drewN | apply below_drew1 | refine below_set ?_ GE153.out | refine below_set ?_ GE154.out) | exact HB.out)) hb); clear BK153; clear BK154; clear HB; have BK153 := n0_; have BK154 := n1_; have HB := n2_; clear n0_ n1_ n2_; (try clear hb); (try clear hb2); (try clear hk); (try clear hi)) | ((with_reducible refine gate_dst (N := 10) rfl ?_); refine box_event ?hg (N := 10) ?hd (cs := #[.int .u64 0, .int .u64 0, .bool false]) (t := 141) ?hr ?_; (case hd => rfl); (case hg => rfl); (case hr => first | (go_simp; done) | (go_simp; rfl)); intro gb162 hg w34 hbox hb; have n0_ := Aside0.mk (blk_below (g := gb153) (o := .cells #[.int .u64 x154000_2, .int .u64 x154001_2, .bool a0_2] 141 (0, 0)) (by (with_reducible repeat (first | refine blk_drewN ?_ _ | refine blk_drew ?_ | refine blk_alloc ?_ _)); exact BK153.out) hb); have n1_ := Aside0.mk (blk_below (g := gb154) (o := .cells #[.int .u64 a1_0, .int .u64 a1_1, .bool a1_2] 141 (0, 0)) (by (with_reducible repeat (first | refine blk_drewN ?_ _ | refine blk_drew ?_ | refine blk_alloc ?_ _)); exact BK154.out) hb); have n2_ := Aside0.mk (below_step (by repeat (first | (with_reducible first | exact HB.out | apply below_alloc | apply pw_below_drewN | apply below_drew1 | refine below_set ?_ GE153.out | refine below_set ?_ GE154.out) | exact HB.out)) hb); have n3_ := Aside0.mk (hbox); have n4_ := Aside0.mk ((by rw [hg]; exact (below_size (by repeat (first | (with_reducible first | exact HB.out | apply below_alloc | apply pw_below_drewN | apply below_drew1 | refine below_set ?_ GE153.out | refine below_set ?_ GE154.out) | exact HB.out))) : w.heap.size ≤ gb162)); have n5_ := Aside0.mk ((by rw [hg]; exact (below_size (by repeat (first | (with_reducible first | exact HB.out | apply below_alloc | apply pw_below_drewN | apply below_drew1 | refine below_set ?_ GE153.out | refine below_set ?_ GE154.out) | exact HB.out))) : w.heap.size ≤ gb162)); have n6_ := Aside0.mk ((by rw [hg]; exact Nat.ne_of_lt (blk_lt (g := gb153) (o := .cells #[.int .u64 x154000_2, .int .u64 x154001_2, .bool a0_2] 141 (0, 0)) (by (with_reducible repeat (first | refine blk_drewN ?_ _ | refine blk_drew ?_ | refine blk_alloc ?_ _)); exact BK153.out)) : gb153 ≠ gb162)); have n7_ := Aside0.mk ((by rw [hg]; exact Nat.ne_of_gt (blk_lt (g := gb153) (o := .cells #[.int .u64 x154000_2, .int .u64 x154001_2, .bool a0_2] 141 (0, 0)) (by (with_reducible repeat (first | refine blk_drewN ?_ _ | refine blk_drew ?_ | refine blk_alloc ?_ _)); exact BK153.out)) : gb162 ≠ gb153)); have n8_ := Aside0.mk ((by rw [hg]; exact Nat.ne_of_lt (blk_lt (g := gb154) (o := .cells #[.int .u64 a1_0, .int .u64 a1_1, .bool a1_2] 141 (0, 0)) (by (with_reducible repeat (first | refine blk_drewN ?_ _ | refine blk_drew ?_ | refine blk_alloc ?_ _)); exact BK154.out)) : gb154 ≠ gb162)); have n9_ := Aside0.mk ((by rw [hg]; exact Nat.ne_of_gt (blk_lt (g := gb154) (o := .cells #[.int .u64 a1_0, .int .u64 a1_1, .bool a1_2] 141 (0, 0)) (by (with_reducible repeat (first | refine blk_drewN ?_ _ | refine blk_drew ?_ | refine blk_alloc ?_ _)); exact BK154.out)) : gb162 ≠ gb154)); clear BK153; clear BK154; clear HB; have BK153 := n0_; have BK154 := n1_; have HB := n2_; have BK162 := n3_; have GW162 := n4_; have GE162 := n5_; have NB153_162 := n6_; have NB162_153 := n7_; have NB154_162 := n8_; have NB162_154 := n9_; clear n0_ n1_ n2_ n3_ n4_ n5_ n6_ n7_ n8_ n9_; clear hb hbox hg; have hnb35 := NB162_153.out; have hnc35 := NB153_162.out; have hnb36 := NB162_154.out; have hnc36 := NB154_162.out; have hcz37_0 : w34.cell? ⟨gb162, 0, none⟩ = some (.int .u64 0) := (blk_cell BK162.out 0).trans rfl; have hcz37_1 : w34.cell? ⟨gb162, 1, none⟩ = some (.int .u64 0) := (blk_cell BK162.out 1).trans rfl; have hcz37_2 : w34.cell? ⟨gb162, 2, none⟩ = some (.bool false) := (blk_cell BK162.out 2).trans rfl; have hfz37_0 := blk_frozen BK162.out 0; have hfz37_1 := blk_frozen BK162.out 1; have hfz37_2 := blk_frozen BK162.out 2; have hcz38_0 : w34.cell? ⟨gb153, 0, none⟩ = some (.int .u64 x154000_2) := (blk_cell BK153.out 0).trans rfl; have hcz38_1 : w34.cell? ⟨gb153, 1, none⟩ = some (.int .u64 x154001_2) := (blk_cell BK153.out 1).trans rfl; have hcz38_2 : w34.cell? ⟨gb153, 2, none⟩ = some (.bool a0_2) := (blk_cell BK153.out 2).trans rfl; have hfz38_0 := blk_frozen BK153.out 0; have hfz38_1 := blk_frozen BK153.out 1; have hfz38_2 := blk_frozen BK153.out 2) | ((with_reducible refine gate_callee (f := 126) rfl ?_); refine goesL_ (some 53) rfl rfl Tryz.func126 (by kernel_rfl) rfl #[.agg #[.int .u64 x154000_2, .int .u64 x154001_2, .bool a0_2], .agg #[.int .u64 t159, .int .u64 t160, .bool t161]] rfl (by (try simp only [List.map_toArray, List.map_cons, List.map_nil]); first | done | rfl | (simp only [List.length_drop, List.length_take]; rfl)) ?_; (with_reducible refine (ratio_wide_less.calls x154000_2 x154001_2 a0_2 t159 t160 t161 true _ A29.out).mono ?_); rintro e w39 ⟨rfl, hb⟩; refine ⟨_, rfl, ?_⟩; have n0_ := Aside0.mk (blk_below (g := gb153) (o := .cells #[.int .u64 x154000_2, .int .u64 x154001_2, .bool a0_2] 141 (0, 0)) (by (with_reducible repeat (first | refine blk_drewN ?_ _ | refine blk_drew ?_ | refine blk_alloc ?_ _)); refine blk_far ?_ NB153_162.out _; (with_reducible repeat (first | refine blk_drewN ?_ _ | refine blk_drew ?_ | refine blk_alloc ?_ _)); refine blk_far ?_ NB153_162.out _; (with_reducible repeat (first | refine blk_drewN ?_ _ | refine blk_drew ?_ | refine blk_alloc ?_ _)); refine blk_far ?_ NB153_162.out _; (with_reducible repeat (first | refine blk_drewN ?_ _ | refine blk_drew ?_ | refine blk_alloc ?_ _)); exact BK153.out) hb); have n1_ := Aside0.mk (blk_below (g := gb154) (o := .cells #[.int .u64 a1_0, .int .u64 a1_1, .bool a1_2] 141 (0, 0)) (by (with_reducible repeat (first | refine blk_drewN ?_ _ | refine blk_drew ?_ | refine blk_alloc ?_ _)); refine blk_far ?_ NB154_162.out _; (with_reducible repeat (first | refine blk_drewN ?_ _ | refine blk_drew ?_ | refine blk_alloc ?_ _)); refine blk_far ?_ NB154_162.out _; (with_reducible repeat (first | refine blk_drewN ?_ _ | refine blk_drew ?_ | refine blk_alloc ?_ _)); refine blk_far ?_ NB154_162.out _; (with_reducible repeat (first | refine blk_drewN ?_ _ | refine blk_drew ?_ | refine blk_alloc ?_ _)); exact BK154.out) hb); have n2_ := Aside0.mk (blk_below (g := gb162) (o := .cells #[.int .u64 t159, .int .u64 t160, .bool t161] 141 (0, 0)) (by (with_reducible repeat (first | refine blk_drewN ?_ _ | refine blk_drew ?_ | refine blk_alloc ?_ _)); refine blk_put (cs := #[.int .u64 t159, .int .u64 t160, .bool false]) ?_ 2 _ rfl; (with_reducible repeat (first | refine blk_drewN ?_ _ | refine blk_drew ?_ | refine blk_alloc ?_ _)); refine blk_put (cs := #[.int .u64 t159, .int .u64 0, .bool false]) ?_ 1 _ rfl; (with_reducible repeat (first | refine blk_drewN ?_ _ | refine blk_drew ?_ | refine blk_alloc ?_ _)); refine blk_put (cs := #[.int .u64 0, .int .u64 0, .bool false]) ?_ 0 _ rfl; (with_reducible repeat (first | refine blk_drewN ?_ _ | refine blk_drew ?_ | refine blk_alloc ?_ _)); exact BK162.out) hb); have n3_ := Aside0.mk (below_step (by repeat (first | (with_reducible first | exact HB.out | apply below_alloc | apply pw_below_drewN | apply below_drew1 | refine below_set ?_ GE153.out | refine below_set ?_ GE154.out | refine below_set ?_ GE162.out) | exact HB.out)) hb); clear BK153; clear BK154; clear BK162; clear HB; have BK153 := n0_; have BK154 := n1_; have BK162 := n2_; have HB := n3_; clear n0_ n1_ n2_ n3_; (try clear hb); (try clear hb2); (try clear hk); (try clear hi)))
                  go_roundg k2
                  case measure => have := HJ2.out; have := HK2.out; omega
                  case rel => exact ⟨(x8_2), (wrap64 (x9_2 - 1)), (x154000_2), (x154001_2), (by first | rfl | (simp; done) | (simp [*]; done)), (by first | rfl | (simp; done) | (simp [*]; done)), H', ⟨by have := HJ2.out; have := HK2.out; omega⟩, ⟨by (with_reducible repeat (first | refine blk_drewN ?_ _ | refine blk_drew ?_ | refine blk_alloc ?_ _)); exact BK153.out⟩, ⟨by (with_reducible repeat (first | refine blk_drewN ?_ _ | refine blk_drew ?_ | refine blk_alloc ?_ _)); exact BK154.out⟩, ⟨by repeat (first | (with_reducible first | exact HB.out | apply below_alloc | apply pw_below_drewN | apply below_drew1 | refine below_set ?_ GE153.out | refine below_set ?_ GE154.out | refine below_set ?_ GE162.out) | exact HB.out)⟩⟩
                · replace c30 := Bool.eq_false_iff.mpr c30
                  subst c30
                  have H1 : ((bits_Sub64.f x154001_2 t160 0).bind fun bt164 => ((bits_Sub64.f x154000_2 t159 bt164.2).bind fun bt166 => (if 0 ≤ (IntKind.u64.wrap (x9_2)) then (ratio_wide_by.l0 k2 (Go.bits .or .u64 x8_2 (shl .u64 1 (IntKind.u64.wrap (x9_2)))) (wrap64 (x9_2 - 1)) bt166.1 bt164.1 a0_2 a1_0 a1_1 a1_2) else (none)))) = some (r1, r2) := by rw [if_neg (show ¬ (false = true) by decide)] at H; exact H
                  clear H
                  have H := H1
                  clear H1
                  replace H := Option.bind_eq_some_iff.mp H
                  obtain ⟨⟨t164, t165⟩, A400, H⟩ := H
                  replace H : ((bits_Sub64.f x154000_2 t159 t165).bind fun bt166 => (if 0 ≤ (IntKind.u64.wrap (x9_2)) then (ratio_wide_by.l0 k2 (Go.bits .or .u64 x8_2 (shl .u64 1 (IntKind.u64.wrap (x9_2)))) (wrap64 (x9_2 - 1)) bt166.1 t164 a0_2 a1_0 a1_1 a1_2) else (none))) = some (r1, r2) := H
                  have A40 := Aside0.mk A400
                  clear A400
                  replace H := Option.bind_eq_some_iff.mp H
                  obtain ⟨⟨t166, t167⟩, A410, H⟩ := H
                  replace H : (if 0 ≤ (IntKind.u64.wrap (x9_2)) then (ratio_wide_by.l0 k2 (Go.bits .or .u64 x8_2 (shl .u64 1 (IntKind.u64.wrap (x9_2)))) (wrap64 (x9_2 - 1)) t166 t164 a0_2 a1_0 a1_1 a1_2) else (none)) = some (r1, r2) := H
                  have A41 := Aside0.mk A410
                  clear A410
                  obtain ⟨ji42, hji42⟩ : ∃ j_ : Int, (IntKind.u64.wrap (x9_2)) = j_ := ⟨_, rfl⟩
                  replace H : (if 0 ≤ (ji42) then (ratio_wide_by.l0 k2 (Go.bits .or .u64 x8_2 (shl .u64 1 (ji42))) (wrap64 (x9_2 - 1)) t166 t164 a0_2 a1_0 a1_1 a1_2) else (none)) = some (r1, r2) := by first | (rw [hji42] at H; exact H) | (simp only [hji42] at H ⊢; exact H)
                  (try rw [hji42] at A28)
                  (try rw [hji42] at A29)
                  (try rw [hji42] at A40)
                  (try rw [hji42] at A41)
                  by_cases c43 : 0 ≤ (ji42)
                  · rw [if_pos c43] at H
                    have c43b0 := eq_true c43
                    have c43b1 : decide (0 ≤ (ji42)) = true := decide_eq_true c43
                    clear c43
                    obtain ⟨ji44, hji44⟩ : ∃ j_ : Int, (shl .u64 1 (ji42)) = j_ := ⟨_, rfl⟩
                    replace H : (ratio_wide_by.l0 k2 (Go.bits .or .u64 x8_2 (ji44)) (wrap64 (x9_2 - 1)) t166 t164 a0_2 a1_0 a1_1 a1_2) = some (r1, r2) := by first | (rw [hji44] at H; exact H) | (simp only [hji44] at H ⊢; exact H)
                    (try rw [hji44] at A28)
                    (try rw [hji44] at A29)
                    (try rw [hji44] at A40)
                    (try rw [hji44] at A41)
                    have hji44_ : (IntKind.u64.wrap (1 * 2 ^ min (ji42).toNat 64)) = ji44 := hji44
                    have hji44z : (ji42) ≤ 64 → (IntKind.u64.wrap (1 * 2 ^ (ji42).toNat)) = ji44 := shl_small hji44
                    have hji44u : (IntKind.u64.wrap (2 ^ min (ji42).toNat 64)) = ji44 := by have h_ := hji44_; rw [Int.one_mul] at h_; exact h_
                    have hji44v : (ji42) ≤ 64 → (IntKind.u64.wrap (2 ^ (ji42).toNat)) = ji44 := fun hle_ => by have h_ := hji44z hle_; rw [Int.one_mul] at h_; exact h_
                    have H' := Aside0.mk H
                    clear H
                    have hnb45 := NB154_153.out
                    have hnc45 := NB153_154.out
                    have hcz46_0 : wr.cell? ⟨gb154, 0, none⟩ = some (.int .u64 a1_0) := (blk_cell BK154.out 0).trans rfl
                    have hcz46_1 : wr.cell? ⟨gb154, 1, none⟩ = some (.int .u64 a1_1) := (blk_cell BK154.out 1).trans rfl
                    have hcz46_2 : wr.cell? ⟨gb154, 2, none⟩ = some (.bool a1_2) := (blk_cell BK154.out 2).trans rfl
                    have hfz46_0 := blk_frozen BK154.out 0
                    have hfz46_1 := blk_frozen BK154.out 1
                    have hfz46_2 := blk_frozen BK154.out 2
                    go_wp2_with (first | ((with_reducible refine gate_callee (f := 138) rfl ?_); refine goesL_ (some 50) rfl rfl Tryz.func138 (by kernel_rfl) rfl #[.agg #[.int .u64 a1_0, .int .u64 a1_1, .bool a1_2], .int .i64 x9_2] rfl (by (try simp only [List.map_toArray, List.map_cons, List.map_nil]); first | done | rfl | (simp only [List.length_drop, List.length_take]; rfl)) ?_; (with_reducible refine (ratio_wide_up.calls k2 a1_0 a1_1 a1_2 x9_2 t159 t160 t161 _ A28.out).mono ?_); rintro e w47 ⟨rfl, hb⟩; refine ⟨_, rfl, ?_⟩; have n0_ := Aside0.mk (blk_below (g := gb153) (o := .cells #[.int .u64 x154000_2, .int .u64 x154001_2, .bool a0_2] 141 (0, 0)) (by (with_reducible repeat (first | refine blk_drewN ?_ _ | refine blk_drew ?_ | refine blk_alloc ?_ _)); exact BK153.out) hb); have n1_ := Aside0.mk (blk_below (g := gb154) (o := .cells #[.int .u64 a1_0, .int .u64 a1_1, .bool a1_2] 141 (0, 0)) (by (with_reducible repeat (first | refine blk_drewN ?_ _ | refine blk_drew ?_ | refine blk_alloc ?_ _)); exact BK154.out) hb); have n2_ := Aside0.mk (below_step (by repeat (first | (with_reducible first | exact HB.out | apply below_alloc | apply pw_below_drewN | apply below_drew1 | refine below_set ?_ GE153.out | refine below_set ?_ GE154.out) | exact HB.out)) hb); clear BK153; clear BK154; clear HB; have BK153 := n0_; have BK154 := n1_; have HB := n2_; clear n0_ n1_ n2_; (try clear hb); (try clear hb2); (try clear hk); (try clear hi)) | ((with_reducible refine gate_dst (N := 10) rfl ?_); refine box_event ?hg (N := 10) ?hd (cs := #[.int .u64 0, .int .u64 0, .bool false]) (t := 141) ?hr ?_; (case hd => rfl); (case hg => rfl); (case hr => first | (go_simp; done) | (go_simp; rfl)); intro gb162 hg w48 hbox hb; have n0_ := Aside0.mk (blk_below (g := gb153) (o := .cells #[.int .u64 x154000_2, .int .u64 x154001_2, .bool a0_2] 141 (0, 0)) (by (with_reducible repeat (first | refine blk_drewN ?_ _ | refine blk_drew ?_ | refine blk_alloc ?_ _)); exact BK153.out) hb); have n1_ := Aside0.mk (blk_below (g := gb154) (o := .cells #[.int .u64 a1_0, .int .u64 a1_1, .bool a1_2] 141 (0, 0)) (by (with_reducible repeat (first | refine blk_drewN ?_ _ | refine blk_drew ?_ | refine blk_alloc ?_ _)); exact BK154.out) hb); have n2_ := Aside0.mk (below_step (by repeat (first | (with_reducible first | exact HB.out | apply below_alloc | apply pw_below_drewN | apply below_drew1 | refine below_set ?_ GE153.out | refine below_set ?_ GE154.out) | exact HB.out)) hb); have n3_ := Aside0.mk (hbox); have n4_ := Aside0.mk ((by rw [hg]; exact (below_size (by repeat (first | (with_reducible first | exact HB.out | apply below_alloc | apply pw_below_drewN | apply below_drew1 | refine below_set ?_ GE153.out | refine below_set ?_ GE154.out) | exact HB.out))) : w.heap.size ≤ gb162)); have n5_ := Aside0.mk ((by rw [hg]; exact (below_size (by repeat (first | (with_reducible first | exact HB.out | apply below_alloc | apply pw_below_drewN | apply below_drew1 | refine below_set ?_ GE153.out | refine below_set ?_ GE154.out) | exact HB.out))) : w.heap.size ≤ gb162)); have n6_ := Aside0.mk ((by rw [hg]; exact Nat.ne_of_lt (blk_lt (g := gb153) (o := .cells #[.int .u64 x154000_2, .int .u64 x154001_2, .bool a0_2] 141 (0, 0)) (by (with_reducible repeat (first | refine blk_drewN ?_ _ | refine blk_drew ?_ | refine blk_alloc ?_ _)); exact BK153.out)) : gb153 ≠ gb162)); have n7_ := Aside0.mk ((by rw [hg]; exact Nat.ne_of_gt (blk_lt (g := gb153) (o := .cells #[.int .u64 x154000_2, .int .u64 x154001_2, .bool a0_2] 141 (0, 0)) (by (with_reducible repeat (first | refine blk_drewN ?_ _ | refine blk_drew ?_ | refine blk_alloc ?_ _)); exact BK153.out)) : gb162 ≠ gb153)); have n8_ := Aside0.mk ((by rw [hg]; exact Nat.ne_of_lt (blk_lt (g := gb154) (o := .cells #[.int .u64 a1_0, .int .u64 a1_1, .bool a1_2] 141 (0, 0)) (by (with_reducible repeat (first | refine blk_drewN ?_ _ | refine blk_drew ?_ | refine blk_alloc ?_ _)); exact BK154.out)) : gb154 ≠ gb162)); have n9_ := Aside0.mk ((by rw [hg]; exact Nat.ne_of_gt (blk_lt (g := gb154) (o := .cells #[.int .u64 a1_0, .int .u64 a1_1, .bool a1_2] 141 (0, 0)) (by (with_reducible repeat (first | refine blk_drewN ?_ _ | refine blk_drew ?_ | refine blk_alloc ?_ _)); exact BK154.out)) : gb162 ≠ gb154)); clear BK153; clear BK154; clear HB; have BK153 := n0_; have BK154 := n1_; have HB := n2_; have BK162 := n3_; have GW162 := n4_; have GE162 := n5_; have NB153_162 := n6_; have NB162_153 := n7_; have NB154_162 := n8_; have NB162_154 := n9_; clear n0_ n1_ n2_ n3_ n4_ n5_ n6_ n7_ n8_ n9_; clear hb hbox hg; have hnb49 := NB162_153.out; have hnc49 := NB153_162.out; have hnb50 := NB162_154.out; have hnc50 := NB154_162.out; have hcz51_0 : w48.cell? ⟨gb162, 0, none⟩ = some (.int .u64 0) := (blk_cell BK162.out 0).trans rfl; have hcz51_1 : w48.cell? ⟨gb162, 1, none⟩ = some (.int .u64 0) := (blk_cell BK162.out 1).trans rfl; have hcz51_2 : w48.cell? ⟨gb162, 2, none⟩ = some (.bool false) := (blk_cell BK162.out 2).trans rfl; have hfz51_0 := blk_frozen BK162.out 0; have hfz51_1 := blk_frozen BK162.out 1; have hfz51_2 := blk_frozen BK162.out 2; have hcz52_0 : w48.cell? ⟨gb153, 0, none⟩ = some (.int .u64 x154000_2) := (blk_cell BK153.out 0).trans rfl; have hcz52_1 : w48.cell? ⟨gb153, 1, none⟩ = some (.int .u64 x154001_2) := (blk_cell BK153.out 1).trans rfl; have hcz52_2 : w48.cell? ⟨gb153, 2, none⟩ = some (.bool a0_2) := (blk_cell BK153.out 2).trans rfl; have hfz52_0 := blk_frozen BK153.out 0; have hfz52_1 := blk_frozen BK153.out 1; have hfz52_2 := blk_frozen BK153.out 2) | ((with_reducible refine gate_callee (f := 126) rfl ?_); refine goesL_ (some 53) rfl rfl Tryz.func126 (by kernel_rfl) rfl #[.agg #[.int .u64 x154000_2, .int .u64 x154001_2, .bool a0_2], .agg #[.int .u64 t159, .int .u64 t160, .bool t161]] rfl (by (try simp only [List.map_toArray, List.map_cons, List.map_nil]); first | done | rfl | (simp only [List.length_drop, List.length_take]; rfl)) ?_; (with_reducible refine (ratio_wide_less.calls x154000_2 x154001_2 a0_2 t159 t160 t161 false _ A29.out).mono ?_); rintro e w53 ⟨rfl, hb⟩; refine ⟨_, rfl, ?_⟩; have n0_ := Aside0.mk (blk_below (g := gb153) (o := .cells #[.int .u64 x154000_2, .int .u64 x154001_2, .bool a0_2] 141 (0, 0)) (by (with_reducible repeat (first | refine blk_drewN ?_ _ | refine blk_drew ?_ | refine blk_alloc ?_ _)); refine blk_far ?_ NB153_162.out _; (with_reducible repeat (first | refine blk_drewN ?_ _ | refine blk_drew ?_ | refine blk_alloc ?_ _)); refine blk_far ?_ NB153_162.out _; (with_reducible repeat (first | refine blk_drewN ?_ _ | refine blk_drew ?_ | refine blk_alloc ?_ _)); refine blk_far ?_ NB153_162.out _; (with_reducible repeat (first | refine blk_drewN ?_ _ | refine blk_drew ?_ | refine blk_alloc ?_ _)); exact BK153.out) hb); have n1_ := Aside0.mk (blk_below (g := gb154) (o := .cells #[.int .u64 a1_0, .int .u64 a1_1, .bool a1_2] 141 (0, 0)) (by (with_reducible repeat (first | refine blk_drewN ?_ _ | refine blk_drew ?_ | refine blk_alloc ?_ _)); refine blk_far ?_ NB154_162.out _; (with_reducible repeat (first | refine blk_drewN ?_ _ | refine blk_drew ?_ | refine blk_alloc ?_ _)); refine blk_far ?_ NB154_162.out _; (with_reducible repeat (first | refine blk_drewN ?_ _ | refine blk_drew ?_ | refine blk_alloc ?_ _)); refine blk_far ?_ NB154_162.out _; (with_reducible repeat (first | refine blk_drewN ?_ _ | refine blk_drew ?_ | refine blk_alloc ?_ _)); exact BK154.out) hb); have n2_ := Aside0.mk (blk_below (g := gb162) (o := .cells #[.int .u64 t159, .int .u64 t160, .bool t161] 141 (0, 0)) (by (with_reducible repeat (first | refine blk_drewN ?_ _ | refine blk_drew ?_ | refine blk_alloc ?_ _)); refine blk_put (cs := #[.int .u64 t159, .int .u64 t160, .bool false]) ?_ 2 _ rfl; (with_reducible repeat (first | refine blk_drewN ?_ _ | refine blk_drew ?_ | refine blk_alloc ?_ _)); refine blk_put (cs := #[.int .u64 t159, .int .u64 0, .bool false]) ?_ 1 _ rfl; (with_reducible repeat (first | refine blk_drewN ?_ _ | refine blk_drew ?_ | refine blk_alloc ?_ _)); refine blk_put (cs := #[.int .u64 0, .int .u64 0, .bool false]) ?_ 0 _ rfl; (with_reducible repeat (first | refine blk_drewN ?_ _ | refine blk_drew ?_ | refine blk_alloc ?_ _)); exact BK162.out) hb); have n3_ := Aside0.mk (below_step (by repeat (first | (with_reducible first | exact HB.out | apply below_alloc | apply pw_below_drewN | apply below_drew1 | refine below_set ?_ GE153.out | refine below_set ?_ GE154.out | refine below_set ?_ GE162.out) | exact HB.out)) hb); clear BK153; clear BK154; clear BK162; clear HB; have BK153 := n0_; have BK154 := n1_; have BK162 := n2_; have HB := n3_; clear n0_ n1_ n2_ n3_; (try clear hb); (try clear hb2); (try clear hk); (try clear hi); have hcz54_0 : w53.cell? ⟨gb153, 0, none⟩ = some (.int .u64 x154000_2) := (blk_cell BK153.out 0).trans rfl; have hcz54_1 : w53.cell? ⟨gb153, 1, none⟩ = some (.int .u64 x154001_2) := (blk_cell BK153.out 1).trans rfl; have hcz54_2 : w53.cell? ⟨gb153, 2, none⟩ = some (.bool a0_2) := (blk_cell BK153.out 2).trans rfl; have hfz54_0 := blk_frozen BK153.out 0; have hfz54_1 := blk_frozen BK153.out 1; have hfz54_2 := blk_frozen BK153.out 2; have hcz55_0 : w53.cell? ⟨gb162, 0, none⟩ = some (.int .u64 t159) := (blk_cell BK162.out 0).trans rfl; have hcz55_1 : w53.cell? ⟨gb162, 1, none⟩ = some (.int .u64 t160) := (blk_cell BK162.out 1).trans rfl; have hcz55_2 : w53.cell? ⟨gb162, 2, none⟩ = some (.bool t161) := (blk_cell BK162.out 2).trans rfl; have hfz55_0 := blk_frozen BK162.out 0; have hfz55_1 := blk_frozen BK162.out 1; have hfz55_2 := blk_frozen BK162.out 2) | ((with_reducible refine gate_callee (f := 127) rfl ?_); refine goesX_ (some 60) rfl rfl #[.int .u64 x154001_2, .int .u64 t160, .int .u64 0] rfl (by (try simp only [List.map_toArray, List.map_cons, List.map_nil]); first | done | rfl | (simp only [List.length_drop, List.length_take]; rfl)) ?_; (with_reducible refine (bits_Sub64.calls x154001_2 t160 0 t164 t165 _ A40.out).mono ?_); rintro e w' ⟨rfl, ⟨nd, rfl⟩⟩; refine ⟨_, rfl, ?_⟩; (try (rw [drewN_self w53]; generalize hq_ : World.drewN w53 _ = w53; have n0_ : Aside0 (w53.heap[gb153]? = some (.cells #[.int .u64 x154000_2, .int .u64 x154001_2, .bool a0_2] 141 (0, 0))) := ⟨by rw [← hq_]; exact (by (with_reducible repeat (first | refine blk_drewN ?_ _ | refine blk_drew ?_ | refine blk_alloc ?_ _)); exact BK153.out)⟩; have n1_ : Aside0 (w53.heap[gb154]? = some (.cells #[.int .u64 a1_0, .int .u64 a1_1, .bool a1_2] 141 (0, 0))) := ⟨by rw [← hq_]; exact (by (with_reducible repeat (first | refine blk_drewN ?_ _ | refine blk_drew ?_ | refine blk_alloc ?_ _)); exact BK154.out)⟩; have n2_ : Aside0 (w53.heap[gb162]? = some (.cells #[.int .u64 t159, .int .u64 t160, .bool t161] 141 (0, 0))) := ⟨by rw [← hq_]; exact (by (with_reducible repeat (first | refine blk_drewN ?_ _ | refine blk_drew ?_ | refine blk_alloc ?_ _)); exact BK162.out)⟩; have n3_ : Aside0 (Below w.heap.size w w53) := ⟨by rw [← hq_]; exact (by repeat (first | (with_reducible first | exact HB.out | apply below_alloc | apply pw_below_drewN | apply below_drew1 | refine below_set ?_ GE153.out | refine below_set ?_ GE154.out | refine below_set ?_ GE162.out) | exact HB.out))⟩; clear BK153 BK154 BK162 HB hq_; have BK153 := n0_; have BK154 := n1_; have BK162 := n2_; have HB := n3_; clear n0_ n1_ n2_ n3_)); (try (have hcy153_0 : w53.cell? ⟨gb153, 0, none⟩ = some (.int .u64 x154000_2) := (blk_cell BK153.out 0).trans rfl)); (try (have hfy153_0 := blk_frozen BK153.out 0)); (try (have hcy153_1 : w53.cell? ⟨gb153, 1, none⟩ = some (.int .u64 x154001_2) := (blk_cell BK153.out 1).trans rfl)); (try (have hfy153_1 := blk_frozen BK153.out 1)); (try (have hcy153_2 : w53.cell? ⟨gb153, 2, none⟩ = some (.bool a0_2) := (blk_cell BK153.out 2).trans rfl)); (try (have hfy153_2 := blk_frozen BK153.out 2)); (try (have hcy154_0 : w53.cell? ⟨gb154, 0, none⟩ = some (.int .u64 a1_0) := (blk_cell BK154.out 0).trans rfl)); (try (have hfy154_0 := blk_frozen BK154.out 0)); (try (have hcy154_1 : w53.cell? ⟨gb154, 1, none⟩ = some (.int .u64 a1_1) := (blk_cell BK154.out 1).trans rfl)); (try (have hfy154_1 := blk_frozen BK154.out 1)); (try (have hcy154_2 : w53.cell? ⟨gb154, 2, none⟩ = some (.bool a1_2) := (blk_cell BK154.out 2).trans rfl)); (try (have hfy154_2 := blk_frozen BK154.out 2)); (try (have hcy162_0 : w53.cell? ⟨gb162, 0, none⟩ = some (.int .u64 t159) := (blk_cell BK162.out 0).trans rfl)); (try (have hfy162_0 := blk_frozen BK162.out 0)); (try (have hcy162_1 : w53.cell? ⟨gb162, 1, none⟩ = some (.int .u64 t160) := (blk_cell BK162.out 1).trans rfl)); (try (have hfy162_1 := blk_frozen BK162.out 1)); (try (have hcy162_2 : w53.cell? ⟨gb162, 2, none⟩ = some (.bool t161) := (blk_cell BK162.out 2).trans rfl)); (try (have hfy162_2 := blk_frozen BK162.out 2))) | ((with_reducible refine gate_callee (f := 127) rfl ?_); refine goesX_ (some 69) rfl rfl #[.int .u64 x154000_2, .int .u64 t159, .int .u64 t165] rfl (by (try simp only [List.map_toArray, List.map_cons, List.map_nil]); first | done | rfl | (simp only [List.length_drop, List.length_take]; rfl)) ?_; (with_reducible refine (bits_Sub64.calls x154000_2 t159 t165 t166 t167 _ A41.out).mono ?_); rintro e w' ⟨rfl, ⟨nd, rfl⟩⟩; refine ⟨_, rfl, ?_⟩; (try (rw [drewN_self w53]; generalize hq_ : World.drewN w53 _ = w53; have n0_ : Aside0 (w53.heap[gb153]? = some (.cells #[.int .u64 x154000_2, .int .u64 x154001_2, .bool a0_2] 141 (0, 0))) := ⟨by rw [← hq_]; exact (by (with_reducible repeat (first | refine blk_drewN ?_ _ | refine blk_drew ?_ | refine blk_alloc ?_ _)); exact BK153.out)⟩; have n1_ : Aside0 (w53.heap[gb154]? = some (.cells #[.int .u64 a1_0, .int .u64 a1_1, .bool a1_2] 141 (0, 0))) := ⟨by rw [← hq_]; exact (by (with_reducible repeat (first | refine blk_drewN ?_ _ | refine blk_drew ?_ | refine blk_alloc ?_ _)); exact BK154.out)⟩; have n2_ : Aside0 (w53.heap[gb162]? = some (.cells #[.int .u64 t159, .int .u64 t160, .bool t161] 141 (0, 0))) := ⟨by rw [← hq_]; exact (by (with_reducible repeat (first | refine blk_drewN ?_ _ | refine blk_drew ?_ | refine blk_alloc ?_ _)); exact BK162.out)⟩; have n3_ : Aside0 (Below w.heap.size w w53) := ⟨by rw [← hq_]; exact (by repeat (first | (with_reducible first | exact HB.out | apply below_alloc | apply pw_below_drewN | apply below_drew1 | refine below_set ?_ GE153.out | refine below_set ?_ GE154.out | refine below_set ?_ GE162.out) | exact HB.out))⟩; clear BK153 BK154 BK162 HB hq_; have BK153 := n0_; have BK154 := n1_; have BK162 := n2_; have HB := n3_; clear n0_ n1_ n2_ n3_)); (try (have hcy153_0 : w53.cell? ⟨gb153, 0, none⟩ = some (.int .u64 x154000_2) := (blk_cell BK153.out 0).trans rfl)); (try (have hfy153_0 := blk_frozen BK153.out 0)); (try (have hcy153_1 : w53.cell? ⟨gb153, 1, none⟩ = some (.int .u64 x154001_2) := (blk_cell BK153.out 1).trans rfl)); (try (have hfy153_1 := blk_frozen BK153.out 1)); (try (have hcy153_2 : w53.cell? ⟨gb153, 2, none⟩ = some (.bool a0_2) := (blk_cell BK153.out 2).trans rfl)); (try (have hfy153_2 := blk_frozen BK153.out 2)); (try (have hcy154_0 : w53.cell? ⟨gb154, 0, none⟩ = some (.int .u64 a1_0) := (blk_cell BK154.out 0).trans rfl)); (try (have hfy154_0 := blk_frozen BK154.out 0)); (try (have hcy154_1 : w53.cell? ⟨gb154, 1, none⟩ = some (.int .u64 a1_1) := (blk_cell BK154.out 1).trans rfl)); (try (have hfy154_1 := blk_frozen BK154.out 1)); (try (have hcy154_2 : w53.cell? ⟨gb154, 2, none⟩ = some (.bool a1_2) := (blk_cell BK154.out 2).trans rfl)); (try (have hfy154_2 := blk_frozen BK154.out 2)); (try (have hcy162_0 : w53.cell? ⟨gb162, 0, none⟩ = some (.int .u64 t159) := (blk_cell BK162.out 0).trans rfl)); (try (have hfy162_0 := blk_frozen BK162.out 0)); (try (have hcy162_1 : w53.cell? ⟨gb162, 1, none⟩ = some (.int .u64 t160) := (blk_cell BK162.out 1).trans rfl)); (try (have hfy162_1 := blk_frozen BK162.out 1)); (try (have hcy162_2 : w53.cell? ⟨gb162, 2, none⟩ = some (.bool t161) := (blk_cell BK162.out 2).trans rfl)); (try (have hfy162_2 := blk_frozen BK162.out 2))))
                    go_roundg k2
                    case measure => have := HJ2.out; have := HK2.out; omega
                    case rel => exact ⟨(Go.bits .or .u64 x8_2 (ji44)), (wrap64 (x9_2 - 1)), (t166), (t164), (by first | rfl | (simp; done) | (simp only [← hji44] <;> (first | rfl | simp)) | (simp [*]; done)), (by first | rfl | (simp; done) | (simp [*]; done)), H', ⟨by have := HJ2.out; have := HK2.out; omega⟩, ⟨by (with_reducible repeat (first | refine blk_drewN ?_ _ | refine blk_drew ?_ | refine blk_alloc ?_ _)); refine blk_put (cs := #[.int .u64 t166, .int .u64 x154001_2, .bool a0_2]) ?_ 1 _ rfl; (with_reducible repeat (first | refine blk_drewN ?_ _ | refine blk_drew ?_ | refine blk_alloc ?_ _)); refine blk_put (cs := #[.int .u64 x154000_2, .int .u64 x154001_2, .bool a0_2]) ?_ 0 _ rfl; (with_reducible repeat (first | refine blk_drewN ?_ _ | refine blk_drew ?_ | refine blk_alloc ?_ _)); exact BK153.out⟩, ⟨by (with_reducible repeat (first | refine blk_drewN ?_ _ | refine blk_drew ?_ | refine blk_alloc ?_ _)); refine blk_far ?_ NB154_153.out _; (with_reducible repeat (first | refine blk_drewN ?_ _ | refine blk_drew ?_ | refine blk_alloc ?_ _)); refine blk_far ?_ NB154_153.out _; (with_reducible repeat (first | refine blk_drewN ?_ _ | refine blk_drew ?_ | refine blk_alloc ?_ _)); exact BK154.out⟩, ⟨by repeat (first | (with_reducible first | exact HB.out | apply below_alloc | apply pw_below_drewN | apply below_drew1 | refine below_set ?_ GE153.out | refine below_set ?_ GE154.out | refine below_set ?_ GE162.out) | exact HB.out)⟩⟩
                  · rw [if_neg c43] at H
                    exact absurd H (by simp)
              · rw [if_neg c27] at H
                have c27b0 : decide (0 ≤ x9_2) = false := decide_eq_false c27
                clear c27
                simp only [Option.some.injEq, Prod.mk.injEq] at H
                obtain ⟨rfl, rfl⟩ := H
                go_wp2
                go_ret2
                exact ⟨by first | rfl | (simp [errW_none, errW_some] <;> rfl) | (simp [*, errW_none, errW_some] <;> rfl), by repeat (first | (with_reducible first | exact HB.out | apply below_alloc | apply pw_below_drewN | apply below_drew1 | refine below_set ?_ GE153.out | refine below_set ?_ GE154.out) | exact HB.out)⟩

end Go.Proofs.YthkjmhngmpdngaaGreat.PRat
