/- Texts of the proof in one file (own work): Ud, AmFrame, AmKeys, AmSortG. -/
import Derived.Test.YtcbholgcbjddjaaM7
import Derived.Test.YtcbholgcbjddjaaM3
import Derived.Shelf.SlIterI.Sorted
import Derived.WalkKit
import Derived.OwnWalkIn
import Derived.TacticsInMore
import Derived.RegionIn
import Derived.LoopNIn
import Derived.LoopIn
import Derived.Shelf.AbstractIn
import Derived.Test.YtcbholgcbjddjaaM5
import Derived.Test.YtcbholgcbjddjaaM2
import Derived.Shelf.SlSortCmp.NoneTotal
/- law17's ShareSums: its first loop (own work). -/
namespace Go.Proofs.Ytcbholgcbjddjaa.sy
open Go.AM Go.AM.Jb
set_option linter.unusedSimpArgs false
set_option linter.unusedVariables false
variable {G : List Nat → Option (List AV)} {base : Nat} {w0 : World}
set_option maxRecDepth 100000
set_option maxHeartbeats 8000000
theorem asl_one {H : AHeap} {b n j : Nat} (h : j < n) : aslice (kn G base w0).c H 22 (.slice (.own b) 11 0 n) (some (.int .i64 (j : Nat))) (some (.int .i64 ((j + 1 : Nat) : Int))) none = some (.slice (.own b) 11 j 1, H) := by
  have hs : szOf (kn G base w0).c.P 26 = some 11 := sz26
  have ht : (kn G base w0).c.P.underlying 22 = some (.slice 26) := Try.underlying22
  simp only [aslice, ht, hs, Option.bind_some, abound, ne_eq, not_true, if_false, Int.toNat_natCast]
  rw [if_pos (by omega), if_pos (by omega)]
  simp only [Option.bind_some]
  rw [if_pos ⟨by omega, .inl (by omega)⟩]
  by_cases h0 : j = 0
  · subst h0; simp
  · rw [if_neg h0, if_pos (by omega)]; simp
theorem shareSums_walk {srt : List Tk → List Tk} (hS : SortSpec (kn G base w0) srt) {v : AV} {l : List Tk} (hv : Tks G base w0 v l) (c s : Nat) (hc : c < 256) (hs : s < 256) : ∃ r H', Pt (kn G base w0) 3 [v, .int .u8 c, .int .u8 s] [] r H' ∧ r = .bool true := by
  refine Pt.fn (n := 157) (rs := [.tmp 6]) Try.func3 (b := _) rfl rfl rfl (by decide) ?_
  simp only [numbered]
  have p6 := fun H => awake_p (G := G) (base := base) (w0 := w0) (H := H) hS
  have e0 := fun H => (hv.out H).len (c := (kn G base w0).c) Try.underlying22
  have rc : abin (kn G base w0).c .rem 3 (.int .i64 c) (.int .i64 6) = some (.int .i64 ((c % 6 : Nat) : Int)) := remI c 6 (by omega) 3
  have rs : abin (kn G base w0).c .rem 3 (.int .i64 s) (.int .i64 30) = some (.int .i64 ((s % 30 : Nat) : Int)) := remI s 30 (by omega) 3
  have hc6 : c % 6 < 6 := Nat.mod_lt _ (by omega)
  have hs30 : s % 30 < 30 := Nat.mod_lt _ (by omega)
  generalize c % 6 = k0 at *
  generalize s % 30 = n0 at *
  by_cases hl : l.length ≤ 30
  rotate_left
  · refine D.sq (D.ks (.e [(6, AV.bool false)] []) (by kernel_rfl) (D.sq (D.sq (D.ks (.c (@p6 []) <| .a <| .e [(21, AV.bool false)] []) (by kernel_rfl) (D.cf (by kernel_rfl) (D.skip (Ks_n' (D.sq (D.ks (.n (@wrap_to ((↑c : Int)) ((↑c : Int)) (by omega) (by omega) (by omega)) <| .v rc <| .n (@wrap_to (1 + (↑k0 : Int)) ((↑(1 + k0) : Int)) (by omega) (by omega) (by omega)) <| .n (@wrap_to ((↑s : Int)) ((↑s : Int)) (by omega) (by omega) (by omega)) <| .v rs <| .n (@wrap_to (1 + (↑n0 : Int)) ((↑(1 + n0) : Int)) (by omega) (by omega) (by omega)) <| .e [(8, AV.int IntKind.i64 (↑(1 + n0) : Int)), (7, AV.int IntKind.i64 (↑(1 + k0) : Int))] []) (by kernel_rfl) (D.sq (D.ks (.e [(9, AV.nilslice)] []) (by kernel_rfl) (D.sq (D.ks (.e [(10, AV.nilslice)] []) (by kernel_rfl) (D.sq (D.sq (D.ks (.v (@e0 []) <| .y (show 30 < (↑(List.length l) : Int) by omega) <| .e [(32, AV.bool true)] []) (by kernel_rfl) (D.ct (by kernel_rfl) (D.sq (D.ks (.e [(6, AV.bool true)] []) (by kernel_rfl) (D.ret (Ks_r' (Kf_by (AV.bool true) (.r (AV.bool true)) (by kernel_rfl) ?_))))))))))))))))))))))
    rfl
  refine D.sq (D.ks (.e [(6, AV.bool false)] []) (by kernel_rfl) (D.sq (D.sq (D.ks (.c (@p6 []) <| .a <| .e [(21, AV.bool false)] []) (by kernel_rfl) (D.cf (by kernel_rfl) (D.skip (Ks_n' (D.sq (D.ks (.n (@wrap_to ((↑c : Int)) ((↑c : Int)) (by omega) (by omega) (by omega)) <| .v rc <| .n (@wrap_to (1 + (↑k0 : Int)) ((↑(1 + k0) : Int)) (by omega) (by omega) (by omega)) <| .n (@wrap_to ((↑s : Int)) ((↑s : Int)) (by omega) (by omega) (by omega)) <| .v rs <| .n (@wrap_to (1 + (↑n0 : Int)) ((↑(1 + n0) : Int)) (by omega) (by omega) (by omega)) <| .e [(8, AV.int IntKind.i64 (↑(1 + n0) : Int)), (7, AV.int IntKind.i64 (↑(1 + k0) : Int))] []) (by kernel_rfl) (D.sq (D.ks (.e [(9, AV.nilslice)] []) (by kernel_rfl) (D.sq (D.ks (.e [(10, AV.nilslice)] []) (by kernel_rfl) (D.sq (D.sq (D.ks (.v (@e0 []) <| .o (show ¬ (30 < (↑(List.length l) : Int)) by omega) <| .e [(32, AV.bool false)] []) (by kernel_rfl) (D.cf (by kernel_rfl) (D.skip (Ks_n' (D.sq (D.sq (D.ks (.e [(11, AV.int IntKind.i64 0)] []) (by kernel_rfl) (D.bl ?_)))))))))))))))))))))))
  obtain ⟨k, hk⟩ : ∃ k, k = 1 + k0 := ⟨_, rfl⟩
  obtain ⟨n, hn⟩ : ∃ n, n = 1 + n0 := ⟨_, rfl⟩
  rw [← hk, ← hn]
  have hk6 : k ≤ 6 := by omega
  have hn30 : n ≤ 30 := by omega
  refine D.lp (fun m env H' => ∃ (i : Nat) (u y : AV) (xs : List Tk), m = l.length - i ∧ i ≤ l.length ∧ xs.length ≤ i ∧ Gd k i xs ∧ OwnF H' wR u 29 (xs.map rOf) ∧ OwnF H' wT y 26 xs ∧ (∀ b, u.at? = some b → y.at? = some b → False) ∧ ELe (E 157 [(11, .int .i64 i), (10, y), (9, u), (8, .int .i64 n), (7, .int .i64 k), (6, .bool false), (0, v)]) env) l.length
    ⟨0, .nilslice, .nilslice, [], by omega, by omega, by simp, Gd.nil k, OwnF.nil, OwnF.nil, by simp [AV.at?], by exact E_le (by decide) (E_size _ _) (by simp only [List.forall_mem_cons, List.not_mem_nil, false_implies, implies_true, and_true, List.cons_append, List.nil_append, Nat.zero_add, Nat.reduceAdd, E_get, Nat.reduceEqDiff, Nat.reduceLT, Nat.reduceLeDiff, if_true, if_false, and_self, true_and] <;> first | rfl | exact ⟨rfl, rfl⟩)⟩ ?_
  clear rc rs
  rintro m env H3 ⟨i, u, y, xs, rfl, hi, hxi, hgd, ou, oy, hd, he⟩
  refine D.forget he ?_
  clear he
  by_cases hin : i < l.length
  · have ia := (hv.out H3).ia (t := 22) Try.underlying22 sz26 hin .i64
    have ld : aload (kn G base w0).c H3 26 (ptrF wT v i) = some (.agg (encT l[i])) := (hv.out H3).ldA (c := (kn G base w0).c) hin ag26 sz26
    generalize l[i] = t at *
    obtain ⟨idn, e, p, sp, lv, wt, ac, rl, gt, dn, ct⟩ := t
    simp only [encT] at ld
    have k4 : Keep H3 (hnew H3 (.row 26 11 [.int .i64 i, .int .i64 e, .int .i64 p, .bool sp, .bool lv, .bool wt, .bool true, .int .i64 rl, .int .i64 gt, .bool dn, .int .i64 ct])) (fun _ => False) := Keep.new _ _
    have ou4 := ou.keep fun b hb => k4.2 b (ou.lt hb) id
    have oy4 := oy.keep fun b hb => k4.2 b (oy.lt hb) id
    by_cases hp : p ≤ 24
    rotate_left
    · refine D.sq (D.sq (D.ks (.v (@e0 H3) <| .y (show (↑i : Int) < (↑(List.length l) : Int) by omega) <| .e [(36, AV.bool true)] H3) (by kernel_rfl) (D.ct (by kernel_rfl) (D.skip (Ks_n' (D.sq (D.bl (D.sq (D.ks (.v ia <| .v ld <| .h (st_top (H := H3) (t := 26) (e := 11) (cs := [AV.int IntKind.i64 0, AV.int IntKind.i64 0, AV.int IntKind.i64 0, AV.bool false, AV.bool false, AV.bool false, AV.bool false, AV.int IntKind.i64 0, AV.int IntKind.i64 0, AV.bool false, AV.int IntKind.i64 0]) (off := 0) (vs := [AV.int IntKind.i64 idn, AV.int IntKind.i64 e, AV.int IntKind.i64 p, AV.bool sp, AV.bool lv, AV.bool wt, AV.bool ac, AV.int IntKind.i64 rl, AV.int IntKind.i64 gt, AV.bool dn, AV.int IntKind.i64 ct]) (cs' := [AV.int IntKind.i64 idn, AV.int IntKind.i64 e, AV.int IntKind.i64 p, AV.bool sp, AV.bool lv, AV.bool wt, AV.bool ac, AV.int IntKind.i64 rl, AV.int IntKind.i64 gt, AV.bool dn, AV.int IntKind.i64 ct]) rfl rfl rfl) <| .e [(12, AV.ptr (Loc.own (List.length H3)) 0)] (hnew H3 (AObj.row 26 11 [AV.int IntKind.i64 idn, AV.int IntKind.i64 e, AV.int IntKind.i64 p, AV.bool sp, AV.bool lv, AV.bool wt, AV.bool ac, AV.int IntKind.i64 rl, AV.int IntKind.i64 gt, AV.bool dn, AV.int IntKind.i64 ct]))) (by kernel_rfl) (D.sq (D.ks (.a <| .h (st_top (H := H3) (t := 26) (e := 11) (cs := [AV.int IntKind.i64 idn, AV.int IntKind.i64 e, AV.int IntKind.i64 p, AV.bool sp, AV.bool lv, AV.bool wt, AV.bool ac, AV.int IntKind.i64 rl, AV.int IntKind.i64 gt, AV.bool dn, AV.int IntKind.i64 ct]) (off := 0) (vs := [AV.int IntKind.i64 (↑i : Int)]) (cs' := [AV.int IntKind.i64 (↑i : Int), AV.int IntKind.i64 e, AV.int IntKind.i64 p, AV.bool sp, AV.bool lv, AV.bool wt, AV.bool ac, AV.int IntKind.i64 rl, AV.int IntKind.i64 gt, AV.bool dn, AV.int IntKind.i64 ct]) rfl rfl rfl) <| .a <| .h (st_top (H := H3) (t := 26) (e := 11) (cs := [AV.int IntKind.i64 (↑i : Int), AV.int IntKind.i64 e, AV.int IntKind.i64 p, AV.bool sp, AV.bool lv, AV.bool wt, AV.bool ac, AV.int IntKind.i64 rl, AV.int IntKind.i64 gt, AV.bool dn, AV.int IntKind.i64 ct]) (off := 6) (vs := [AV.bool true]) (cs' := [AV.int IntKind.i64 (↑i : Int), AV.int IntKind.i64 e, AV.int IntKind.i64 p, AV.bool sp, AV.bool lv, AV.bool wt, AV.bool true, AV.int IntKind.i64 rl, AV.int IntKind.i64 gt, AV.bool dn, AV.int IntKind.i64 ct]) rfl rfl rfl) <| .e [] (hnew H3 (AObj.row 26 11 [AV.int IntKind.i64 (↑i : Int), AV.int IntKind.i64 e, AV.int IntKind.i64 p, AV.bool sp, AV.bool lv, AV.bool wt, AV.bool true, AV.int IntKind.i64 rl, AV.int IntKind.i64 gt, AV.bool dn, AV.int IntKind.i64 ct]))) (by kernel_rfl) (D.sq (D.sq (D.ks (.a <| .q (@hat_nn H3 (AObj.row 26 11 [AV.int IntKind.i64 (↑i : Int), AV.int IntKind.i64 e, AV.int IntKind.i64 p, AV.bool sp, AV.bool lv, AV.bool wt, AV.bool true, AV.int IntKind.i64 rl, AV.int IntKind.i64 gt, AV.bool dn, AV.int IntKind.i64 ct])) <| .y (show 24 < p by omega) <| .e [(58, AV.bool true)] (hnew H3 (AObj.row 26 11 [AV.int IntKind.i64 (↑i : Int), AV.int IntKind.i64 e, AV.int IntKind.i64 p, AV.bool sp, AV.bool lv, AV.bool wt, AV.bool true, AV.int IntKind.i64 rl, AV.int IntKind.i64 gt, AV.bool dn, AV.int IntKind.i64 ct]))) (by kernel_rfl) (D.ct (by kernel_rfl) (D.exit (Ks_e' (Kb_e' (Ks_n' (D.kr (.n (@wrap_to ((↑i : Int) + 1) ((↑(i + 1) : Int)) (by omega) (by omega) (by omega)) <| .e [(11, AV.int IntKind.i64 (↑(i + 1) : Int))] (hnew H3 (AObj.row 26 11 [AV.int IntKind.i64 (↑i : Int), AV.int IntKind.i64 e, AV.int IntKind.i64 p, AV.bool sp, AV.bool lv, AV.bool wt, AV.bool true, AV.int IntKind.i64 rl, AV.int IntKind.i64 gt, AV.bool dn, AV.int IntKind.i64 ct]))) (by kernel_rfl) ?_))))))))))))))))))))
      exact ⟨l.length - (i + 1), by omega, i + 1, u, y, xs, (by first | exact rfl | exact True.intro), by omega, by omega, hgd.up, ou4, oy4, hd, by exact E_le (by decide) (E_size _ _) (by simp only [List.forall_mem_cons, List.not_mem_nil, false_implies, implies_true, and_true, List.cons_append, List.nil_append, Nat.zero_add, Nat.reduceAdd, E_get, Nat.reduceEqDiff, Nat.reduceLT, Nat.reduceLeDiff, if_true, if_false, and_self, true_and] <;> first | rfl | exact ⟨rfl, rfl⟩)⟩
    by_cases hm : fmay e p
    rotate_left
    · have p7 := fun H => can_bad_p (G := G) (base := base) (w0 := w0) (H := H) (v := u) k e p hm
      refine D.sq (D.sq (D.ks (.v (@e0 H3) <| .y (show (↑i : Int) < (↑(List.length l) : Int) by omega) <| .e [(36, AV.bool true)] H3) (by kernel_rfl) (D.ct (by kernel_rfl) (D.skip (Ks_n' (D.sq (D.bl (D.sq (D.ks (.v ia <| .v ld <| .h (st_top (H := H3) (t := 26) (e := 11) (cs := [AV.int IntKind.i64 0, AV.int IntKind.i64 0, AV.int IntKind.i64 0, AV.bool false, AV.bool false, AV.bool false, AV.bool false, AV.int IntKind.i64 0, AV.int IntKind.i64 0, AV.bool false, AV.int IntKind.i64 0]) (off := 0) (vs := [AV.int IntKind.i64 idn, AV.int IntKind.i64 e, AV.int IntKind.i64 p, AV.bool sp, AV.bool lv, AV.bool wt, AV.bool ac, AV.int IntKind.i64 rl, AV.int IntKind.i64 gt, AV.bool dn, AV.int IntKind.i64 ct]) (cs' := [AV.int IntKind.i64 idn, AV.int IntKind.i64 e, AV.int IntKind.i64 p, AV.bool sp, AV.bool lv, AV.bool wt, AV.bool ac, AV.int IntKind.i64 rl, AV.int IntKind.i64 gt, AV.bool dn, AV.int IntKind.i64 ct]) rfl rfl rfl) <| .e [(12, AV.ptr (Loc.own (List.length H3)) 0)] (hnew H3 (AObj.row 26 11 [AV.int IntKind.i64 idn, AV.int IntKind.i64 e, AV.int IntKind.i64 p, AV.bool sp, AV.bool lv, AV.bool wt, AV.bool ac, AV.int IntKind.i64 rl, AV.int IntKind.i64 gt, AV.bool dn, AV.int IntKind.i64 ct]))) (by kernel_rfl) (D.sq (D.ks (.a <| .h (st_top (H := H3) (t := 26) (e := 11) (cs := [AV.int IntKind.i64 idn, AV.int IntKind.i64 e, AV.int IntKind.i64 p, AV.bool sp, AV.bool lv, AV.bool wt, AV.bool ac, AV.int IntKind.i64 rl, AV.int IntKind.i64 gt, AV.bool dn, AV.int IntKind.i64 ct]) (off := 0) (vs := [AV.int IntKind.i64 (↑i : Int)]) (cs' := [AV.int IntKind.i64 (↑i : Int), AV.int IntKind.i64 e, AV.int IntKind.i64 p, AV.bool sp, AV.bool lv, AV.bool wt, AV.bool ac, AV.int IntKind.i64 rl, AV.int IntKind.i64 gt, AV.bool dn, AV.int IntKind.i64 ct]) rfl rfl rfl) <| .a <| .h (st_top (H := H3) (t := 26) (e := 11) (cs := [AV.int IntKind.i64 (↑i : Int), AV.int IntKind.i64 e, AV.int IntKind.i64 p, AV.bool sp, AV.bool lv, AV.bool wt, AV.bool ac, AV.int IntKind.i64 rl, AV.int IntKind.i64 gt, AV.bool dn, AV.int IntKind.i64 ct]) (off := 6) (vs := [AV.bool true]) (cs' := [AV.int IntKind.i64 (↑i : Int), AV.int IntKind.i64 e, AV.int IntKind.i64 p, AV.bool sp, AV.bool lv, AV.bool wt, AV.bool true, AV.int IntKind.i64 rl, AV.int IntKind.i64 gt, AV.bool dn, AV.int IntKind.i64 ct]) rfl rfl rfl) <| .e [] (hnew H3 (AObj.row 26 11 [AV.int IntKind.i64 (↑i : Int), AV.int IntKind.i64 e, AV.int IntKind.i64 p, AV.bool sp, AV.bool lv, AV.bool wt, AV.bool true, AV.int IntKind.i64 rl, AV.int IntKind.i64 gt, AV.bool dn, AV.int IntKind.i64 ct]))) (by kernel_rfl) (D.sq (D.sq (D.ks (.a <| .q (@hat_nn H3 (AObj.row 26 11 [AV.int IntKind.i64 (↑i : Int), AV.int IntKind.i64 e, AV.int IntKind.i64 p, AV.bool sp, AV.bool lv, AV.bool wt, AV.bool true, AV.int IntKind.i64 rl, AV.int IntKind.i64 gt, AV.bool dn, AV.int IntKind.i64 ct])) <| .o (show ¬ (24 < p) by omega) <| .a <| .q (@hat_nn H3 (AObj.row 26 11 [AV.int IntKind.i64 (↑i : Int), AV.int IntKind.i64 e, AV.int IntKind.i64 p, AV.bool sp, AV.bool lv, AV.bool wt, AV.bool true, AV.int IntKind.i64 rl, AV.int IntKind.i64 gt, AV.bool dn, AV.int IntKind.i64 ct])) <| .a <| .q (@hat_nn H3 (AObj.row 26 11 [AV.int IntKind.i64 (↑i : Int), AV.int IntKind.i64 e, AV.int IntKind.i64 p, AV.bool sp, AV.bool lv, AV.bool wt, AV.bool true, AV.int IntKind.i64 rl, AV.int IntKind.i64 gt, AV.bool dn, AV.int IntKind.i64 ct])) <| .c (@p7 (hnew H3 (AObj.row 26 11 [AV.int IntKind.i64 (↑i : Int), AV.int IntKind.i64 e, AV.int IntKind.i64 p, AV.bool sp, AV.bool lv, AV.bool wt, AV.bool true, AV.int IntKind.i64 rl, AV.int IntKind.i64 gt, AV.bool dn, AV.int IntKind.i64 ct]))) <| .a <| .e [(58, AV.bool true)] (hnew H3 (AObj.row 26 11 [AV.int IntKind.i64 (↑i : Int), AV.int IntKind.i64 e, AV.int IntKind.i64 p, AV.bool sp, AV.bool lv, AV.bool wt, AV.bool true, AV.int IntKind.i64 rl, AV.int IntKind.i64 gt, AV.bool dn, AV.int IntKind.i64 ct]))) (by kernel_rfl) (D.ct (by kernel_rfl) (D.exit (Ks_e' (Kb_e' (Ks_n' (D.kr (.n (@wrap_to ((↑i : Int) + 1) ((↑(i + 1) : Int)) (by omega) (by omega) (by omega)) <| .e [(11, AV.int IntKind.i64 (↑(i + 1) : Int))] (hnew H3 (AObj.row 26 11 [AV.int IntKind.i64 (↑i : Int), AV.int IntKind.i64 e, AV.int IntKind.i64 p, AV.bool sp, AV.bool lv, AV.bool wt, AV.bool true, AV.int IntKind.i64 rl, AV.int IntKind.i64 gt, AV.bool dn, AV.int IntKind.i64 ct]))) (by kernel_rfl) ?_))))))))))))))))))))
      exact ⟨l.length - (i + 1), by omega, i + 1, u, y, xs, (by first | exact rfl | exact True.intro), by omega, by omega, hgd.up, ou4, oy4, hd, by exact E_le (by decide) (E_size _ _) (by simp only [List.forall_mem_cons, List.not_mem_nil, false_implies, implies_true, and_true, List.cons_append, List.nil_append, Nat.zero_add, Nat.reduceAdd, E_get, Nat.reduceEqDiff, Nat.reduceLT, Nat.reduceLeDiff, if_true, if_false, and_self, true_and] <;> first | rfl | exact ⟨rfl, rfl⟩)⟩
    obtain ⟨m1, m2, m3⟩ := hm
    obtain ⟨E1, rfl⟩ : ∃ E1 : Nat, e = E1 := ⟨e.toNat, by omega⟩
    obtain ⟨P1, rfl⟩ : ∃ P1 : Nat, p = P1 := ⟨p.toNat, by omega⟩
    have p7 := can_p (G := G) (base := base) (w0 := w0) k E1 P1 (by omega) (ou4.sl (c := (kn G base w0).c)) (fun b hb => ou4.lt hb) (by rw [List.length_map]; omega) (fun r hr => by
      obtain ⟨x, hx, rfl⟩ := List.mem_map.1 hr
      obtain ⟨_, ⟨a1, a2, a3⟩, _⟩ := hgd.each x hx
      show 0 < x.p.toNat ∧ x.p.toNat < 1048576 ∧ x.e.toNat ≤ x.p.toNat
      omega) (by omega) (by omega) (by omega)
    by_cases hcan : canF (xs.map rOf) k E1 P1 = 0
    rotate_left
    · refine D.sq (D.sq (D.ks (.v (@e0 H3) <| .y (show (↑i : Int) < (↑(List.length l) : Int) by omega) <| .e [(36, AV.bool true)] H3) (by kernel_rfl) (D.ct (by kernel_rfl) (D.skip (Ks_n' (D.sq (D.bl (D.sq (D.ks (.v ia <| .v ld <| .h (st_top (H := H3) (t := 26) (e := 11) (cs := [AV.int IntKind.i64 0, AV.int IntKind.i64 0, AV.int IntKind.i64 0, AV.bool false, AV.bool false, AV.bool false, AV.bool false, AV.int IntKind.i64 0, AV.int IntKind.i64 0, AV.bool false, AV.int IntKind.i64 0]) (off := 0) (vs := [AV.int IntKind.i64 idn, AV.int IntKind.i64 (↑E1 : Int), AV.int IntKind.i64 (↑P1 : Int), AV.bool sp, AV.bool lv, AV.bool wt, AV.bool ac, AV.int IntKind.i64 rl, AV.int IntKind.i64 gt, AV.bool dn, AV.int IntKind.i64 ct]) (cs' := [AV.int IntKind.i64 idn, AV.int IntKind.i64 (↑E1 : Int), AV.int IntKind.i64 (↑P1 : Int), AV.bool sp, AV.bool lv, AV.bool wt, AV.bool ac, AV.int IntKind.i64 rl, AV.int IntKind.i64 gt, AV.bool dn, AV.int IntKind.i64 ct]) rfl rfl rfl) <| .e [(12, AV.ptr (Loc.own (List.length H3)) 0)] (hnew H3 (AObj.row 26 11 [AV.int IntKind.i64 idn, AV.int IntKind.i64 (↑E1 : Int), AV.int IntKind.i64 (↑P1 : Int), AV.bool sp, AV.bool lv, AV.bool wt, AV.bool ac, AV.int IntKind.i64 rl, AV.int IntKind.i64 gt, AV.bool dn, AV.int IntKind.i64 ct]))) (by kernel_rfl) (D.sq (D.ks (.a <| .h (st_top (H := H3) (t := 26) (e := 11) (cs := [AV.int IntKind.i64 idn, AV.int IntKind.i64 (↑E1 : Int), AV.int IntKind.i64 (↑P1 : Int), AV.bool sp, AV.bool lv, AV.bool wt, AV.bool ac, AV.int IntKind.i64 rl, AV.int IntKind.i64 gt, AV.bool dn, AV.int IntKind.i64 ct]) (off := 0) (vs := [AV.int IntKind.i64 (↑i : Int)]) (cs' := [AV.int IntKind.i64 (↑i : Int), AV.int IntKind.i64 (↑E1 : Int), AV.int IntKind.i64 (↑P1 : Int), AV.bool sp, AV.bool lv, AV.bool wt, AV.bool ac, AV.int IntKind.i64 rl, AV.int IntKind.i64 gt, AV.bool dn, AV.int IntKind.i64 ct]) rfl rfl rfl) <| .a <| .h (st_top (H := H3) (t := 26) (e := 11) (cs := [AV.int IntKind.i64 (↑i : Int), AV.int IntKind.i64 (↑E1 : Int), AV.int IntKind.i64 (↑P1 : Int), AV.bool sp, AV.bool lv, AV.bool wt, AV.bool ac, AV.int IntKind.i64 rl, AV.int IntKind.i64 gt, AV.bool dn, AV.int IntKind.i64 ct]) (off := 6) (vs := [AV.bool true]) (cs' := [AV.int IntKind.i64 (↑i : Int), AV.int IntKind.i64 (↑E1 : Int), AV.int IntKind.i64 (↑P1 : Int), AV.bool sp, AV.bool lv, AV.bool wt, AV.bool true, AV.int IntKind.i64 rl, AV.int IntKind.i64 gt, AV.bool dn, AV.int IntKind.i64 ct]) rfl rfl rfl) <| .e [] (hnew H3 (AObj.row 26 11 [AV.int IntKind.i64 (↑i : Int), AV.int IntKind.i64 (↑E1 : Int), AV.int IntKind.i64 (↑P1 : Int), AV.bool sp, AV.bool lv, AV.bool wt, AV.bool true, AV.int IntKind.i64 rl, AV.int IntKind.i64 gt, AV.bool dn, AV.int IntKind.i64 ct]))) (by kernel_rfl) (D.sq (D.sq (D.ks (.a <| .q (@hat_nn H3 (AObj.row 26 11 [AV.int IntKind.i64 (↑i : Int), AV.int IntKind.i64 (↑E1 : Int), AV.int IntKind.i64 (↑P1 : Int), AV.bool sp, AV.bool lv, AV.bool wt, AV.bool true, AV.int IntKind.i64 rl, AV.int IntKind.i64 gt, AV.bool dn, AV.int IntKind.i64 ct])) <| .o (show ¬ (24 < (↑P1 : Int)) by omega) <| .a <| .q (@hat_nn H3 (AObj.row 26 11 [AV.int IntKind.i64 (↑i : Int), AV.int IntKind.i64 (↑E1 : Int), AV.int IntKind.i64 (↑P1 : Int), AV.bool sp, AV.bool lv, AV.bool wt, AV.bool true, AV.int IntKind.i64 rl, AV.int IntKind.i64 gt, AV.bool dn, AV.int IntKind.i64 ct])) <| .a <| .q (@hat_nn H3 (AObj.row 26 11 [AV.int IntKind.i64 (↑i : Int), AV.int IntKind.i64 (↑E1 : Int), AV.int IntKind.i64 (↑P1 : Int), AV.bool sp, AV.bool lv, AV.bool wt, AV.bool true, AV.int IntKind.i64 rl, AV.int IntKind.i64 gt, AV.bool dn, AV.int IntKind.i64 ct])) <| .c p7 <| .y (show ¬ ((↑(canF (List.map rOf xs) k E1 P1) : Int) = 0) by omega) <| .e [(58, AV.bool true)] (hnew H3 (AObj.row 26 11 [AV.int IntKind.i64 (↑i : Int), AV.int IntKind.i64 (↑E1 : Int), AV.int IntKind.i64 (↑P1 : Int), AV.bool sp, AV.bool lv, AV.bool wt, AV.bool true, AV.int IntKind.i64 rl, AV.int IntKind.i64 gt, AV.bool dn, AV.int IntKind.i64 ct]))) (by kernel_rfl) (D.ct (by kernel_rfl) (D.exit (Ks_e' (Kb_e' (Ks_n' (D.kr (.n (@wrap_to ((↑i : Int) + 1) ((↑(i + 1) : Int)) (by omega) (by omega) (by omega)) <| .e [(11, AV.int IntKind.i64 (↑(i + 1) : Int))] (hnew H3 (AObj.row 26 11 [AV.int IntKind.i64 (↑i : Int), AV.int IntKind.i64 (↑E1 : Int), AV.int IntKind.i64 (↑P1 : Int), AV.bool sp, AV.bool lv, AV.bool wt, AV.bool true, AV.int IntKind.i64 rl, AV.int IntKind.i64 gt, AV.bool dn, AV.int IntKind.i64 ct]))) (by kernel_rfl) ?_))))))))))))))))))))
      exact ⟨l.length - (i + 1), by omega, i + 1, u, y, xs, (by first | exact rfl | exact True.intro), by omega, by omega, hgd.up, ou4, oy4, hd, by exact E_le (by decide) (E_size _ _) (by simp only [List.forall_mem_cons, List.not_mem_nil, false_implies, implies_true, and_true, List.cons_append, List.nil_append, Nat.zero_add, Nat.reduceAdd, E_get, Nat.reduceEqDiff, Nat.reduceLT, Nat.reduceLeDiff, if_true, if_false, and_self, true_and] <;> first | rfl | exact ⟨rfl, rfl⟩)⟩
    have hgd' := hgd.step (t := ⟨i, E1, P1, sp, lv, wt, true, rl, gt, dn, ct⟩) rfl rfl ⟨m1, m2, m3⟩ hp (by simpa using hcan)
    rw [hcan] at p7
    clear hgd hcan hS hv
    obtain ⟨K4, hK4⟩ : ∃ K : AHeap, K = hnew H3 (.row 26 11 [.int .i64 i, .int .i64 E1, .int .i64 P1, .bool sp, .bool lv, .bool wt, .bool true, .int .i64 rl, .int .i64 gt, .bool dn, .int .i64 ct]) := ⟨_, rfl⟩
    have hb4 : hat K4 H3.length = some (.row 26 11 [.int .i64 i, .int .i64 E1, .int .i64 P1, .bool sp, .bool lv, .bool wt, .bool true, .int .i64 rl, .int .i64 gt, .bool dn, .int .i64 ct]) := by rw [hK4]; exact hat_nn _
    have hl4 : K4.length = H3.length + 1 := by rw [hK4, len_new]
    have hu3 : ∀ b, u.at? = some b → b < H3.length := fun b hb => ou.lt hb
    have hy3 : ∀ b, y.at? = some b → b < H3.length := fun b hb => oy.lt hb
    rw [← hK4] at ou4 oy4
    have k5 : Keep K4 (hnew K4 (.row 29 3 [.int .i64 i, .int .i64 E1, .int .i64 P1])) (fun _ => False) := Keep.new _ _
    obtain ⟨u', K5, f1, o1, k6, a1, l1⟩ := (ou4.keep fun b hb => k5.2 b (ou4.lt hb) id).app (c := (kn G base w0).c) (t := 24) Try.underlying24 in29 zc29 rfl (by decide) (SlF.single (H := K4) (w := wR) (x := ⟨i, E1, P1⟩) (e := 29)) (by simp) (by simp; omega)
    replace f1 : aappend (kn G base w0).c (hnew K4 (.row 29 3 [.int .i64 i, .int .i64 E1, .int .i64 P1])) 24 u (.slice (.own K4.length) 3 0 1) = some (u', K5) := f1
    have hb5 : hat K5 H3.length = some (.row 26 11 [.int .i64 i, .int .i64 E1, .int .i64 P1, .bool sp, .bool lv, .bool wt, .bool true, .int .i64 rl, .int .i64 gt, .bool dn, .int .i64 ct]) := by
      rw [k6.2 H3.length (by rw [len_new]; omega) (fun h => by have := hu3 _ h; omega), k5.2 H3.length (by omega) id]; exact hb4
    have oy5 := oy4.keep (H' := K5) fun b hb => by
      have := hy3 b hb
      rw [k6.2 b (by rw [len_new]; omega) (fun h => hd b h hb), k5.2 b (by omega) id]
    have k7 : Keep K5 (hnew K5 (.row 26 11 [.int .i64 i, .int .i64 E1, .int .i64 P1, .bool sp, .bool lv, .bool wt, .bool true, .int .i64 rl, .int .i64 gt, .bool dn, .int .i64 ct])) (fun _ => False) := Keep.new _ _
    obtain ⟨y', K6, f2, o2, k8, a2, l2⟩ := (oy5.keep fun b hb => k7.2 b (oy5.lt hb) id).app (c := (kn G base w0).c) (t := 22) Try.underlying22 in26 zc26 rfl (by decide) (SlF.single (H := K5) (w := wT) (x := ⟨i, E1, P1, sp, lv, wt, true, rl, gt, dn, ct⟩) (e := 26)) (by simp) (by simp; omega)
    replace f2 : aappend (kn G base w0).c (hnew K5 (.row 26 11 [.int .i64 i, .int .i64 E1, .int .i64 P1, .bool sp, .bool lv, .bool wt, .bool true, .int .i64 rl, .int .i64 gt, .bool dn, .int .i64 ct])) 22 y (.slice (.own K5.length) 11 0 1) = some (y', K6) := f2
    have ou6 := o1.keep (H' := K6) fun b hb => by
      rw [k8.2 b (by rw [len_new]; have := o1.lt hb; omega) (fun h => by
        have := hy3 _ h
        rw [a1, len_new] at hb
        have := Option.some.inj hb
        omega), k7.2 b (o1.lt hb) id]
    have hd6 : ∀ b, u'.at? = some b → y'.at? = some b → False := fun b h1 h2 => by
      have := o1.lt h1
      rw [a2, len_new] at h2
      have := Option.some.inj h2
      omega
    rw [hK4] at f1
    clear k4 k5 k6 k7 k8 a1 a2 l1 l2 o1 oy5 ou4 oy4 hb4 ou oy
    have hx1 : (xs ++ [(⟨i, E1, P1, sp, lv, wt, true, rl, gt, dn, ct⟩ : Tk)]).length ≤ i + 1 := by simp; omega
    refine D.sq (D.sq (D.ks (.v (@e0 H3) <| .y (show (↑i : Int) < (↑(List.length l) : Int) by omega) <| .e [(36, AV.bool true)] H3) (by kernel_rfl) (D.ct (by kernel_rfl) (D.skip (Ks_n' (D.sq (D.bl (D.sq (D.ks (.v ia <| .v ld <| .h (st_top (H := H3) (t := 26) (e := 11) (cs := [AV.int IntKind.i64 0, AV.int IntKind.i64 0, AV.int IntKind.i64 0, AV.bool false, AV.bool false, AV.bool false, AV.bool false, AV.int IntKind.i64 0, AV.int IntKind.i64 0, AV.bool false, AV.int IntKind.i64 0]) (off := 0) (vs := [AV.int IntKind.i64 idn, AV.int IntKind.i64 (↑E1 : Int), AV.int IntKind.i64 (↑P1 : Int), AV.bool sp, AV.bool lv, AV.bool wt, AV.bool ac, AV.int IntKind.i64 rl, AV.int IntKind.i64 gt, AV.bool dn, AV.int IntKind.i64 ct]) (cs' := [AV.int IntKind.i64 idn, AV.int IntKind.i64 (↑E1 : Int), AV.int IntKind.i64 (↑P1 : Int), AV.bool sp, AV.bool lv, AV.bool wt, AV.bool ac, AV.int IntKind.i64 rl, AV.int IntKind.i64 gt, AV.bool dn, AV.int IntKind.i64 ct]) rfl rfl rfl) <| .e [(12, AV.ptr (Loc.own (List.length H3)) 0)] (hnew H3 (AObj.row 26 11 [AV.int IntKind.i64 idn, AV.int IntKind.i64 (↑E1 : Int), AV.int IntKind.i64 (↑P1 : Int), AV.bool sp, AV.bool lv, AV.bool wt, AV.bool ac, AV.int IntKind.i64 rl, AV.int IntKind.i64 gt, AV.bool dn, AV.int IntKind.i64 ct]))) (by kernel_rfl) (D.sq (D.ks (.a <| .h (st_top (H := H3) (t := 26) (e := 11) (cs := [AV.int IntKind.i64 idn, AV.int IntKind.i64 (↑E1 : Int), AV.int IntKind.i64 (↑P1 : Int), AV.bool sp, AV.bool lv, AV.bool wt, AV.bool ac, AV.int IntKind.i64 rl, AV.int IntKind.i64 gt, AV.bool dn, AV.int IntKind.i64 ct]) (off := 0) (vs := [AV.int IntKind.i64 (↑i : Int)]) (cs' := [AV.int IntKind.i64 (↑i : Int), AV.int IntKind.i64 (↑E1 : Int), AV.int IntKind.i64 (↑P1 : Int), AV.bool sp, AV.bool lv, AV.bool wt, AV.bool ac, AV.int IntKind.i64 rl, AV.int IntKind.i64 gt, AV.bool dn, AV.int IntKind.i64 ct]) rfl rfl rfl) <| .a <| .h (st_top (H := H3) (t := 26) (e := 11) (cs := [AV.int IntKind.i64 (↑i : Int), AV.int IntKind.i64 (↑E1 : Int), AV.int IntKind.i64 (↑P1 : Int), AV.bool sp, AV.bool lv, AV.bool wt, AV.bool ac, AV.int IntKind.i64 rl, AV.int IntKind.i64 gt, AV.bool dn, AV.int IntKind.i64 ct]) (off := 6) (vs := [AV.bool true]) (cs' := [AV.int IntKind.i64 (↑i : Int), AV.int IntKind.i64 (↑E1 : Int), AV.int IntKind.i64 (↑P1 : Int), AV.bool sp, AV.bool lv, AV.bool wt, AV.bool true, AV.int IntKind.i64 rl, AV.int IntKind.i64 gt, AV.bool dn, AV.int IntKind.i64 ct]) rfl rfl rfl) <| .e [] (hnew H3 (AObj.row 26 11 [AV.int IntKind.i64 (↑i : Int), AV.int IntKind.i64 (↑E1 : Int), AV.int IntKind.i64 (↑P1 : Int), AV.bool sp, AV.bool lv, AV.bool wt, AV.bool true, AV.int IntKind.i64 rl, AV.int IntKind.i64 gt, AV.bool dn, AV.int IntKind.i64 ct]))) (by kernel_rfl) (D.sq (D.sq (D.ks (.a <| .q (@hat_nn H3 (AObj.row 26 11 [AV.int IntKind.i64 (↑i : Int), AV.int IntKind.i64 (↑E1 : Int), AV.int IntKind.i64 (↑P1 : Int), AV.bool sp, AV.bool lv, AV.bool wt, AV.bool true, AV.int IntKind.i64 rl, AV.int IntKind.i64 gt, AV.bool dn, AV.int IntKind.i64 ct])) <| .o (show ¬ (24 < (↑P1 : Int)) by omega) <| .a <| .q (@hat_nn H3 (AObj.row 26 11 [AV.int IntKind.i64 (↑i : Int), AV.int IntKind.i64 (↑E1 : Int), AV.int IntKind.i64 (↑P1 : Int), AV.bool sp, AV.bool lv, AV.bool wt, AV.bool true, AV.int IntKind.i64 rl, AV.int IntKind.i64 gt, AV.bool dn, AV.int IntKind.i64 ct])) <| .a <| .q (@hat_nn H3 (AObj.row 26 11 [AV.int IntKind.i64 (↑i : Int), AV.int IntKind.i64 (↑E1 : Int), AV.int IntKind.i64 (↑P1 : Int), AV.bool sp, AV.bool lv, AV.bool wt, AV.bool true, AV.int IntKind.i64 rl, AV.int IntKind.i64 gt, AV.bool dn, AV.int IntKind.i64 ct])) <| .c p7 <| .a <| .e [(58, AV.bool false)] (hnew H3 (AObj.row 26 11 [AV.int IntKind.i64 (↑i : Int), AV.int IntKind.i64 (↑E1 : Int), AV.int IntKind.i64 (↑P1 : Int), AV.bool sp, AV.bool lv, AV.bool wt, AV.bool true, AV.int IntKind.i64 rl, AV.int IntKind.i64 gt, AV.bool dn, AV.int IntKind.i64 ct]))) (by kernel_rfl) (D.cf (by kernel_rfl) (D.skip (Ks_n' (D.sq (D.ks (.a <| .q (@hat_nn H3 (AObj.row 26 11 [AV.int IntKind.i64 (↑i : Int), AV.int IntKind.i64 (↑E1 : Int), AV.int IntKind.i64 (↑P1 : Int), AV.bool sp, AV.bool lv, AV.bool wt, AV.bool true, AV.int IntKind.i64 rl, AV.int IntKind.i64 gt, AV.bool dn, AV.int IntKind.i64 ct])) <| .a <| .q (@hat_nn H3 (AObj.row 26 11 [AV.int IntKind.i64 (↑i : Int), AV.int IntKind.i64 (↑E1 : Int), AV.int IntKind.i64 (↑P1 : Int), AV.bool sp, AV.bool lv, AV.bool wt, AV.bool true, AV.int IntKind.i64 rl, AV.int IntKind.i64 gt, AV.bool dn, AV.int IntKind.i64 ct])) <| .vh f1 <| .e [(9, u')] K5) (by kernel_rfl) (D.kr (.q hb5 <| .vh f2 <| .e [(10, y')] K6) (by kernel_rfl) (Kb_n' (Ks_n' (D.kr (.n (@wrap_to ((↑i : Int) + 1) ((↑(i + 1) : Int)) (by omega) (by omega) (by omega)) <| .e [(11, AV.int IntKind.i64 (↑(i + 1) : Int))] K6) (by kernel_rfl) ?_)))))))))))))))))))))))
    exact ⟨l.length - (i + 1), by omega, i + 1, u', y', _, (by first | exact rfl | exact True.intro), by omega, hx1, hgd', by rw [List.map_append]; exact ou6, o2, hd6, by exact E_le (by decide) (E_size _ _) (by simp only [List.forall_mem_cons, List.not_mem_nil, false_implies, implies_true, and_true, List.cons_append, List.nil_append, Nat.zero_add, Nat.reduceAdd, E_get, Nat.reduceEqDiff, Nat.reduceLT, Nat.reduceLeDiff, if_true, if_false, and_self, true_and] <;> first | rfl | exact ⟨rfl, rfl⟩)⟩
  obtain rfl : i = l.length := by omega
  have hxl : xs.length ≤ 1000 := by omega
  have hsx : srt xs = xs := perm_rise (hS.1 xs).2.1 (hS.1 xs).2.2 hgd.rise
  obtain ⟨r1, H4, p9, o1, k1, n1⟩ := rows_all (G := G) (base := base) (w0 := w0) (oy.sl (c := (kn G base w0).c)) (fun b hb => oy.lt hb) hxl
  obtain ⟨_, H5, p8, x1, rfl, ox, k2, _⟩ := all_ok (G := G) (base := base) (w0 := w0) hS o1 hxl n1 7 (7 + n) (by omega) (by omega) (by rw [hsx]; exact hgd.good)
  rw [hsx, show 7 + n - 7 = n by omega] at ox
  replace p8 : Pt (kn G base w0) 8 [r1, .int .i64 7, .int .i64 ((7 + n : Nat) : Int)] H4 (.tuple [x1, .int .i64 0]) H5 := p8
  have hsl : (shs n xs).length = xs.length := hgd.len
  have hq := hgd.small (w := n) hk6 hn30
  have p10 := sum_p (G := G) (base := base) (w0 := w0) (ox.sl (c := (kn G base w0).c)) (fun b hb => ox.lt hb) (by rw [hsl]; exact hxl) hq
  have hsum := hgd.sum (w := n)
  have hsm := hq.2 (shs n xs).length
  rw [List.take_length] at hsm
  have m3 := mulI (G := G) (base := base) (w0 := w0) k n (by have := Nat.mul_le_mul hk6 hn30; omega)
  have hkn : k * n ≤ 180 := Nat.mul_le_mul hk6 hn30
  have hkn2 : n * k = k * n := Nat.mul_comm _ _
  rw [hkn2] at hsum
  clear hkn2
  generalize qsum (shs n xs) = q at *
  have p11 := fun H => fless_p (G := G) (base := base) (w0 := w0) (H := H) (k * n) 1 q.1 q.2 (by omega) (by omega) hsm.1 (by omega)
  have hno : ¬ k * n * q.2 < q.1 * 1 := by rw [Nat.mul_one, Nat.mul_comm]; exact Nat.not_lt.2 hsum
  rw [decide_eq_false hno] at p11
  replace p11 : ∀ H, Pt (kn G base w0) 11 [.agg [.int .i64 ((k * n : Nat) : Int), .int .i64 1], rt q.1 q.2] H (.bool false) H := p11
  have k12 := k1.trans k2
  have oy5 := oy.keep (H' := H5) fun b hb => k12.2 b (oy.lt hb) id
  have e1 := fun {K : AHeap} (h : Keep H5 K (fun _ => False)) => (oy5.keep (H' := K) fun b hb => h.2 b (oy5.lt hb) id).sl (c := (kn G base w0).c) |>.len Try.underlying22
  have e2 := fun {K : AHeap} (h : Keep H5 K (fun _ => False)) => (ox.keep (H' := K) fun b hb => h.2 b (ox.lt hb) id).sl (c := (kn G base w0).c) |>.len Try.underlying30
  have k5 : Keep H5 (hnew H5 (.row 37 2 [.int .i64 q.1, .int .i64 q.2])) (fun _ => False) := Keep.new _ _
  have g1 := e1 k5
  have g2 := e2 k5
  rw [hsl] at g2
  clear hsum hno o1 k1 k2 n1
  refine D.sq (D.sq (D.ks (.v (@e0 H3) <| .o (show ¬ ((↑(List.length l) : Int) < (↑(List.length l) : Int)) by omega) <| .e [(36, AV.bool false)] H3) (by kernel_rfl) (D.cf (by kernel_rfl) (D.exit (Ks_e' (Kl_e' (Kb_e' (Ks_n' (D.sq (D.ks (.c p9 <| .n (@wrap_to (7 + (↑n : Int)) ((↑(7 + n) : Int)) (by omega) (by omega) (by omega)) <| .c p8 <| .e [(14, AV.int IntKind.i64 0), (13, x1)] H5) (by kernel_rfl) (D.sq (D.ks (.c p10 <| .h (st_top (H := H5) (t := 37) (e := 2) (cs := [AV.int IntKind.i64 0, AV.int IntKind.i64 0]) (off := 0) (vs := [AV.int IntKind.i64 (↑(Prod.fst q) : Int), AV.int IntKind.i64 (↑(Prod.snd q) : Int)]) (cs' := [AV.int IntKind.i64 (↑(Prod.fst q) : Int), AV.int IntKind.i64 (↑(Prod.snd q) : Int)]) rfl rfl rfl) <| .e [(16, AV.int IntKind.i64 0), (15, AV.ptr (Loc.own (List.length H5)) 0)] (hnew H5 (AObj.row 37 2 [AV.int IntKind.i64 (↑(Prod.fst q) : Int), AV.int IntKind.i64 (↑(Prod.snd q) : Int)]))) (by kernel_rfl) (D.sq (D.sq (D.ks (.a <| .a <| .v g2 <| .v g1 <| .o (show (↑(List.length xs) : Int) = (↑(List.length xs) : Int) by omega) <| .n (@wrap_to ((↑k : Int) * (↑n : Int)) ((↑(k * n) : Int)) (by omega) (by omega) (by omega)) <| .q (@hat_nn H5 (AObj.row 37 2 [AV.int IntKind.i64 (↑(Prod.fst q) : Int), AV.int IntKind.i64 (↑(Prod.snd q) : Int)])) <| .c (@p11 (hnew H5 (AObj.row 37 2 [AV.int IntKind.i64 (↑(Prod.fst q) : Int), AV.int IntKind.i64 (↑(Prod.snd q) : Int)]))) <| .e [(105, AV.bool false)] (hnew H5 (AObj.row 37 2 [AV.int IntKind.i64 (↑(Prod.fst q) : Int), AV.int IntKind.i64 (↑(Prod.snd q) : Int)]))) (by kernel_rfl) (D.cf (by kernel_rfl) (D.skip (Ks_n' (D.sq (D.sq (D.ks (.e [(17, AV.int IntKind.i64 0)] (hnew H5 (AObj.row 37 2 [AV.int IntKind.i64 (↑(Prod.fst q) : Int), AV.int IntKind.i64 (↑(Prod.snd q) : Int)]))) (by kernel_rfl) (D.bl ?_))))))))))))))))))))))
  have hlx : ∀ {K : AHeap}, Keep H5 K (fun _ => False) → SlF (kn G base w0).c K wSh x1 (shs n xs) := fun h => (ox.keep fun b hb => h.2 b (ox.lt hb) id).sl
  refine D.lp (fun m env H' => ∃ j : Nat, m = xs.length - j ∧ j ≤ xs.length ∧ Keep H5 H' (fun _ => False) ∧ ELe (E 157 [(17, .int .i64 j), (13, x1), (10, y), (8, .int .i64 n), (6, .bool false)]) env) xs.length
    ⟨0, by omega, by omega, k5, by exact E_le (by decide) (E_size _ _) (by simp only [List.forall_mem_cons, List.not_mem_nil, false_implies, implies_true, and_true, List.cons_append, List.nil_append, Nat.zero_add, Nat.reduceAdd, E_get, Nat.reduceEqDiff, Nat.reduceLT, Nat.reduceLeDiff, if_true, if_false, and_self, true_and] <;> first | rfl | exact ⟨rfl, rfl⟩)⟩ ?_
  clear p6 p8 p9 p10 p11 g1 g2 k5 e2 hv
  rintro m env H6 ⟨j, rfl, hj, k6, he⟩
  refine D.forget he ?_
  clear he
  have e6 := e1 k6
  clear e1
  by_cases hjn : j < xs.length
  rotate_left
  · obtain rfl : j = xs.length := by omega
    refine D.sq (D.sq (D.ks (.v e6 <| .o (show ¬ ((↑(List.length xs) : Int) < (↑(List.length xs) : Int)) by omega) <| .e [(109, AV.bool false)] H6) (by kernel_rfl) (D.cf (by kernel_rfl) (D.exit (Ks_e' (Kl_e' (Kb_e' (Ks_n' (D.sq (D.ks (.e [(6, AV.bool true)] H6) (by kernel_rfl) (D.ret (Kf_by (AV.bool true) (.r (AV.bool true)) (by kernel_rfl) ?_))))))))))))
    rfl
  have hx0 : xs ≠ [] := by rintro rfl; simp at hjn
  obtain ⟨b, rfl, hrow⟩ : ∃ b, y = .slice (.own b) 11 0 xs.length ∧ RowF H5 b 26 wT xs := by
    rcases oy5 with ⟨_, h⟩ | ⟨b, h1, h2⟩
    · exact absurd h hx0
    · exact ⟨b, h1, h2⟩
  have hr6 : RowF H6 b 26 wT xs := hrow.keep (k6.2 b hrow.lt id)
  have hpart : SlF (kn G base w0).c H6 wT (.slice (.own b) 11 j 1) [xs[j]] := by
    have h := hr6.part (c := (kn G base w0).c) (a := j) (m := 1) (by omega)
    rw [List.drop_eq_getElem_cons hjn] at h
    exact h
  obtain ⟨r2, H7, p9, o2, k7, n2⟩ := rows_all (G := G) (base := base) (w0 := w0) hpart (fun b' hb' => by
    have hb' := Option.some.inj hb'
    rw [← hb']; exact hr6.lt) (by simp)
  have hone : srt [xs[j]] = [xs[j]] := List.perm_singleton.1 (hS.1 [xs[j]]).2.1
  obtain ⟨hac, ⟨m1, m2, m3⟩, hp24, _⟩ := hgd.each _ (List.getElem_mem hjn)
  have hat := hgd.at (w := n) hjn
  have hjs : j < (shs n xs).length := by rw [hsl]; exact hjn
  obtain ⟨E1, hE1⟩ : ∃ E1 : Nat, xs[j].e = E1 := ⟨xs[j].e.toNat, by omega⟩
  obtain ⟨P1, hP1⟩ : ∃ P1 : Nat, xs[j].p = P1 := ⟨xs[j].p.toNat, by omega⟩
  have hla := lowN_all (e := E1) (p := P1) (by omega) (by omega)
  obtain ⟨b1, b2, b3⟩ := lowN_le (w := n) (e := E1) (p := P1) (by omega) (by omega) (by omega)
  obtain ⟨_, H8, p8, u3, rfl, o3, k8, _⟩ := all_ok (G := G) (base := base) (w0 := w0) hS o2 (by simp) (by simp) 0 P1 (by omega) (by omega) (by
    rw [hone]
    intro i hi
    obtain rfl : i = 0 := by simp at hi; omega
    exact ⟨⟨m1, m2, m3⟩, fun h => absurd h (by omega)⟩)
  have hsh : shs (P1 - 0) [xs[j]] = [⟨xs[j].id, E1, 1, xs[j].dn⟩] := by
    have h1 : shs (P1 - 0) [xs[j]] = [shOf P1 xs[j]] := by simp [shs, hac]
    rw [h1]
    simp only [shOf, hE1, hP1, Int.toNat_natCast, hla]
  rw [hone, hsh] at o3
  replace p8 : Pt (kn G base w0) 8 [r2, .int .i64 0, .int .i64 P1] H7 (.tuple [u3, .int .i64 0]) H8 := p8
  have k68 : Keep H6 H8 (fun _ => False) := k7.trans k8
  have hr8 : RowF H8 b 26 wT xs := hr6.keep (k68.2 b hr6.lt id)
  have hs1 := asl_one (G := G) (base := base) (w0 := w0) (H := H6) (b := b) hjn
  have s6 := OwnF.sl (c := (kn G base w0).c) (.inr ⟨b, rfl, hr6⟩ : OwnF H6 wT (.slice (.own b) wT.W 0 xs.length) 26 xs)
  have s8 := OwnF.sl (c := (kn G base w0).c) (.inr ⟨b, rfl, hr8⟩ : OwnF H8 wT (.slice (.own b) wT.W 0 xs.length) 26 xs)
  have hr7 : RowF H7 b 26 wT xs := hr6.keep (k7.2 b hr6.lt id)
  have s7 := OwnF.sl (c := (kn G base w0).c) (.inr ⟨b, rfl, hr7⟩ : OwnF H7 wT (.slice (.own b) wT.W 0 xs.length) 26 xs)
  have t8 := hlx (k6.trans k68)
  have t3 := o3.sl (c := (kn G base w0).c)
  have i1 : aindexAddr (kn G base w0).c 22 (.slice (.own b) 11 0 xs.length) (.int .i64 j) = some (ptrF wT (.slice (.own b) 11 0 xs.length) j) := s6.ia (t := 22) Try.underlying22 sz26 hjn .i64
  have f1 : afieldAddr (kn G base w0).c 26 (ptrF wT (.slice (.own b) 11 0 xs.length) j) 2 = some (ptrJ wT (.slice (.own b) 11 0 xs.length) j 2) := s6.fa (c := (kn G base w0).c) hjn (s := 26) Try.underlying26 (f := 2) rfl sz3 (by decide)
  have f2 : afieldAddr (kn G base w0).c 26 (ptrF wT (.slice (.own b) 11 0 xs.length) j) 1 = some (ptrJ wT (.slice (.own b) 11 0 xs.length) j 1) := s6.fa (c := (kn G base w0).c) hjn (s := 26) Try.underlying26 (f := 1) rfl sz3 (by decide)
  have l6 : aload (kn G base w0).c H6 3 (ptrJ wT (.slice (.own b) 11 0 xs.length) j 2) = some (.int .i64 xs[j].p) := s6.ld (c := (kn G base w0).c) hjn (j := 2) (by decide) (t := 3) (u := .int .i64 xs[j].p) rfl ag3
  have l7 : aload (kn G base w0).c H7 3 (ptrJ wT (.slice (.own b) 11 0 xs.length) j 2) = some (.int .i64 xs[j].p) := s7.ld (c := (kn G base w0).c) hjn (j := 2) (by decide) (t := 3) (u := .int .i64 xs[j].p) rfl ag3
  have l8 : aload (kn G base w0).c H8 3 (ptrJ wT (.slice (.own b) 11 0 xs.length) j 1) = some (.int .i64 xs[j].e) := s8.ld (c := (kn G base w0).c) hjn (j := 1) (by decide) (t := 3) (u := .int .i64 xs[j].e) rfl ag3
  rw [hP1] at l6 l7
  rw [hE1] at l8
  have i2 : aindexAddr (kn G base w0).c 30 u3 (.int .i64 0) = some (ptrF wSh u3 0) := t3.ia (t := 30) Try.underlying30 sz42 (i := 0) (by simp) .i64
  have f3 : afieldAddr (kn G base w0).c 42 (ptrF wSh u3 0) 1 = some (ptrJ wSh u3 0 1) := t3.fa (c := (kn G base w0).c) (i := 0) (by simp) (s := 42) Try.underlying42 (f := 1) rfl sz37 (by decide)
  have l9 : aload (kn G base w0).c H8 37 (ptrJ wSh u3 0 1) = some (.agg [.int .i64 E1, .int .i64 1]) := t3.ldP (c := (kn G base w0).c) (i := 0) (by simp) (j := 1) (n := 2) (t := 37) ag37 sz37 (by decide)
  have i3 : aindexAddr (kn G base w0).c 30 x1 (.int .i64 j) = some (ptrF wSh x1 j) := t8.ia (t := 30) Try.underlying30 sz42 hjs .i64
  have f4 : afieldAddr (kn G base w0).c 42 (ptrF wSh x1 j) 1 = some (ptrJ wSh x1 j 1) := t8.fa (c := (kn G base w0).c) hjs (s := 42) Try.underlying42 (f := 1) rfl sz37 (by decide)
  have l10 : aload (kn G base w0).c H8 37 (ptrJ wSh x1 j 1) = some (rt (lowN n E1 P1).1 (lowN n E1 P1).2) := by
    have h := t8.ldP (c := (kn G base w0).c) hjs (j := 1) (n := 2) (t := 37) ag37 sz37 (by decide)
    rw [hat] at h
    simp only [shOf, hE1, hP1, Int.toNat_natCast] at h
    exact h
  have e3 : alen (kn G base w0).c H8 30 u3 = some (.int .i64 1) := t3.len (c := (kn G base w0).c) Try.underlying30
  have q37 : abin (kn G base w0).c .neq 37 (.agg [.int .i64 E1, .int .i64 1]) (.agg [.int .i64 E1, .int .i64 1]) = some (.bool false) := by
    have h := neqR (G := G) (base := base) (w0 := w0) E1 1 E1 1
    simp only [beq_self_eq_true, Bool.and_self, Bool.not_true] at h
    exact h
  generalize lowN n E1 P1 = q2 at *
  have b4 := Nat.mul_le_mul (show q2.2 ≤ 24 by omega) hn30
  have p11 : Pt (kn G base w0) 11 [.agg [.int .i64 n, .int .i64 1], rt q2.1 q2.2] H8 (.bool false) H8 := by
    have h := fless_p (G := G) (base := base) (w0 := w0) (H := H8) n 1 q2.1 q2.2 (by omega) (by omega) (by omega) (by omega)
    rw [decide_eq_false (by rw [Nat.mul_one, Nat.mul_comm]; omega)] at h
    exact h
  clear hat hS hpart hrow hgd hq ox oy oy5 hlx hr6 hr7 hr8 s6 s7 s8 t8 t3 o3 o2
  refine D.sq (D.sq (D.ks (.a <| .y (show (↑j : Int) < (↑(List.length xs) : Int) by omega) <| .e [(109, AV.bool true)] H6) (by kernel_rfl) (D.ct (by kernel_rfl) (D.skip (Ks_n' (D.sq (D.bl (D.sq (D.kxs none_ [9, 8] [] (.n (@wrap_to ((↑j : Int) + 1) ((↑(j + 1) : Int)) (by omega) (by omega) (by omega)) <| .vh hs1 <| .c p9 <| .v i1 <| .v f1 <| .v l7 <| .z l6 <| .z (@rfl AV (AV.int IntKind.i64 (↑P1 : Int))) <| .z l6 <| .z (@rfl AV (AV.int IntKind.i64 (↑P1 : Int))) <| .c p8 <| .e [(19, AV.int IntKind.i64 0), (18, u3)] H8) (by kernel_rfl) (D.sq (D.kcs [11] (.a <| .v e3 <| .a <| .v i2 <| .v f3 <| .v l9 <| .v i1 <| .v f2 <| .v l8 <| .v q37 <| .v i3 <| .v f4 <| .v l10 <| .f p11 <| .e [(156, AV.bool false)] H8) (by kernel_rfl) (D.cf (by kernel_rfl) (D.skip (Kb_n' (Ks_n' (D.kr (.n (@wrap_to ((↑j : Int) + 1) ((↑(j + 1) : Int)) (by omega) (by omega) (by omega)) <| .e [(17, AV.int IntKind.i64 (↑(j + 1) : Int))] H8) (by kernel_rfl) ?_))))))))))))))))
  exact ⟨xs.length - (j + 1), by omega, j + 1, (by first | exact rfl | exact True.intro), by omega, k6.trans k68, by exact E_le (by decide) (E_size _ _) (by simp only [List.forall_mem_cons, List.not_mem_nil, false_implies, implies_true, and_true, List.cons_append, List.nil_append, Nat.zero_add, Nat.reduceAdd, E_get, Nat.reduceEqDiff, Nat.reduceLT, Nat.reduceLeDiff, if_true, if_false, and_self, true_and] <;> first | rfl | exact ⟨rfl, rfl⟩)⟩
end Go.Proofs.Ytcbholgcbjddjaa.sy

/-
  A WORLD THAT HAS GROWN (own work): what a contract that leaves alone whatever lay says of the abstract heap.
-/
namespace Go.AM
open Go.RowKit

variable {c : Ctx} {base : Nat} {w0 w w' : World} {ρ : Pl} {H : AHeap}

theorem cell_below {B : Nat} {a b : World} (h : Below B a b) {p : Addr} (hp : p.block < B) : b.cell? p = a.cell? p := World.cell?_of_block (h.block _ hp)

/-- nothing new -/
theorem post_grow (h : Rel c base w0 ρ H w) (hb : Below w.heap.size w w') : Post c base w0 ρ H w ρ H w' := by
  refine ⟨⟨h.below.trans (hb.mono h.size), Nat.le_trans h.size hb.size, ?_, h.inj, ?_, h.glob⟩, Ext.refl _, fun l p e => .inl e, Nat.le_refl _, hb.size, fun k hk _ => hb.block k hk, fun i o p e s r => .inr ⟨i, o, p, e, s, r, rfl⟩⟩
  · intro i o e
    obtain ⟨q, hq, ho, hbs⟩ := h.own i o e
    exact ⟨q, hq, ho.mono (Ext.refl _) (fun s => hb.block _ (rel_lt h e hq s)), hbs⟩
  · intro path cells hG
    obtain ⟨q, hq, hb', hc⟩ := h.ext path cells hG
    refine ⟨q, hq, hb', fun j v hj => ?_⟩
    obtain ⟨x, hx, hv, h1⟩ := hc j v hj
    exact ⟨x, (cell_below hb (World.block_lt_of_cell? w _ hx)).trans hx, hv, h1⟩

/-- one new object -/
theorem post_fresh (h : Rel c base w0 ρ H w) (hf : ρ (.own H.length) = none) (hb : Below w.heap.size w w') (o : AObj) (p : Place) (hp : w.heap.size ≤ p.b) (ho : ObjR (upd ρ (.own H.length) p) p w'.heap o) :
    Post c base w0 ρ H w (upd ρ (.own H.length) p) (hnew H o) w' := by
  have he : Ext ρ (upd ρ (.own H.length) p) := upd_ext hf
  have hlt : ∀ {i o p}, hat H i = some o → ρ (.own i) = some p → o.solid = true → p.b < w.heap.size := fun e r s => rel_lt h e r s
  refine ⟨⟨h.below.trans (hb.mono h.size), Nat.le_trans h.size hb.size, ?_, ?_, ?_, ?_⟩, he, ?_, by simp [hnew], hb.size, fun k hk _ => hb.block k hk, ?_⟩
  · intro i o' e
    rw [hat_new] at e
    split at e
    · rename_i hi; subst hi; cases e
      exact ⟨p, upd_same _ _ _, ho, fun _ => Nat.le_trans h.size hp⟩
    · obtain ⟨q, hq, ho', hbs⟩ := h.own i o' e
      exact ⟨q, he _ _ hq, ho'.mono he (fun s => hb.block _ (hlt e hq s)), hbs⟩
  · intro i j o1 o2 q1 q2 e1 e2 s1 s2 r1 r2 hq
    rw [hat_new] at e1 e2
    split at e1 <;> split at e2
    · omega
    · rename_i hi hj; subst hi
      rw [upd_same] at r1; cases r1
      rw [upd_ne ρ p (by simpa using hj)] at r2
      have := hlt e2 r2 s2; omega
    · rename_i hi hj; subst hj
      rw [upd_same] at r2; cases r2
      rw [upd_ne ρ p (by simpa using hi)] at r1
      have := hlt e1 r1 s1; omega
    · rename_i hi hj
      rw [upd_ne ρ p (by simpa using hi)] at r1
      rw [upd_ne ρ p (by simpa using hj)] at r2
      exact h.inj i j o1 o2 q1 q2 e1 e2 s1 s2 r1 r2 hq
  · intro path cells hG
    obtain ⟨q, hq, hb', hc⟩ := h.ext path cells hG
    refine ⟨q, he _ _ hq, hb', fun j v hj => ?_⟩
    obtain ⟨x, hx, hv, h1⟩ := hc j v hj
    exact ⟨x, (cell_below hb (World.block_lt_of_cell? w _ hx)).trans hx, hv.mono he, h1⟩
  · intro g; obtain ⟨n, hn⟩ := h.glob g; exact ⟨n, he _ _ hn⟩
  · intro l q e
    by_cases hl : l = .own H.length
    · exact .inr ⟨H.length, hl, Nat.le_refl _, by simp [hnew]⟩
    · rw [upd_ne ρ p hl] at e; exact .inl e
  · intro i o' q e s r
    rw [hat_new] at e
    split at e
    · rename_i hi; subst hi; rw [upd_same] at r; cases r; exact .inl hp
    · rename_i hi
      rw [upd_ne ρ p (by simpa using hi)] at r
      exact .inr ⟨i, o', q, e, s, r, rfl⟩

def intsOf : List AV → Option (List Int)
  | [] => some []
  | .int .i64 n :: r => (intsOf r).map fun l => n :: l
  | _ :: _ => none

theorem intsOf_eq : ∀ {l : List AV} {zs : List Int}, intsOf l = some zs → l = zs.map (.int .i64)
  | [], zs, e => by simp [intsOf] at e; subst e; rfl
  | .int .i64 n :: r, zs, e => by
    simp only [intsOf, Option.map_eq_some_iff] at e
    obtain ⟨l, hl, rfl⟩ := e
    rw [intsOf_eq hl]; rfl
  | .int .i8 _ :: _, zs, e => by simp [intsOf] at e
  | .int .i16 _ :: _, zs, e => by simp [intsOf] at e
  | .int .i32 _ :: _, zs, e => by simp [intsOf] at e
  | .int .u8 _ :: _, zs, e => by simp [intsOf] at e
  | .int .u16 _ :: _, zs, e => by simp [intsOf] at e
  | .int .u32 _ :: _, zs, e => by simp [intsOf] at e
  | .int .u64 _ :: _, zs, e => by simp [intsOf] at e
  | .bool _ :: _, zs, e => by simp [intsOf] at e
  | .str _ :: _, zs, e => by simp [intsOf] at e
  | .nilptr :: _, zs, e => by simp [intsOf] at e
  | .ptr _ _ :: _, zs, e => by simp [intsOf] at e
  | .nilslice :: _, zs, e => by simp [intsOf] at e
  | .slice _ _ _ _ :: _, zs, e => by simp [intsOf] at e
  | .odd _ :: _, zs, e => by simp [intsOf] at e
  | .nilmap :: _, zs, e => by simp [intsOf] at e
  | .map _ :: _, zs, e => by simp [intsOf] at e
  | .nilfunc :: _, zs, e => by simp [intsOf] at e
  | .func _ _ _ :: _, zs, e => by simp [intsOf] at e
  | .niliface :: _, zs, e => by simp [intsOf] at e
  | .iface _ _ :: _, zs, e => by simp [intsOf] at e
  | .agg _ :: _, zs, e => by simp [intsOf] at e
  | .tuple _ :: _, zs, e => by simp [intsOf] at e

/-- a new slice of ints, as a contract with 'ownsRow' hands it back -/
theorem post_ints (h : Rel c base w0 ρ H w) (hf : ρ (.own H.length) = none) (hb : Below w.heap.size w w') {v : Value} {e : TypeId} {zs : List Int} (hr : w'.ownsRow w.heap.size e 1 v zs.length (zs.map fun x => Value.int .i64 x)) (hne : zs ≠ []) :
    ∃ ρ', VR ρ' (.slice (fresh H) 1 0 zs.length) v ∧ Post c base w0 ρ H w ρ' (hnew H (.row e 1 (zs.map (AV.int .i64)))) w' := by
  rcases hr.2 with ⟨_, h0⟩ | ⟨g, cap, cur, rfl, hg, hcur, hcap, _, hsz, hval⟩
  · exact absurd (List.length_eq_zero_iff.1 h0) hne
  · refine ⟨upd ρ (.own H.length) ⟨g, 0, cap⟩, ⟨⟨g, 0, cap⟩, upd_same _ _ _, by simpa using hcap, by simp⟩, post_fresh h hf hb _ ⟨g, 0, cap⟩ hg ⟨cur, hcur, by simp [hsz], by simpa using hcap, fun j u hj => ?_⟩⟩
    rw [List.getElem?_map] at hj
    cases hz : zs[j]? with
    | none => rw [hz] at hj; cases hj
    | some z =>
      rw [hz] at hj; cases hj
      refine ⟨.int .i64 z, ?_, rfl, rfl⟩
      have hj' : j < zs.length := (List.getElem?_eq_some_iff.1 hz).1
      have := congrArg (fun l => l[j]?) hval
      simp only [List.getElem?_map, hz, Option.map_some] at this
      rw [List.getElem?_take, if_pos (by omega)] at this
      simpa using this

end Go.AM

/-
  SLICES.SORTED OVER MAPS.KEYS (own work, after the shelf's proofs): the keys of a map of the abstract heap, sorted.
-/
namespace Go.AM
open Go.RowKit Go.Maps Go.Sort Go.Shelf Go.Proofs
section
variable {P : Program} {ρ : Ren}

set_option maxRecDepth 100000 in
set_option maxHeartbeats 1000000 in
theorem keys1_own (L : SlLaysZI.n10 P ρ) {H : Type} (F : Fence) (n : Nat) (h10 : F.fn (ρ.f 10)) (hro : F.round = none) (hn : 1 ≤ n) (l Bm o b nn : Nat) (D0 : DataW H) {R : Value → Option (DataW H × List MemPlace)} (J : List Int → World → Prop)
    (hY : ∀ pre x W, J pre W → pre.length < Maps.size D0 → YieldAt F (n - 1) P l #[encZ x] W fun e W' => e = .returned (.bool true) ∧ J (pre ++ [x]) W' ∧ KeepsWalks W W')
    (W : World) (hJ : AbidesFrom W.heap.size J) (hm : W.cell? ⟨Bm, o, none⟩ = some (.map (some b))) (hown : W.ownsMap P (ρ.t 26) R b nn D0) (h0 : J [] W) :
    CallsIn F n P (ρ.f 10) #[.func (.yield l) #[] #[], .pointer (some ⟨Bm, o, none⟩)] W fun e W' => (∃ v, e = .returned v) ∧ ∃ ss : List Int, ss.Perm (intKeys D0) ∧ J ss W' := by
  have mixed := L.mixed; have t0 := L.t0; have a0 := L.a0; have z0 := L.z0; have v0 := L.v0; have t4 := L.t4; have a4 := L.a4; have z4 := L.z4; have v4 := L.v4; have t23 := L.t23; have a23 := L.a23; have z23 := L.z23; have v23 := L.v23; have t26 := L.t26; have a26 := L.a26; have z26 := L.z26; have v26 := L.v26; have t33 := L.t33; have a33 := L.a33; have z33 := L.z33; have v33 := L.v33
  have u0 := run_underlying L.t0; have u4 := run_underlying L.t4; have u23 := run_underlying L.t23; have u26 := run_underlying L.t26; have u33 := run_underlying L.t33
  obtain ⟨_, _, FG⟩ := L.f10
  refine callsIn_of_wp FG rfl h10 ?_ hro
  simp only [SlBodyZ.n10_ntmps ρ, List.size_toArray, List.length_cons, List.length_nil, Nat.reduceAdd, Nat.reduceSub, Array.replicate_succ, Array.replicate_zero, List.push_toArray, List.append_toArray, List.nil_append, List.cons_append]
  gi_wp2_with (first
    | (gi_at_range; refine wpListIn_range_own _ rfl _ (ρ.t 23) rfl (ρ.t 26) (ρ.t 3) (int_keyed L.t26) L.t23 _ b nn _ rfl hown ?_; intro w0 hrg0 hg0 hs0)
    | gi_in)
  go_frame
  gi_loopw [3] (fun _ wr => ∃ (left : Lit → Bool) (cnt : Nat) (ss : List Int), wr.ranges P (ρ.t 26) R b W.heap.size nn D0 left cnt ∧ ss.length + cnt ≤ Maps.size D0 ∧ CollectedI D0 left ss ∧ J ss wr)
    (fun _ wr => wr.rangeLeft b W.heap.size)
  case atStart =>
    exact ⟨_, _, [], hrg0, by simp, CollectedI.start D0, hJ [] W w0 none h0 hg0 (fun r e => by cases e)⟩
  case round =>
    obtain ⟨left, cnt, ss, hrg, hcs, hC, hJs⟩ := hrel
    gi_wp2_with (first
      | (gi_at_next; refine wpListIn_next_ranges _ rfl _ rfl (ρ.t 26) (int_keyed L.t26) R encZ id (fun key kl hk => by obtain ⟨x, hx, _⟩ := Maps.keyOf_i64 L.t26 hk; exact ⟨x, hx⟩) (fun v _ _ => ⟨v, rfl⟩) b W.heap.size nn _ _ _ rfl hrg ?_ ?_)
      | gi_in)
    · -- NOTHING IS LEFT
      intro hc0 hl0
      gi_wp2
      go_end0
      exact ⟨⟨_, rfl⟩, ss, hC.perm hown (int_keyed L.t26) L.t26 hl0, hJs⟩
    · -- AN ENTRY HAS COME: yield(k)
      intro x c kl yd yp w2 cnt2 hkey hlk hv hat hrg2 hlt hg2 hs2 hen
      obtain ⟨x', ex, rfl, _⟩ := Maps.keyOf_i64 L.t26 hkey
      obtain rfl : x = x' := encZ_inj ex
      have hJ2 : J ss w2 := hJ ss wr w2 (some W.heap.size) hJs hg2 (fun r e => by cases e; exact ⟨Nat.le_refl _, hrg.iter_walk⟩)
      obtain ⟨fn, tmps, assign, body, hy, hR⟩ := hY ss x w2 hJ2 (by omega)
      clear hs2
      gi_wp2
      refine hR.mono ?_
      rintro e W3 ⟨rfl, hJ3, hk3⟩
      gi_wp2
      have hrg3 := hrg2.of_walks hk3
      go_roundw
      case rel => exact ⟨_, cnt2, ss ++ [x], hrg3, by simp; omega, hC.step hlk hat, hJ3⟩
      case measure => rw [hrg3.left_eq, hrg.left_eq]; exact hlt


theorem keys_own (L : SlLaysZI.n10 P ρ) {H : Type} (F : Fence) (n : Nat) (h10 : F.fn (ρ.f 10)) (hro : F.round = none) (hn : 1 ≤ n) (Bm o b nn : Nat) (D0 : DataW H) {R : Value → Option (DataW H × List MemPlace)} (w : World) (hBm : Bm < w.heap.size)
    (hm : w.cell? ⟨Bm, o, none⟩ = some (.map (some b))) (hown : w.ownsMap P (ρ.t 26) R b nn D0) :
    SeqGives F n P (ρ.f 10) #[.pointer (some ⟨Bm, o, none⟩)] encZ (fun ss => ss.Perm (intKeys D0)) (Maps.size D0) w := fun l J W hW hJ hY h0 => by
  have hown' : W.ownsMap P (ρ.t 26) R b nn D0 := by
    have hbl := hown.lt
    obtain ⟨es, clock, hb, Ft, hs, hD⟩ := hown
    exact ⟨es, clock, (hW.block b hbl).trans hb, Ft, hs, hD⟩
  exact keys1_own { L with } F n h10 hro hn l Bm o b nn D0 J hY W hJ ((hW.cell (p := ⟨Bm, o, none⟩) hBm).trans hm) hown' h0


end

/-! sorted -/

def insI (x : Int) : List Int → List Int
  | [] => [x]
  | y :: r => if Int.decLe x y |>.decide then x :: y :: r else y :: insI x r

def isortI : List Int → List Int
  | [] => []
  | x :: r => insI x (isortI r)

theorem insI_perm (x : Int) : ∀ l, (insI x l).Perm (x :: l)
  | [] => .refl _
  | y :: r => by
    simp only [insI]
    split
    · exact .refl _
    · exact ((insI_perm x r).cons y).trans (.swap x y r)

theorem isortI_perm : ∀ l, (isortI l).Perm l
  | [] => .refl _
  | x :: r => (insI_perm x _).trans ((isortI_perm r).cons x)

theorem insI_sorted (x : Int) : ∀ {l : List Int}, l.Pairwise (fun a b => a ≤ b) → (insI x l).Pairwise (fun a b => a ≤ b)
  | [], _ => by simp [insI]
  | y :: r, h => by
    simp only [insI]
    rw [List.pairwise_cons] at h
    split
    · rename_i hxy
      have hxy : x ≤ y := by simpa using hxy
      refine List.pairwise_cons.2 ⟨fun z hz => ?_, List.pairwise_cons.2 h⟩
      rcases List.mem_cons.1 hz with rfl | hz
      · exact hxy
      · exact Int.le_trans hxy (h.1 z hz)
    · rename_i hxy
      have hxy : ¬ x ≤ y := by simpa using hxy
      refine List.pairwise_cons.2 ⟨fun z hz => ?_, insI_sorted x h.2⟩
      rcases List.mem_cons.1 ((insI_perm x r).mem_iff.1 hz) with rfl | hz
      · omega
      · exact h.1 z hz

theorem isortI_sorted : ∀ l : List Int, (isortI l).Pairwise (fun a b => a ≤ b)
  | [] => .nil
  | x :: r => insI_sorted x (isortI_sorted r)

theorem sort_eq {l l' : List Int} (h : l.Perm l') : l.mergeSort (fun x y => decide (x ≤ y)) = isortI l' := by
  refine List.Perm.eq_of_pairwise (le := fun a b => a ≤ b) (fun a b _ _ h1 h2 => by omega) ?_ (isortI_sorted l') (((List.mergeSort_perm l _).trans h).trans (isortI_perm l').symm)
  have := List.pairwise_mergeSort (le := fun x y : Int => decide (x ≤ y)) (fun a b c h1 h2 => by simp only [decide_eq_true_eq] at *; omega) (fun a b => by simp only [Bool.or_eq_true, decide_eq_true_eq]; omega) l
  exact this.imp fun h => by simpa using h

/-! a map of the abstract heap, as the contracts speak of it -/

def nodupI : List Int → Bool
  | [] => true
  | x :: r => !(r.any fun y => x == y) && nodupI r

theorem nodupI_spec : ∀ {l : List Int}, nodupI l = true → l.Nodup
  | [], _ => .nil
  | x :: r, h => by
    simp only [nodupI, Bool.and_eq_true, Bool.not_eq_true', List.any_eq_false] at h
    exact List.nodup_cons.2 ⟨fun hm => by have := h.1 x hm; simp at this, nodupI_spec h.2⟩

def mapOk (es : List (AV × AV × Nat)) (clock : Nat) (zs : List Int) : Bool :=
  Nat.ble zs.length 1000000 && (zs.all (fun z => decide (-9223372036854775808 ≤ z) && decide (z ≤ 9223372036854775807)) && (es.all (fun e => Nat.blt e.2.2 clock) && (nodupI (es.map fun e => (e.2.2 : Int)) && nodupI zs)))

theorem insert_perm {H : Type} (x : Lit × DataW H) : ∀ l, (DataW.insert x l).Perm (x :: l)
  | [] => .refl _
  | y :: r => by
    simp only [DataW.insert]
    split
    · exact .refl _
    · exact ((insert_perm x r).cons y).trans (.swap x y r)

theorem foldr_insert_perm {H : Type} : ∀ l : List (Lit × DataW H), (l.foldr DataW.insert []).Perm l
  | [] => .refl _
  | x :: r => by
    simp only [List.foldr_cons]
    exact (insert_perm x _).trans ((foldr_insert_perm r).cons x)

abbrev anyR : Value → Option (DataW Unit × List MemPlace) := fun _ => some (.lit (.bool true), [])

theorem EntR.keys {ρ : Pl} {es : List (AV × AV × Nat)} {xs : List MapEntry} (h : EntR ρ es xs) : ∀ {zs : List Int}, intsOf (es.map (·.1)) = some zs → xs.map (·.key) = zs.map (Value.int .i64) := by
  induction h with
  | nil => intro zs e; simp [intsOf] at e; subst e; rfl
  | @cons k v n es x y xs hk hv ht ih =>
    intro zs e
    have := intsOf_eq e
    cases zs with
    | nil => simp at this
    | cons z zs =>
      simp only [List.map_cons, List.cons.injEq] at this
      obtain ⟨h1, h2⟩ := this
      subst h1
      simp only [VR] at hk
      subst hk
      simp only [List.map_cons, intsOf, Option.map_eq_some_iff] at e
      obtain ⟨l, hl, e⟩ := e
      simp only [List.cons.injEq, true_and] at e
      subst e
      simp [ih hl]

theorem EntR.births {ρ : Pl} {es : List (AV × AV × Nat)} {xs : List MapEntry} (h : EntR ρ es xs) : xs.map (·.born) = es.map (·.2.2) := by
  induction h with
  | nil => rfl
  | cons _ _ _ ih => simp [ih]

theorem owns_of {P : Program} {k : TypeId} (hk : P.underlying k = some (.int .i64)) {ρ : Pl} {w : World} {b : Nat} {ents : Array MapEntry} {clock : Nat} (hb : w.heap[b]? = some (.map ents clock)) {es : List (AV × AV × Nat)} (hE : EntR ρ es ents.toList)
    {zs : List Int} (hz : intsOf (es.map (·.1)) = some zs) (hck : mapOk es clock zs = true) : ∃ D0 : DataW Unit, w.ownsMap P k anyR b ents.size D0 ∧ (intKeys D0).Perm zs ∧ Maps.size D0 = zs.length := by
  simp only [mapOk, Bool.and_eq_true, Nat.ble_eq] at hck
  obtain ⟨hlen, hrange, hborn, hbn, hzn⟩ := hck
  have hkeys := hE.keys hz
  have hbirths := hE.births
  have hsize : ents.size = zs.length := by
    have := congrArg List.length hkeys
    simpa using this
  have hrd : ∀ x ∈ ents.toList, ∃ z, x.key = .int .i64 z ∧ z ∈ zs ∧ Go.WideElems.rd P k anyR x = some (.int .i64 z, .lit (.bool true)) := by
    intro x hx
    have hm : x.key ∈ ents.toList.map (·.key) := List.mem_map.2 ⟨x, hx, rfl⟩
    rw [hkeys] at hm
    obtain ⟨z, hz1, hz2⟩ := List.mem_map.1 hm
    have hr := List.all_eq_true.1 hrange z hz1
    simp only [Bool.and_eq_true, decide_eq_true_eq] at hr
    refine ⟨z, hz2.symm, hz1, ?_⟩
    have hwf : (Lit.int .i64 z).wf = true := by simp [Lit.wf]; first | exact hr | (constructor <;> omega) | omega
    simp [Go.WideElems.rd, keyOf, hk, mapKey, ← hz2, hwf, anyR]
  refine ⟨.map ((ents.toList.map (Go.WideElems.rg P k anyR)).foldr DataW.insert []), ⟨ents, clock, hb, ⟨by rw [hsize]; simp [maxLen]; omega, ⟨?_, ?_, ?_⟩, fun x hx => ?_⟩, Nat.le_refl _, rfl⟩, ?_, ?_⟩
  · intro x hx
    have hm : x.born ∈ ents.toList.map (·.born) := List.mem_map.2 ⟨x, hx, rfl⟩
    rw [hbirths] at hm
    obtain ⟨e, he1, he2⟩ := List.mem_map.1 hm
    have := List.all_eq_true.1 hborn e he1
    rw [Nat.blt_eq] at this
    omega
  · rw [hbirths]
    have := nodupI_spec hbn
    have h2 : (es.map fun e => (e.2.2 : Int)) = (es.map (·.2.2)).map (fun n : Nat => (n : Int)) := by simp
    rw [h2] at this
    exact (List.pairwise_map.1 this).imp fun h e => h (by rw [e])
  · rw [hkeys]
    have := nodupI_spec hzn
    refine List.Pairwise.map _ (fun a b hab => ?_) this
    intro h; cases h; exact hab rfl
  · obtain ⟨z, _, _, h⟩ := hrd x hx
    exact ⟨_, h⟩
  · have hp := foldr_insert_perm (ents.toList.map (Go.WideElems.rg P k anyR))
    simp only [intKeys]
    refine (hp.map _).trans (.of_eq ?_)
    rw [List.map_map]
    have : ∀ l : List MapEntry, (∀ x ∈ l, ∃ z, x.key = .int .i64 z ∧ z ∈ zs ∧ Go.WideElems.rd P k anyR x = some (.int .i64 z, .lit (.bool true))) → ∀ us : List Int, l.map (·.key) = us.map (Value.int .i64) → l.map ((fun p => Go.intOf p.1) ∘ Go.WideElems.rg P k anyR) = us := by
      intro l
      induction l with
      | nil => intro _ us e; cases us <;> simp_all
      | cons x r ih =>
        intro hl us e
        cases us with
        | nil => simp at e
        | cons u us =>
          simp only [List.map_cons, List.cons.injEq] at e ⊢
          obtain ⟨z, h1, _, h3⟩ := hl x (by simp)
          rw [h1] at e
          obtain ⟨e1, e2⟩ := e
          cases e1
          exact ⟨by simp [Go.WideElems.rg, h3, Go.intOf], ih (fun y hy => hl y (by simp [hy])) us e2⟩
    exact this _ hrd _ hkeys
  · simp only [Maps.size]
    rw [(foldr_insert_perm _).length_eq, List.length_map]
    simpa using hsize

end Go.AM

/-
  SLICES.SORTFUNC OVER A ROW OF STRUCTS OF ONE'S OWN (own work over the shelf's contract), in the words of the walks.
-/
namespace Go.AM
open Go.Sort (grow putRow Holds putCells mapBlock grow_empty pdq SWO flatK size_flatK get_flatK HoldsK putRowK)
open Go.RowKit Go.Shelf
set_option linter.unusedVariables false
set_option linter.unusedSimpArgs false
namespace SortG
theorem put_heap {w : World} {g off : Nat} {cur : Array Value} {e : TypeId} {fr : Nat × Nat} (hg : w.heap[g]? = some (.cells cur e fr)) (n : Nat) (ys : Array Value) (os : Array Obj) :
    (grow (putRow id (Go.Sort.ahead w n) g off ys) os).heap[g]? = some (.cells (putCells id off ys cur) e fr) := by
  obtain ⟨hlt, _⟩ := Array.getElem?_eq_some_iff.1 hg
  unfold grow putRow mapBlock Go.Sort.ahead
  simp only
  rw [Array.getElem?_append_left (by simpa using hlt), Array.getElem?_modify, if_pos rfl, hg]
  rfl
theorem put_other {w : World} {g off k : Nat} (hk : k ≠ g) (hlt : k < w.heap.size) (n : Nat) (ys : Array Value) (os : Array Obj) :
    (grow (putRow id (Go.Sort.ahead w n) g off ys) os).heap[k]? = w.heap[k]? := by
  unfold grow putRow mapBlock Go.Sort.ahead
  simp only
  rw [Array.getElem?_append_left (by simpa using hlt), Array.getElem?_modify, if_neg (fun h => hk h.symm)]
/-- the block of an own row written by the world's own hand, and new blocks behind -/
theorem post_put {c : Ctx} {base : Nat} {w0 w w' : World} {ρ : Pl} {H : AHeap} (h : Rel c base w0 ρ H w) {i : Nat} {o o' : AObj} {p : AM.Place} (e : hat H i = some o) (s : o.solid = true) (s' : o'.solid = true) (r : ρ (.own i) = some p)
    (hos : w'.os = w.os) (htp : w'.tape = w.tape) (hout : w'.output = w.output) (hsz : w.heap.size ≤ w'.heap.size) (hbl : ∀ k, k < w.heap.size → k ≠ p.b → w'.heap[k]? = w.heap[k]?) (ho' : ObjR ρ p w'.heap o') :
    Post c base w0 ρ H w ρ (H.set i (some o')) w' := by
  have hpb := rel_lt h e r s
  let w1 : World := { w' with heap := w'.heap.extract 0 w.heap.size }
  have h1 : ∀ k, k < w.heap.size → w1.heap[k]? = w'.heap[k]? := by
    intro k hk
    show (w'.heap.extract 0 w.heap.size)[k]? = _
    rw [Array.getElem?_extract]
    rw [if_pos (by omega)]
    simp
  have hw1 : w1.heap.size = w.heap.size := by show (w'.heap.extract 0 w.heap.size).size = _; simp; omega
  have ho1 : ObjR ρ p w1.heap o' := ho'.mono (Ext.refl _) (fun _ => h1 p.b hpb)
  have p1 := post_set h e s r (w' := w1) hos htp hout hw1 (fun k hk => by
    by_cases hk2 : k < w.heap.size
    · rw [h1 k hk2]; exact hbl k hk2 hk
    · rw [Array.getElem?_eq_none (by omega), Array.getElem?_eq_none (by omega)]) ho1
  have p2 := post_grow p1.rel (w' := w') ⟨rfl, rfl, rfl, by omega, fun k hk => (h1 k (by omega)).symm⟩
  exact p1.trans p2
/-- a cell that names no block -/
def plain (u : AV) (y : Value) : Prop := ∀ ρ z, VR ρ u z ↔ z = y
/-- the two forms of an element: the machine's cells, the model's -/
structure Twin {α : Type} (w : Wd α) (encV : α → List Value) : Prop where
  len : ∀ x, (encV x).length = w.W
  one : ∀ x, ∀ v ∈ encV x, v.oneCell' = true
  eq : ∀ (x : α) (k : Nat) (u : AV), (w.enc x)[k]? = some u → ∃ y : Value, (encV x)[k]? = some y ∧ plain u y
def Zip : List AV → List Value → Prop
  | [], [] => True
  | u :: us, y :: ys => plain u y ∧ Zip us ys
  | _, _ => False
theorem Zip.facts : ∀ {a : List AV} {b : List Value}, Zip a b → b.length = a.length ∧ ∀ (k : Nat) (u : AV), a[k]? = some u → ∃ y : Value, b[k]? = some y ∧ plain u y
  | [], [], _ => ⟨rfl, fun k u h => by simp at h⟩
  | u :: us, y :: ys, ⟨h, r⟩ => by
    obtain ⟨h1, h2⟩ := Zip.facts r
    refine ⟨by simp [h1], fun k x hx => ?_⟩
    cases k with
    | zero => simp only [List.getElem?_cons_zero, Option.some.injEq] at hx; subst hx; exact ⟨y, rfl, h⟩
    | succ k => simp only [List.getElem?_cons_succ] at hx ⊢; exact h2 k x hx
  | [], _ :: _, h => h.elim
  | _ :: _, [], h => h.elim
theorem Twin.of {α : Type} {w : Wd α} {encV : α → List Value} (h : ∀ x, Zip (w.enc x) (encV x)) (one : ∀ x, ∀ v ∈ encV x, v.oneCell' = true) : Twin w encV :=
  ⟨fun x => (h x).facts.1.trans (w.len x), one, fun x => (h x).facts.2⟩
theorem plain_int (k : IntKind) (n : Int) : plain (.int k n) (.int k n) := fun _ _ => Iff.rfl
theorem plain_bool (b : Bool) : plain (.bool b) (.bool b) := fun _ _ => Iff.rfl
variable {α : Type} [Inhabited α] {κ : Kn} {H : AHeap}
/-- the list, sorted -/
def srt (cf : α → α → Int) (xs : List α) : List α := (pdq (Go.Proofs.ltOf cf) xs.toArray 0 xs.length (Go.Lib.bitLen xs.length) true true).toList
theorem srt_facts (cf : α → α → Int) (hO : SWO (Go.Proofs.ltOf cf)) (xs : List α) : (srt cf xs).length = xs.length ∧ (srt cf xs).Perm xs ∧ (srt cf xs).Pairwise (fun x y => Go.Proofs.ltOf cf y x = false) := by
  have h := Go.Sort.pdq_sorts (Go.Proofs.ltOf cf) hO xs.toArray 0 xs.length (Go.Lib.bitLen xs.length) true true (Nat.zero_le _) (by simp) (Or.inl rfl)
  obtain ⟨⟨h1, h2, h3⟩, h4⟩ := h
  unfold srt
  have hs : (pdq (Go.Proofs.ltOf cf) xs.toArray 0 xs.length (Go.Lib.bitLen xs.length) true true).size = xs.length := by rw [h1]; simp
  refine ⟨by simpa using hs, ?_, ?_⟩
  · have e1 : (pdq (Go.Proofs.ltOf cf) xs.toArray 0 xs.length (Go.Lib.bitLen xs.length) true true).extract 0 xs.length = pdq (Go.Proofs.ltOf cf) xs.toArray 0 xs.length (Go.Lib.bitLen xs.length) true true := by
      clear h3 h4 h1 h2
      revert hs
      generalize pdq (Go.Proofs.ltOf cf) xs.toArray 0 xs.length (Go.Lib.bitLen xs.length) true true = q
      intro hs
      rw [← hs]; simp
    have e2 : xs.toArray.extract 0 xs.length = xs.toArray := by simp
    rw [e1, e2] at h3
    simpa using h3
  · rw [List.pairwise_iff_getElem]
    intro i j hi hj hij
    have hi' : i < xs.length := by rw [← hs]; simpa using hi
    have hj' : j < xs.length := by rw [← hs]; simpa using hj
    have := h4 i j (Nat.zero_le _) hij hj'
    rw [getElem!_pos _ i (by rw [hs]; exact hi'), getElem!_pos _ j (by rw [hs]; exact hj')] at this
    simpa using this
/-- slices.SortFunc, a comparison that may lay blocks -/
theorem pt {P : Program} {rn : Ren} (hP : κ.c.P = P) (L : Go.Proofs.SlLaysF0.n6 P rn) {w : Wd α} {encV : α → List Value} (hT : Twin w encV)
    (aE : ∀ W, (isAgg (rn.t 24)).run P W = .ok true W) (zE : ∀ W, (Go.sizeOf (rn.t 24)).run P W = .ok w.W W)
    (cf : α → α → Int) (hO : SWO (Go.Proofs.ltOf cf)) (g : Nat) (eg : ∀ args W, (callFunc g args).run P W = .ok (.enter g args) W)
    (hc : ∀ x y W, Calls P g #[.agg (encV x).toArray, .agg (encV y).toArray] W fun e w' => e = .returned (.int .i64 (cf x y)) ∧ ∃ q os', w' = grow (W.drewN q) os')
    {b : Nat} {e : TypeId} {xs : List α} (hb : RowF H b e w xs) (hl : xs.length < 4611686018427387904) :
    Pt κ (rn.f 6) [.slice (.own b) w.W 0 xs.length, .func (.func g) [] []] H (.tuple []) (hrow H b e w (srt cf xs)) := by
  intro ρ W ys hr hf hx
  obtain ⟨y, y2, rfl, ⟨p, hp, hcap, rfl⟩, hys⟩ := hx
  obtain ⟨z, z2, rfl, ⟨q1, q2, hq1, hq2, rfl⟩, hzs⟩ := hys
  simp only [VRs] at hzs hq1 hq2
  subst hzs hq1 hq2
  obtain ⟨p', hp', ⟨cs, hcs, hsz, hlen, hcell⟩, hbase⟩ := hr.own b _ hb
  obtain rfl : p = p' := by rw [hp] at hp'; exact Option.some.inj hp'
  have hbw := rel_lt hr hb hp rfl
  have hpos := w.pos
  have hH : HoldsK encV w.W W p.b p.off xs.toArray := by
    unfold HoldsK
    intro j hj
    rw [size_flatK] at hj
    simp only [List.size_toArray] at hj
    have hi : j / w.W < xs.length := Nat.div_lt_of_lt_mul (by rwa [Nat.mul_comm])
    have hm : j % w.W < w.W := Nat.mod_lt _ hpos
    have hd : j / w.W * w.W + j % w.W = j := by rw [Nat.mul_comm]; exact Nat.div_add_mod j w.W
    have hg := w.fl_get hi hm
    rw [hd] at hg
    have hml : j % w.W < (w.enc xs[j / w.W]).length := by rw [w.len]; exact hm
    obtain ⟨u, hu⟩ : ∃ u : AV, (w.enc xs[j / w.W])[j % w.W]? = some u := ⟨_, List.getElem?_eq_getElem hml⟩
    rw [hu] at hg
    obtain ⟨x, hx1, hx2, _⟩ := hcell j u hg
    obtain ⟨v, hv1, hv2⟩ := hT.eq _ _ _ hu
    have := (hv2 ρ x).1 hx2
    subst this
    refine ⟨?_, ?_⟩
    · simp only [World.cell?, hcs, Option.isSome_none, Bool.false_eq_true, if_false, id]
      rw [hx1, get_flatK encV w.W _ j (by simpa using hj)]
      have e1 : xs.toArray[j / w.W]! = xs[j / w.W] := by rw [getElem!_pos xs.toArray (j / w.W) (by simpa using hi)]; simp
      have hm' : j % w.W < (encV xs[j / w.W]).length := by rw [hT.len]; exact hm
      rw [e1, getElem!_pos (encV xs[j / w.W]) (j % w.W) hm']
      rw [List.getElem?_eq_getElem hm'] at hv1
      rw [← hv1]
    · simp only [World.frozen?, hcs]
      simp
  have hcon := Go.Proofs.AnyQ.slices_SortFunc_eq L w.W aE zE encV hT.len hT.one cf hO g #[] p.b p.off p.cap xs.toArray W eg (fun _ _ _ _ x y => hc x y _) hH hbw (by simpa using hl)
  rw [hP]
  simp only [Nat.zero_mul, Nat.add_zero, Nat.sub_zero]
  have hz : xs.toArray.size = xs.length := by simp
  rw [hz] at hcon
  refine Calls.mono hcon ?_
  rintro e' w' ⟨rfl, n, os, rfl⟩
  have hsl := (srt_facts cf hO xs).1
  have hd : pdq (Go.Proofs.ltOf cf) xs.toArray 0 xs.length (Go.Lib.bitLen xs.length) true true = (srt cf xs).toArray := by unfold srt; simp
  rw [hd]
  generalize srt cf xs = s at *
  have hfs : (flatK encV w.W s.toArray).size = xs.length * w.W := by rw [size_flatK]; simp [hsl]
  refine ⟨ρ, _, rfl, ⟨[], rfl, rfl⟩, post_put hr hb rfl rfl hp rfl rfl rfl ?_ (fun k hk hne => put_other hne hk n _ os) ?_⟩
  · unfold Go.Proofs.sortWorldK putRowK grow putRow mapBlock Go.Sort.ahead; simp
  · refine ⟨_, put_heap hcs n _ os, by simpa [putCells] using hsz, by rw [w.fl_len, hsl, ← w.fl_len]; exact hlen, ?_⟩
    intro j u hj
    have hjl : j < s.length * w.W := by
      have := (List.getElem?_eq_some_iff.1 hj).1
      rwa [w.fl_len] at this
    have hi : j / w.W < s.length := Nat.div_lt_of_lt_mul (by rwa [Nat.mul_comm])
    have hm : j % w.W < w.W := Nat.mod_lt _ hpos
    have hdj : j / w.W * w.W + j % w.W = j := by rw [Nat.mul_comm]; exact Nat.div_add_mod j w.W
    have hg := w.fl_get hi hm
    rw [hdj, hj] at hg
    obtain ⟨v, hv1, hv2⟩ := hT.eq _ _ _ hg.symm
    have hjc : p.off + j < cs.size := by
      rw [w.fl_len] at hlen
      rw [hsl] at hjl
      omega
    refine ⟨v, ?_, (hv2 ρ v).2 rfl, ?_⟩
    · simp only [putCells, Array.getElem?_mapIdx, Array.getElem?_eq_getElem hjc, Option.map_some]
      rw [if_pos ⟨by omega, by rw [hfs, ← hsl]; omega⟩, Nat.add_sub_cancel_left]
      simp only [id]
      rw [get_flatK encV w.W _ j (by simpa using hjl)]
      have e1 : s.toArray[j / w.W]! = s[j / w.W] := by rw [getElem!_pos s.toArray (j / w.W) (by simpa using hi)]; simp
      have hm' : j % w.W < (encV s[j / w.W]).length := by rw [hT.len]; exact hm
      rw [e1, getElem!_pos (encV s[j / w.W]) (j % w.W) hm']
      rw [List.getElem?_eq_getElem hm'] at hv1
      exact congrArg some (Option.some.inj hv1)
    · have := List.all_eq_true.1 (w.one s[j / w.W]) u (List.mem_of_getElem? hg.symm)
      exact this
/-- slices.SortFunc of nothing -/
theorem pt_nil {P : Program} {rn : Ren} (hP : κ.c.P = P) (L : Go.Proofs.SlLaysF0.n6 P rn) (g : Nat) :
    Pt κ (rn.f 6) [.nilslice, .func (.func g) [] []] H (.tuple []) H := by
  intro ρ W ys hr hf hx
  obtain ⟨y, y2, rfl, hy, hys⟩ := hx
  obtain ⟨z, z2, rfl, ⟨q1, q2, hq1, hq2, rfl⟩, hzs⟩ := hys
  simp only [VRs] at hzs hq1 hq2
  subst hzs hq1 hq2
  simp only [VR] at hy
  subst hy
  rw [hP]
  refine Calls.mono (Go.Proofs.AnyF.slices_SortFunc_none L none 0 _ W) ?_
  rintro e' w' ⟨rfl, rfl⟩
  exact ⟨ρ, _, rfl, ⟨[], rfl, rfl⟩, Post.refl hr⟩
end SortG
end Go.AM
