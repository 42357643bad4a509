/- Texts of the proof in one file (own work): Rq, Rr, Rs, Ta, Tb, Tc, Td, Te, Tf, Tg, Th, AmArgs, AmArgs4, Ua, Ub, AmFrame, AmKeys, AmSortG. -/
import Derived.Test.YtcbholgcbjddjaaM6
import Derived.Test.YtcbholgcbjddjaaM5
import Derived.Test.YtcbholgcbjddjaaM3
import Derived.Deep.Slices
import Derived.Deep.Fields
import Derived.ChangeShapes
import Derived.WideShapes
import Derived.SizedLaws
import Derived.ChangeSlices
import Derived.Shelf.SlIterI.Sorted
import Derived.WalkKit
import Derived.OwnWalkIn
import Derived.TacticsInMore
import Derived.RegionIn
import Derived.LoopNIn
import Derived.LoopIn
import Derived.Shelf.AbstractIn
import Derived.Test.YtcbholgcbjddjaaM2
import Derived.Shelf.SlSortCmp.NoneTotal
/- share.All over what sorting tells (own work). -/
namespace Go.Proofs.Ytcbholgcbjddjaa.sy
open Go.AM Go.AM.Jb
set_option linter.unusedSimpArgs false
set_option linter.unusedVariables false
variable {G : List Nat → Option (List AV)} {base : Nat} {w0 : World}
set_option maxRecDepth 100000
set_option maxHeartbeats 8000000
variable {H : AHeap}
/-- what sorting has to tell -/
def SortSpec (κ : Kn) (srt : List Tk → List Tk) : Prop :=
  (∀ l, (srt l).length = l.length ∧ (srt l).Perm l ∧ (srt l).Pairwise (fun x y => x.id ≤ y.id)) ∧ ∀ {K : AHeap} {v : AV} {xs : List Tk}, OwnF K wT v 51 xs → xs.length ≤ 1000 →
    ∃ K', Pt κ 17 [v, .func (.func 18) [] []] K (.tuple []) K' ∧ OwnF K' wT v 51 (srt xs) ∧ Keep K K' (fun j => v.at? = some j)
/-- is all well at a place of the sorted tasks? -/
def gdAt (s : List Tk) (i : Nat) (h : i < s.length) : Prop := tmay s[i] ∧ (0 < i → (s[i - 1]'(by omega)).id ≠ s[i].id)
theorem all_bad {srt : List Tk → List Tk} (hS : SortSpec (kn G base w0) srt) {v : AV} {l : List Tk} (ho : OwnF H wT v 51 l) (hl : l.length ≤ 1000) (hn : v ≠ .nilslice → l ≠ []) (a b : Int) {k : Nat} (hk : k < (srt l).length) (hb : ¬ gdAt (srt l) k hk) :
    Pt (kn G base w0) 8 [v, .int .i64 a, .int .i64 b] H (.tuple [.nilslice, .int .i64 2]) H := by
  refine Pt.pure ?_ rfl
  refine Pt.fn (n := 79) (rs := [.tmp 6, .tmp 7]) Try.func8 (b := _) rfl rfl rfl (by decide) ?_
  simp only [numbered]
  obtain ⟨u, K1, p1, o1, k1, u1⟩ := clone_ok (G := G) (base := base) (w0 := w0) ho hl hn
  obtain ⟨K2, p2, o2, k2⟩ := hS.2 o1 hl
  have k3 : Keep H K2 (fun _ => False) := k1.trans' k2 fun j hj e => by have := u1 j e; omega
  have hlen := (hS.1 l).1
  rw [← hlen] at hl
  have e0 := (o2.sl (c := (kn G base w0).c)).len Try.underlying34
  generalize srt l = s at *
  refine D.sq (D.ks (.e [(7, AV.int IntKind.i64 0), (6, AV.nilslice)] H) (by kernel_rfl) (D.sq (D.ks (.c p1 <| .e [(8, u)] K1) (by kernel_rfl) (D.sq (D.ks (.c p2 <| .e [] K2) (by kernel_rfl) (D.sq (D.sq (D.ks (.v e0 <| .e [(22, AV.int IntKind.i64 0), (21, AV.int IntKind.i64 (↑(List.length s) : Int)), (20, u)] K2) (by kernel_rfl) (D.bl ?_)))))))))
  refine D.lp (fun m env H' => ∃ i : Nat, m = s.length - i ∧ i ≤ k ∧ Keep K2 H' (fun _ => False) ∧ ELe (E 79 [(22, .int .i64 i), (21, .int .i64 s.length), (20, u), (8, u), (7, .int .i64 0), (6, .nilslice), (2, .int .i64 b), (1, .int .i64 a)]) env) s.length
    ⟨0, by omega, by omega, Keep.refl _, by exact E_le (by decide) (E_size _ _) (by simp only [List.forall_mem_cons, List.not_mem_nil, false_implies, implies_true, and_true, List.cons_append, List.nil_append, Nat.zero_add, Nat.reduceAdd, E_get, Nat.reduceEqDiff, Nat.reduceLT, Nat.reduceLeDiff, if_true, if_false, and_self, true_and] <;> first | rfl | exact ⟨rfl, rfl⟩)⟩ ?_
  clear p1 p2 o1 k1 k2 ho hn u1
  rintro m env H3 ⟨i, rfl, hi, hk3, he⟩
  refine D.forget he ?_
  clear he
  have hin : i < s.length := by omega
  have k4 : Keep K2 (hnew H3 (.row 51 11 (encT s[i]))) (fun _ => False) := hk3.trans (Keep.new _ _)
  have s3 := (o2.keep fun b hb => hk3.2 b (o2.lt hb) id).sl (c := (kn G base w0).c)
  have s4 := (o2.keep fun b hb => k4.2 b (o2.lt hb) id).sl (c := (kn G base w0).c)
  have ia := s3.ia (t := 34) Try.underlying34 sz51 hin .i64
  have ld : aload (kn G base w0).c H3 51 (ptrF wT u i) = some (.agg (encT s[i])) := s3.ldA (c := (kn G base w0).c) hin ag51 sz51
  have p3 := fun H => may20_p (G := G) (base := base) (w0 := w0) (H := H) s[i]
  have hg : i ≠ k → gdAt s i hin → Keep K2 (hnew H3 (.row 51 11 (encT s[i]))) (fun _ => False) ∧ i + 1 ≤ k := fun h _ => ⟨k4, by omega⟩
  by_cases h1 : tmay s[i]
  rotate_left
  · rw [decide_eq_false h1] at p3
    generalize s[i] = t at *
    simp only [encT] at p3 ld
    refine D.sq (D.ks (.y (show (↑i : Int) < (↑(List.length s) : Int) by omega) <| .e [(23, AV.bool true)] H3) (by kernel_rfl) (D.sq (D.ct (by kernel_rfl) (D.skip (Ks_n' (D.sq (D.bl (D.sq (D.ks (.v ia <| .v ld <| .h (st_top (H := H3) (t := 51) (e := 11) (cs := [AV.int IntKind.i64 0, AV.int IntKind.i64 0, AV.int IntKind.i64 0, AV.bool false, AV.bool false, AV.bool false, AV.bool false, AV.int IntKind.i64 0, AV.int IntKind.i64 0, AV.bool false, AV.int IntKind.i64 0]) (off := 0) (vs := [AV.int IntKind.i64 (Tk.id t), AV.int IntKind.i64 (Tk.e t), AV.int IntKind.i64 (Tk.p t), AV.bool (Tk.sp t), AV.bool (Tk.lv t), AV.bool (Tk.wt t), AV.bool (Tk.ac t), AV.int IntKind.i64 (Tk.rl t), AV.int IntKind.i64 (Tk.gt t), AV.bool (Tk.dn t), AV.int IntKind.i64 (Tk.ct t)]) (cs' := [AV.int IntKind.i64 (Tk.id t), AV.int IntKind.i64 (Tk.e t), AV.int IntKind.i64 (Tk.p t), AV.bool (Tk.sp t), AV.bool (Tk.lv t), AV.bool (Tk.wt t), AV.bool (Tk.ac t), AV.int IntKind.i64 (Tk.rl t), AV.int IntKind.i64 (Tk.gt t), AV.bool (Tk.dn t), AV.int IntKind.i64 (Tk.ct t)]) rfl rfl rfl) <| .e [(9, AV.int IntKind.i64 (↑i : Int)), (10, AV.ptr (Loc.own (List.length H3)) 0)] (hnew H3 (AObj.row 51 11 [AV.int IntKind.i64 (Tk.id t), AV.int IntKind.i64 (Tk.e t), AV.int IntKind.i64 (Tk.p t), AV.bool (Tk.sp t), AV.bool (Tk.lv t), AV.bool (Tk.wt t), AV.bool (Tk.ac t), AV.int IntKind.i64 (Tk.rl t), AV.int IntKind.i64 (Tk.gt t), AV.bool (Tk.dn t), AV.int IntKind.i64 (Tk.ct t)]))) (by kernel_rfl) (D.sq (D.kcs [20] (.q (@hat_nn H3 (AObj.row 51 11 [AV.int IntKind.i64 (Tk.id t), AV.int IntKind.i64 (Tk.e t), AV.int IntKind.i64 (Tk.p t), AV.bool (Tk.sp t), AV.bool (Tk.lv t), AV.bool (Tk.wt t), AV.bool (Tk.ac t), AV.int IntKind.i64 (Tk.rl t), AV.int IntKind.i64 (Tk.gt t), AV.bool (Tk.dn t), AV.int IntKind.i64 (Tk.ct t)])) <| .f (@p3 (hnew H3 (AObj.row 51 11 [AV.int IntKind.i64 (Tk.id t), AV.int IntKind.i64 (Tk.e t), AV.int IntKind.i64 (Tk.p t), AV.bool (Tk.sp t), AV.bool (Tk.lv t), AV.bool (Tk.wt t), AV.bool (Tk.ac t), AV.int IntKind.i64 (Tk.rl t), AV.int IntKind.i64 (Tk.gt t), AV.bool (Tk.dn t), AV.int IntKind.i64 (Tk.ct t)]))) <| .a <| .e [(44, AV.bool true)] (hnew H3 (AObj.row 51 11 [AV.int IntKind.i64 (Tk.id t), AV.int IntKind.i64 (Tk.e t), AV.int IntKind.i64 (Tk.p t), AV.bool (Tk.sp t), AV.bool (Tk.lv t), AV.bool (Tk.wt t), AV.bool (Tk.ac t), AV.int IntKind.i64 (Tk.rl t), AV.int IntKind.i64 (Tk.gt t), AV.bool (Tk.dn t), AV.int IntKind.i64 (Tk.ct t)]))) (by kernel_rfl) (D.ct (by kernel_rfl) (D.sq (D.ks (.e [(7, AV.int IntKind.i64 2), (6, AV.nilslice)] (hnew H3 (AObj.row 51 11 [AV.int IntKind.i64 (Tk.id t), AV.int IntKind.i64 (Tk.e t), AV.int IntKind.i64 (Tk.p t), AV.bool (Tk.sp t), AV.bool (Tk.lv t), AV.bool (Tk.wt t), AV.bool (Tk.ac t), AV.int IntKind.i64 (Tk.rl t), AV.int IntKind.i64 (Tk.gt t), AV.bool (Tk.dn t), AV.int IntKind.i64 (Tk.ct t)]))) (by kernel_rfl) (D.ret (Kb_r' (Ks_r' (Kl_r' (Kb_r' (Ks_r' (Kf_by (AV.tuple [AV.nilslice, AV.int IntKind.i64 2]) (.r (AV.tuple [AV.nilslice, AV.int IntKind.i64 2])) (by kernel_rfl) ?_)))))))))))))))))))))
    exact ⟨rfl, (k3.trans hk3).trans (Keep.new _ _)⟩
  rw [decide_eq_true h1] at p3
  by_cases h0 : i = 0
  · have hik : i ≠ k := by
      rintro rfl
      exact hb ⟨h1, fun h => by omega⟩
    generalize s[i] = t at *
    simp only [encT] at p3 ld
    clear hg
    refine D.sq (D.ks (.y (show (↑i : Int) < (↑(List.length s) : Int) by omega) <| .e [(23, AV.bool true)] H3) (by kernel_rfl) (D.sq (D.ct (by kernel_rfl) (D.skip (Ks_n' (D.sq (D.bl (D.sq (D.ks (.v ia <| .v ld <| .h (st_top (H := H3) (t := 51) (e := 11) (cs := [AV.int IntKind.i64 0, AV.int IntKind.i64 0, AV.int IntKind.i64 0, AV.bool false, AV.bool false, AV.bool false, AV.bool false, AV.int IntKind.i64 0, AV.int IntKind.i64 0, AV.bool false, AV.int IntKind.i64 0]) (off := 0) (vs := [AV.int IntKind.i64 (Tk.id t), AV.int IntKind.i64 (Tk.e t), AV.int IntKind.i64 (Tk.p t), AV.bool (Tk.sp t), AV.bool (Tk.lv t), AV.bool (Tk.wt t), AV.bool (Tk.ac t), AV.int IntKind.i64 (Tk.rl t), AV.int IntKind.i64 (Tk.gt t), AV.bool (Tk.dn t), AV.int IntKind.i64 (Tk.ct t)]) (cs' := [AV.int IntKind.i64 (Tk.id t), AV.int IntKind.i64 (Tk.e t), AV.int IntKind.i64 (Tk.p t), AV.bool (Tk.sp t), AV.bool (Tk.lv t), AV.bool (Tk.wt t), AV.bool (Tk.ac t), AV.int IntKind.i64 (Tk.rl t), AV.int IntKind.i64 (Tk.gt t), AV.bool (Tk.dn t), AV.int IntKind.i64 (Tk.ct t)]) rfl rfl rfl) <| .e [(9, AV.int IntKind.i64 (↑i : Int)), (10, AV.ptr (Loc.own (List.length H3)) 0)] (hnew H3 (AObj.row 51 11 [AV.int IntKind.i64 (Tk.id t), AV.int IntKind.i64 (Tk.e t), AV.int IntKind.i64 (Tk.p t), AV.bool (Tk.sp t), AV.bool (Tk.lv t), AV.bool (Tk.wt t), AV.bool (Tk.ac t), AV.int IntKind.i64 (Tk.rl t), AV.int IntKind.i64 (Tk.gt t), AV.bool (Tk.dn t), AV.int IntKind.i64 (Tk.ct t)]))) (by kernel_rfl) (D.sq (D.kcs [20] (.q (@hat_nn H3 (AObj.row 51 11 [AV.int IntKind.i64 (Tk.id t), AV.int IntKind.i64 (Tk.e t), AV.int IntKind.i64 (Tk.p t), AV.bool (Tk.sp t), AV.bool (Tk.lv t), AV.bool (Tk.wt t), AV.bool (Tk.ac t), AV.int IntKind.i64 (Tk.rl t), AV.int IntKind.i64 (Tk.gt t), AV.bool (Tk.dn t), AV.int IntKind.i64 (Tk.ct t)])) <| .f (@p3 (hnew H3 (AObj.row 51 11 [AV.int IntKind.i64 (Tk.id t), AV.int IntKind.i64 (Tk.e t), AV.int IntKind.i64 (Tk.p t), AV.bool (Tk.sp t), AV.bool (Tk.lv t), AV.bool (Tk.wt t), AV.bool (Tk.ac t), AV.int IntKind.i64 (Tk.rl t), AV.int IntKind.i64 (Tk.gt t), AV.bool (Tk.dn t), AV.int IntKind.i64 (Tk.ct t)]))) <| .a <| .o (show ¬ (0 < (↑i : Int)) by omega) <| .e [(44, AV.bool false)] (hnew H3 (AObj.row 51 11 [AV.int IntKind.i64 (Tk.id t), AV.int IntKind.i64 (Tk.e t), AV.int IntKind.i64 (Tk.p t), AV.bool (Tk.sp t), AV.bool (Tk.lv t), AV.bool (Tk.wt t), AV.bool (Tk.ac t), AV.int IntKind.i64 (Tk.rl t), AV.int IntKind.i64 (Tk.gt t), AV.bool (Tk.dn t), AV.int IntKind.i64 (Tk.ct t)]))) (by kernel_rfl) (D.cf (by kernel_rfl) (D.skip (Kb_n' (Ks_n' (D.kr (.n (@wrap_to ((↑i : Int) + 1) ((↑(i + 1) : Int)) (by omega) (by omega) (by omega)) <| .e [(22, AV.int IntKind.i64 (↑(i + 1) : Int))] (hnew H3 (AObj.row 51 11 [AV.int IntKind.i64 (Tk.id t), AV.int IntKind.i64 (Tk.e t), AV.int IntKind.i64 (Tk.p t), AV.bool (Tk.sp t), AV.bool (Tk.lv t), AV.bool (Tk.wt t), AV.bool (Tk.ac t), AV.int IntKind.i64 (Tk.rl t), AV.int IntKind.i64 (Tk.gt t), AV.bool (Tk.dn t), AV.int IntKind.i64 (Tk.ct t)]))) (by kernel_rfl) ?_))))))))))))))))
    exact ⟨s.length - (i + 1), by omega, i + 1, (by first | exact rfl | exact True.intro), by omega, k4, by exact E_le (by decide) (E_size _ _) (by simp only [List.forall_mem_cons, List.not_mem_nil, false_implies, implies_true, and_true, List.cons_append, List.nil_append, Nat.zero_add, Nat.reduceAdd, E_get, Nat.reduceEqDiff, Nat.reduceLT, Nat.reduceLeDiff, if_true, if_false, and_self, true_and] <;> first | rfl | exact ⟨rfl, rfl⟩)⟩
  obtain ⟨j, rfl⟩ : ∃ j, i = j + 1 := ⟨i - 1, by omega⟩
  have hjn : j < s.length := by omega
  have ia2 : aindexAddr (kn G base w0).c 34 u (.int .i64 (((j + 1 : Nat) : Int) - 1)) = some (ptrF wT u j) := by
    rw [show ((j + 1 : Nat) : Int) - 1 = (j : Int) by omega]
    exact s4.ia (t := 34) Try.underlying34 sz51 hjn .i64
  have fa2 : afieldAddr (kn G base w0).c 51 (ptrF wT u j) 0 = some (ptrJ wT u j 0) := s4.fa (c := (kn G base w0).c) hjn (s := 51) Try.underlying51 (f := 0) rfl sz3 (by decide)
  have ld2 := s4.ld (c := (kn G base w0).c) hjn (j := 0) (by decide) (t := 3) (u := .int .i64 s[j].id) rfl ag3
  have hg2 : s[j].id ≠ s[j + 1].id → j + 1 ≠ k := by
    rintro h rfl
    exact hb ⟨h1, fun _ => h⟩
  clear hg
  generalize s[j + 1] = t at *
  generalize s[j] = t' at *
  by_cases h2 : t'.id = t.id
  · simp only [encT] at p3 ld ld2 ia2 fa2
    refine D.sq (D.ks (.y (show (↑(j + 1) : Int) < (↑(List.length s) : Int) by omega) <| .e [(23, AV.bool true)] H3) (by kernel_rfl) (D.sq (D.ct (by kernel_rfl) (D.skip (Ks_n' (D.sq (D.bl (D.sq (D.ks (.v ia <| .v ld <| .h (st_top (H := H3) (t := 51) (e := 11) (cs := [AV.int IntKind.i64 0, AV.int IntKind.i64 0, AV.int IntKind.i64 0, AV.bool false, AV.bool false, AV.bool false, AV.bool false, AV.int IntKind.i64 0, AV.int IntKind.i64 0, AV.bool false, AV.int IntKind.i64 0]) (off := 0) (vs := [AV.int IntKind.i64 (Tk.id t), AV.int IntKind.i64 (Tk.e t), AV.int IntKind.i64 (Tk.p t), AV.bool (Tk.sp t), AV.bool (Tk.lv t), AV.bool (Tk.wt t), AV.bool (Tk.ac t), AV.int IntKind.i64 (Tk.rl t), AV.int IntKind.i64 (Tk.gt t), AV.bool (Tk.dn t), AV.int IntKind.i64 (Tk.ct t)]) (cs' := [AV.int IntKind.i64 (Tk.id t), AV.int IntKind.i64 (Tk.e t), AV.int IntKind.i64 (Tk.p t), AV.bool (Tk.sp t), AV.bool (Tk.lv t), AV.bool (Tk.wt t), AV.bool (Tk.ac t), AV.int IntKind.i64 (Tk.rl t), AV.int IntKind.i64 (Tk.gt t), AV.bool (Tk.dn t), AV.int IntKind.i64 (Tk.ct t)]) rfl rfl rfl) <| .e [(9, AV.int IntKind.i64 (↑(j + 1) : Int)), (10, AV.ptr (Loc.own (List.length H3)) 0)] (hnew H3 (AObj.row 51 11 [AV.int IntKind.i64 (Tk.id t), AV.int IntKind.i64 (Tk.e t), AV.int IntKind.i64 (Tk.p t), AV.bool (Tk.sp t), AV.bool (Tk.lv t), AV.bool (Tk.wt t), AV.bool (Tk.ac t), AV.int IntKind.i64 (Tk.rl t), AV.int IntKind.i64 (Tk.gt t), AV.bool (Tk.dn t), AV.int IntKind.i64 (Tk.ct t)]))) (by kernel_rfl) (D.sq (D.kcs [20] (.q (@hat_nn H3 (AObj.row 51 11 [AV.int IntKind.i64 (Tk.id t), AV.int IntKind.i64 (Tk.e t), AV.int IntKind.i64 (Tk.p t), AV.bool (Tk.sp t), AV.bool (Tk.lv t), AV.bool (Tk.wt t), AV.bool (Tk.ac t), AV.int IntKind.i64 (Tk.rl t), AV.int IntKind.i64 (Tk.gt t), AV.bool (Tk.dn t), AV.int IntKind.i64 (Tk.ct t)])) <| .f (@p3 (hnew H3 (AObj.row 51 11 [AV.int IntKind.i64 (Tk.id t), AV.int IntKind.i64 (Tk.e t), AV.int IntKind.i64 (Tk.p t), AV.bool (Tk.sp t), AV.bool (Tk.lv t), AV.bool (Tk.wt t), AV.bool (Tk.ac t), AV.int IntKind.i64 (Tk.rl t), AV.int IntKind.i64 (Tk.gt t), AV.bool (Tk.dn t), AV.int IntKind.i64 (Tk.ct t)]))) <| .a <| .y (show 0 < (↑(j + 1) : Int) by omega) <| .n (@wrap_to ((↑(j + 1) : Int) - 1) ((↑(j + 1) : Int) - 1) (by omega) (by omega) (by omega)) <| .v ia2 <| .v fa2 <| .v ld2 <| .a <| .q (@hat_nn H3 (AObj.row 51 11 [AV.int IntKind.i64 (Tk.id t), AV.int IntKind.i64 (Tk.e t), AV.int IntKind.i64 (Tk.p t), AV.bool (Tk.sp t), AV.bool (Tk.lv t), AV.bool (Tk.wt t), AV.bool (Tk.ac t), AV.int IntKind.i64 (Tk.rl t), AV.int IntKind.i64 (Tk.gt t), AV.bool (Tk.dn t), AV.int IntKind.i64 (Tk.ct t)])) <| .y (show Tk.id t' = Tk.id t by omega) <| .e [(44, AV.bool true)] (hnew H3 (AObj.row 51 11 [AV.int IntKind.i64 (Tk.id t), AV.int IntKind.i64 (Tk.e t), AV.int IntKind.i64 (Tk.p t), AV.bool (Tk.sp t), AV.bool (Tk.lv t), AV.bool (Tk.wt t), AV.bool (Tk.ac t), AV.int IntKind.i64 (Tk.rl t), AV.int IntKind.i64 (Tk.gt t), AV.bool (Tk.dn t), AV.int IntKind.i64 (Tk.ct t)]))) (by kernel_rfl) (D.ct (by kernel_rfl) (D.sq (D.ks (.e [(7, AV.int IntKind.i64 2), (6, AV.nilslice)] (hnew H3 (AObj.row 51 11 [AV.int IntKind.i64 (Tk.id t), AV.int IntKind.i64 (Tk.e t), AV.int IntKind.i64 (Tk.p t), AV.bool (Tk.sp t), AV.bool (Tk.lv t), AV.bool (Tk.wt t), AV.bool (Tk.ac t), AV.int IntKind.i64 (Tk.rl t), AV.int IntKind.i64 (Tk.gt t), AV.bool (Tk.dn t), AV.int IntKind.i64 (Tk.ct t)]))) (by kernel_rfl) (D.ret (Kb_r' (Ks_r' (Kl_r' (Kb_r' (Ks_r' (Kf_by (AV.tuple [AV.nilslice, AV.int IntKind.i64 2]) (.r (AV.tuple [AV.nilslice, AV.int IntKind.i64 2])) (by kernel_rfl) ?_)))))))))))))))))))))
    exact ⟨rfl, (k3.trans hk3).trans (Keep.new _ _)⟩
  · have hik := hg2 h2
    simp only [encT] at p3 ld ld2 ia2 fa2
    refine D.sq (D.ks (.y (show (↑(j + 1) : Int) < (↑(List.length s) : Int) by omega) <| .e [(23, AV.bool true)] H3) (by kernel_rfl) (D.sq (D.ct (by kernel_rfl) (D.skip (Ks_n' (D.sq (D.bl (D.sq (D.ks (.v ia <| .v ld <| .h (st_top (H := H3) (t := 51) (e := 11) (cs := [AV.int IntKind.i64 0, AV.int IntKind.i64 0, AV.int IntKind.i64 0, AV.bool false, AV.bool false, AV.bool false, AV.bool false, AV.int IntKind.i64 0, AV.int IntKind.i64 0, AV.bool false, AV.int IntKind.i64 0]) (off := 0) (vs := [AV.int IntKind.i64 (Tk.id t), AV.int IntKind.i64 (Tk.e t), AV.int IntKind.i64 (Tk.p t), AV.bool (Tk.sp t), AV.bool (Tk.lv t), AV.bool (Tk.wt t), AV.bool (Tk.ac t), AV.int IntKind.i64 (Tk.rl t), AV.int IntKind.i64 (Tk.gt t), AV.bool (Tk.dn t), AV.int IntKind.i64 (Tk.ct t)]) (cs' := [AV.int IntKind.i64 (Tk.id t), AV.int IntKind.i64 (Tk.e t), AV.int IntKind.i64 (Tk.p t), AV.bool (Tk.sp t), AV.bool (Tk.lv t), AV.bool (Tk.wt t), AV.bool (Tk.ac t), AV.int IntKind.i64 (Tk.rl t), AV.int IntKind.i64 (Tk.gt t), AV.bool (Tk.dn t), AV.int IntKind.i64 (Tk.ct t)]) rfl rfl rfl) <| .e [(9, AV.int IntKind.i64 (↑(j + 1) : Int)), (10, AV.ptr (Loc.own (List.length H3)) 0)] (hnew H3 (AObj.row 51 11 [AV.int IntKind.i64 (Tk.id t), AV.int IntKind.i64 (Tk.e t), AV.int IntKind.i64 (Tk.p t), AV.bool (Tk.sp t), AV.bool (Tk.lv t), AV.bool (Tk.wt t), AV.bool (Tk.ac t), AV.int IntKind.i64 (Tk.rl t), AV.int IntKind.i64 (Tk.gt t), AV.bool (Tk.dn t), AV.int IntKind.i64 (Tk.ct t)]))) (by kernel_rfl) (D.sq (D.kcs [20] (.q (@hat_nn H3 (AObj.row 51 11 [AV.int IntKind.i64 (Tk.id t), AV.int IntKind.i64 (Tk.e t), AV.int IntKind.i64 (Tk.p t), AV.bool (Tk.sp t), AV.bool (Tk.lv t), AV.bool (Tk.wt t), AV.bool (Tk.ac t), AV.int IntKind.i64 (Tk.rl t), AV.int IntKind.i64 (Tk.gt t), AV.bool (Tk.dn t), AV.int IntKind.i64 (Tk.ct t)])) <| .f (@p3 (hnew H3 (AObj.row 51 11 [AV.int IntKind.i64 (Tk.id t), AV.int IntKind.i64 (Tk.e t), AV.int IntKind.i64 (Tk.p t), AV.bool (Tk.sp t), AV.bool (Tk.lv t), AV.bool (Tk.wt t), AV.bool (Tk.ac t), AV.int IntKind.i64 (Tk.rl t), AV.int IntKind.i64 (Tk.gt t), AV.bool (Tk.dn t), AV.int IntKind.i64 (Tk.ct t)]))) <| .a <| .y (show 0 < (↑(j + 1) : Int) by omega) <| .n (@wrap_to ((↑(j + 1) : Int) - 1) ((↑(j + 1) : Int) - 1) (by omega) (by omega) (by omega)) <| .v ia2 <| .v fa2 <| .v ld2 <| .a <| .q (@hat_nn H3 (AObj.row 51 11 [AV.int IntKind.i64 (Tk.id t), AV.int IntKind.i64 (Tk.e t), AV.int IntKind.i64 (Tk.p t), AV.bool (Tk.sp t), AV.bool (Tk.lv t), AV.bool (Tk.wt t), AV.bool (Tk.ac t), AV.int IntKind.i64 (Tk.rl t), AV.int IntKind.i64 (Tk.gt t), AV.bool (Tk.dn t), AV.int IntKind.i64 (Tk.ct t)])) <| .o (show ¬ (Tk.id t' = Tk.id t) by omega) <| .e [(44, AV.bool false)] (hnew H3 (AObj.row 51 11 [AV.int IntKind.i64 (Tk.id t), AV.int IntKind.i64 (Tk.e t), AV.int IntKind.i64 (Tk.p t), AV.bool (Tk.sp t), AV.bool (Tk.lv t), AV.bool (Tk.wt t), AV.bool (Tk.ac t), AV.int IntKind.i64 (Tk.rl t), AV.int IntKind.i64 (Tk.gt t), AV.bool (Tk.dn t), AV.int IntKind.i64 (Tk.ct t)]))) (by kernel_rfl) (D.cf (by kernel_rfl) (D.skip (Kb_n' (Ks_n' (D.kr (.n (@wrap_to ((↑(j + 1) : Int) + 1) ((↑(j + 1 + 1) : Int)) (by omega) (by omega) (by omega)) <| .e [(22, AV.int IntKind.i64 (↑(j + 1 + 1) : Int))] (hnew H3 (AObj.row 51 11 [AV.int IntKind.i64 (Tk.id t), AV.int IntKind.i64 (Tk.e t), AV.int IntKind.i64 (Tk.p t), AV.bool (Tk.sp t), AV.bool (Tk.lv t), AV.bool (Tk.wt t), AV.bool (Tk.ac t), AV.int IntKind.i64 (Tk.rl t), AV.int IntKind.i64 (Tk.gt t), AV.bool (Tk.dn t), AV.int IntKind.i64 (Tk.ct t)]))) (by kernel_rfl) ?_))))))))))))))))
    exact ⟨s.length - (j + 1 + 1), by omega, j + 1 + 1, (by first | exact rfl | exact True.intro), by omega, k4, by exact E_le (by decide) (E_size _ _) (by simp only [List.forall_mem_cons, List.not_mem_nil, false_implies, implies_true, and_true, List.cons_append, List.nil_append, Nat.zero_add, Nat.reduceAdd, E_get, Nat.reduceEqDiff, Nat.reduceLT, Nat.reduceLeDiff, if_true, if_false, and_self, true_and] <;> first | rfl | exact ⟨rfl, rfl⟩)⟩
end Go.Proofs.Ytcbholgcbjddjaa.sy

/- share.All over tasks that may be (own work). -/
namespace Go.Proofs.Ytcbholgcbjddjaa.sy
open Go.AM Go.AM.Jb
set_option linter.unusedSimpArgs false
set_option linter.unusedVariables false
variable {G : List Nat → Option (List AV)} {base : Nat} {w0 : World}
set_option maxRecDepth 100000
set_option maxHeartbeats 8000000
variable {H : AHeap}
/-- a task's share of n ticks -/
def lowN (n e p : Nat) : Nat × Nat :=
  (n * (e / Nat.gcd e p) / Nat.gcd (n * (e / Nat.gcd e p)) (p / Nat.gcd e p), (p / Nat.gcd e p) / Nat.gcd (n * (e / Nat.gcd e p)) (p / Nat.gcd e p))
def shOf (n : Nat) (t : Tk) : Sh := ⟨t.id, (lowN n t.e.toNat t.p.toNat).1, (lowN n t.e.toNat t.p.toNat).2, t.dn⟩
def shs (n : Nat) (l : List Tk) : List Sh := (l.filter (·.ac)).map (shOf n)
theorem shs_take {n : Nat} {l : List Tk} {i : Nat} (h : i < l.length) : shs n (l.take (i + 1)) = if l[i].ac then shs n (l.take i) ++ [shOf n l[i]] else shs n (l.take i) := by
  rw [List.take_succ_eq_append_getElem h, shs, List.filter_append, List.map_append]
  by_cases hc : l[i].ac = true
  · rw [if_pos hc]; simp [shs, hc]
  · rw [if_neg hc]; simp [shs, hc]
theorem shs_len {n : Nat} {l : List Tk} : (shs n l).length ≤ l.length := by
  unfold shs; rw [List.length_map]; exact List.length_filter_le _ _
/-- the second loop's body -/
theorem all_ok {srt : List Tk → List Tk} (hS : SortSpec (kn G base w0) srt) {v : AV} {l : List Tk} (ho : OwnF H wT v 51 l) (hl : l.length ≤ 1000) (hn : v ≠ .nilslice → l ≠ []) (a b : Nat) (hab : a < b) (hbb : b < 1048576) (hg : ∀ i (h : i < (srt l).length), gdAt (srt l) i h) :
    ∃ r H', Pt (kn G base w0) 8 [v, .int .i64 a, .int .i64 b] H r H' ∧ ∃ u, r = .tuple [u, .int .i64 0] ∧ OwnF H' wSh u 42 (shs (b - a) (srt l)) ∧ Keep H H' (fun _ => False) ∧ ∀ b, u.at? = some b → H.length ≤ b := by
  refine Pt.fn (n := 79) (rs := [.tmp 6, .tmp 7]) Try.func8 (b := _) rfl rfl rfl (by decide) ?_
  simp only [numbered]
  obtain ⟨u, K1, p1, o1, k1, u1⟩ := clone_ok (G := G) (base := base) (w0 := w0) ho hl hn
  obtain ⟨K2, p2, o2, k2⟩ := hS.2 o1 hl
  have k3 : Keep H K2 (fun _ => False) := k1.trans' k2 fun j hj e => by have := u1 j e; omega
  have hlen := (hS.1 l).1
  rw [← hlen] at hl
  have e0 := (o2.sl (c := (kn G base w0).c)).len Try.underlying34
  generalize srt l = s at *
  refine D.sq (D.ks (.e [(7, AV.int IntKind.i64 0), (6, AV.nilslice)] H) (by kernel_rfl) (D.sq (D.ks (.c p1 <| .e [(8, u)] K1) (by kernel_rfl) (D.sq (D.ks (.c p2 <| .e [] K2) (by kernel_rfl) (D.sq (D.sq (D.ks (.v e0 <| .e [(22, AV.int IntKind.i64 0), (21, AV.int IntKind.i64 (↑(List.length s) : Int)), (20, u)] K2) (by kernel_rfl) (D.bl ?_)))))))))
  refine D.lp (fun m env H' => ∃ i : Nat, m = s.length - i ∧ i ≤ s.length ∧ Keep K2 H' (fun _ => False) ∧ ELe (E 79 [(22, .int .i64 i), (21, .int .i64 s.length), (20, u), (8, u), (7, .int .i64 0), (6, .nilslice), (2, .int .i64 b), (1, .int .i64 a)]) env) s.length
    ⟨0, by omega, by omega, Keep.refl _, by exact E_le (by decide) (E_size _ _) (by simp only [List.forall_mem_cons, List.not_mem_nil, false_implies, implies_true, and_true, List.cons_append, List.nil_append, Nat.zero_add, Nat.reduceAdd, E_get, Nat.reduceEqDiff, Nat.reduceLT, Nat.reduceLeDiff, if_true, if_false, and_self, true_and] <;> first | rfl | exact ⟨rfl, rfl⟩)⟩ ?_
  clear p1 p2 o1 k1 k2 ho hn u1
  rintro m env H3 ⟨i, rfl, hi, hk3, he⟩
  refine D.forget he ?_
  clear he
  by_cases hin : i < s.length
  · have k4 : Keep K2 (hnew H3 (.row 51 11 (encT s[i]))) (fun _ => False) := hk3.trans (Keep.new _ _)
    have s3 := (o2.keep fun b hb => hk3.2 b (o2.lt hb) id).sl (c := (kn G base w0).c)
    have s4 := (o2.keep fun b hb => k4.2 b (o2.lt hb) id).sl (c := (kn G base w0).c)
    have ia := s3.ia (t := 34) Try.underlying34 sz51 hin .i64
    have ld : aload (kn G base w0).c H3 51 (ptrF wT u i) = some (.agg (encT s[i])) := s3.ldA (c := (kn G base w0).c) hin ag51 sz51
    have p3 := fun H => may20_p (G := G) (base := base) (w0 := w0) (H := H) s[i]
    have hgi := hg i hin
    rw [decide_eq_true hgi.1] at p3
    by_cases h0 : i = 0
    · clear hgi
      generalize s[i] = t at *
      simp only [encT] at p3 ld
      refine D.sq (D.ks (.y (show (↑i : Int) < (↑(List.length s) : Int) by omega) <| .e [(23, AV.bool true)] H3) (by kernel_rfl) (D.sq (D.ct (by kernel_rfl) (D.skip (Ks_n' (D.sq (D.bl (D.sq (D.ks (.v ia <| .v ld <| .h (st_top (H := H3) (t := 51) (e := 11) (cs := [AV.int IntKind.i64 0, AV.int IntKind.i64 0, AV.int IntKind.i64 0, AV.bool false, AV.bool false, AV.bool false, AV.bool false, AV.int IntKind.i64 0, AV.int IntKind.i64 0, AV.bool false, AV.int IntKind.i64 0]) (off := 0) (vs := [AV.int IntKind.i64 (Tk.id t), AV.int IntKind.i64 (Tk.e t), AV.int IntKind.i64 (Tk.p t), AV.bool (Tk.sp t), AV.bool (Tk.lv t), AV.bool (Tk.wt t), AV.bool (Tk.ac t), AV.int IntKind.i64 (Tk.rl t), AV.int IntKind.i64 (Tk.gt t), AV.bool (Tk.dn t), AV.int IntKind.i64 (Tk.ct t)]) (cs' := [AV.int IntKind.i64 (Tk.id t), AV.int IntKind.i64 (Tk.e t), AV.int IntKind.i64 (Tk.p t), AV.bool (Tk.sp t), AV.bool (Tk.lv t), AV.bool (Tk.wt t), AV.bool (Tk.ac t), AV.int IntKind.i64 (Tk.rl t), AV.int IntKind.i64 (Tk.gt t), AV.bool (Tk.dn t), AV.int IntKind.i64 (Tk.ct t)]) rfl rfl rfl) <| .e [(9, AV.int IntKind.i64 (↑i : Int)), (10, AV.ptr (Loc.own (List.length H3)) 0)] (hnew H3 (AObj.row 51 11 [AV.int IntKind.i64 (Tk.id t), AV.int IntKind.i64 (Tk.e t), AV.int IntKind.i64 (Tk.p t), AV.bool (Tk.sp t), AV.bool (Tk.lv t), AV.bool (Tk.wt t), AV.bool (Tk.ac t), AV.int IntKind.i64 (Tk.rl t), AV.int IntKind.i64 (Tk.gt t), AV.bool (Tk.dn t), AV.int IntKind.i64 (Tk.ct t)]))) (by kernel_rfl) (D.sq (D.kcs [20] (.q (@hat_nn H3 (AObj.row 51 11 [AV.int IntKind.i64 (Tk.id t), AV.int IntKind.i64 (Tk.e t), AV.int IntKind.i64 (Tk.p t), AV.bool (Tk.sp t), AV.bool (Tk.lv t), AV.bool (Tk.wt t), AV.bool (Tk.ac t), AV.int IntKind.i64 (Tk.rl t), AV.int IntKind.i64 (Tk.gt t), AV.bool (Tk.dn t), AV.int IntKind.i64 (Tk.ct t)])) <| .f (@p3 (hnew H3 (AObj.row 51 11 [AV.int IntKind.i64 (Tk.id t), AV.int IntKind.i64 (Tk.e t), AV.int IntKind.i64 (Tk.p t), AV.bool (Tk.sp t), AV.bool (Tk.lv t), AV.bool (Tk.wt t), AV.bool (Tk.ac t), AV.int IntKind.i64 (Tk.rl t), AV.int IntKind.i64 (Tk.gt t), AV.bool (Tk.dn t), AV.int IntKind.i64 (Tk.ct t)]))) <| .a <| .o (show ¬ (0 < (↑i : Int)) by omega) <| .e [(44, AV.bool false)] (hnew H3 (AObj.row 51 11 [AV.int IntKind.i64 (Tk.id t), AV.int IntKind.i64 (Tk.e t), AV.int IntKind.i64 (Tk.p t), AV.bool (Tk.sp t), AV.bool (Tk.lv t), AV.bool (Tk.wt t), AV.bool (Tk.ac t), AV.int IntKind.i64 (Tk.rl t), AV.int IntKind.i64 (Tk.gt t), AV.bool (Tk.dn t), AV.int IntKind.i64 (Tk.ct t)]))) (by kernel_rfl) (D.cf (by kernel_rfl) (D.skip (Kb_n' (Ks_n' (D.kr (.n (@wrap_to ((↑i : Int) + 1) ((↑(i + 1) : Int)) (by omega) (by omega) (by omega)) <| .e [(22, AV.int IntKind.i64 (↑(i + 1) : Int))] (hnew H3 (AObj.row 51 11 [AV.int IntKind.i64 (Tk.id t), AV.int IntKind.i64 (Tk.e t), AV.int IntKind.i64 (Tk.p t), AV.bool (Tk.sp t), AV.bool (Tk.lv t), AV.bool (Tk.wt t), AV.bool (Tk.ac t), AV.int IntKind.i64 (Tk.rl t), AV.int IntKind.i64 (Tk.gt t), AV.bool (Tk.dn t), AV.int IntKind.i64 (Tk.ct t)]))) (by kernel_rfl) ?_))))))))))))))))
      exact ⟨s.length - (i + 1), by omega, i + 1, (by first | exact rfl | exact True.intro), by omega, k4, by exact E_le (by decide) (E_size _ _) (by simp only [List.forall_mem_cons, List.not_mem_nil, false_implies, implies_true, and_true, List.cons_append, List.nil_append, Nat.zero_add, Nat.reduceAdd, E_get, Nat.reduceEqDiff, Nat.reduceLT, Nat.reduceLeDiff, if_true, if_false, and_self, true_and] <;> first | rfl | exact ⟨rfl, rfl⟩)⟩
    obtain ⟨j, rfl⟩ : ∃ j, i = j + 1 := ⟨i - 1, by omega⟩
    have hjn : j < s.length := by omega
    have ia2 : aindexAddr (kn G base w0).c 34 u (.int .i64 (((j + 1 : Nat) : Int) - 1)) = some (ptrF wT u j) := by
      rw [show ((j + 1 : Nat) : Int) - 1 = (j : Int) by omega]
      exact s4.ia (t := 34) Try.underlying34 sz51 hjn .i64
    have fa2 : afieldAddr (kn G base w0).c 51 (ptrF wT u j) 0 = some (ptrJ wT u j 0) := s4.fa (c := (kn G base w0).c) hjn (s := 51) Try.underlying51 (f := 0) rfl sz3 (by decide)
    have ld2 := s4.ld (c := (kn G base w0).c) hjn (j := 0) (by decide) (t := 3) (u := .int .i64 s[j].id) rfl ag3
    have h2 : s[j].id ≠ s[j + 1].id := hgi.2 (by omega)
    clear hgi
    generalize s[j + 1] = t at *
    generalize s[j] = t' at *
    simp only [encT] at p3 ld ld2 ia2 fa2
    refine D.sq (D.ks (.y (show (↑(j + 1) : Int) < (↑(List.length s) : Int) by omega) <| .e [(23, AV.bool true)] H3) (by kernel_rfl) (D.sq (D.ct (by kernel_rfl) (D.skip (Ks_n' (D.sq (D.bl (D.sq (D.ks (.v ia <| .v ld <| .h (st_top (H := H3) (t := 51) (e := 11) (cs := [AV.int IntKind.i64 0, AV.int IntKind.i64 0, AV.int IntKind.i64 0, AV.bool false, AV.bool false, AV.bool false, AV.bool false, AV.int IntKind.i64 0, AV.int IntKind.i64 0, AV.bool false, AV.int IntKind.i64 0]) (off := 0) (vs := [AV.int IntKind.i64 (Tk.id t), AV.int IntKind.i64 (Tk.e t), AV.int IntKind.i64 (Tk.p t), AV.bool (Tk.sp t), AV.bool (Tk.lv t), AV.bool (Tk.wt t), AV.bool (Tk.ac t), AV.int IntKind.i64 (Tk.rl t), AV.int IntKind.i64 (Tk.gt t), AV.bool (Tk.dn t), AV.int IntKind.i64 (Tk.ct t)]) (cs' := [AV.int IntKind.i64 (Tk.id t), AV.int IntKind.i64 (Tk.e t), AV.int IntKind.i64 (Tk.p t), AV.bool (Tk.sp t), AV.bool (Tk.lv t), AV.bool (Tk.wt t), AV.bool (Tk.ac t), AV.int IntKind.i64 (Tk.rl t), AV.int IntKind.i64 (Tk.gt t), AV.bool (Tk.dn t), AV.int IntKind.i64 (Tk.ct t)]) rfl rfl rfl) <| .e [(9, AV.int IntKind.i64 (↑(j + 1) : Int)), (10, AV.ptr (Loc.own (List.length H3)) 0)] (hnew H3 (AObj.row 51 11 [AV.int IntKind.i64 (Tk.id t), AV.int IntKind.i64 (Tk.e t), AV.int IntKind.i64 (Tk.p t), AV.bool (Tk.sp t), AV.bool (Tk.lv t), AV.bool (Tk.wt t), AV.bool (Tk.ac t), AV.int IntKind.i64 (Tk.rl t), AV.int IntKind.i64 (Tk.gt t), AV.bool (Tk.dn t), AV.int IntKind.i64 (Tk.ct t)]))) (by kernel_rfl) (D.sq (D.kcs [20] (.q (@hat_nn H3 (AObj.row 51 11 [AV.int IntKind.i64 (Tk.id t), AV.int IntKind.i64 (Tk.e t), AV.int IntKind.i64 (Tk.p t), AV.bool (Tk.sp t), AV.bool (Tk.lv t), AV.bool (Tk.wt t), AV.bool (Tk.ac t), AV.int IntKind.i64 (Tk.rl t), AV.int IntKind.i64 (Tk.gt t), AV.bool (Tk.dn t), AV.int IntKind.i64 (Tk.ct t)])) <| .f (@p3 (hnew H3 (AObj.row 51 11 [AV.int IntKind.i64 (Tk.id t), AV.int IntKind.i64 (Tk.e t), AV.int IntKind.i64 (Tk.p t), AV.bool (Tk.sp t), AV.bool (Tk.lv t), AV.bool (Tk.wt t), AV.bool (Tk.ac t), AV.int IntKind.i64 (Tk.rl t), AV.int IntKind.i64 (Tk.gt t), AV.bool (Tk.dn t), AV.int IntKind.i64 (Tk.ct t)]))) <| .a <| .y (show 0 < (↑(j + 1) : Int) by omega) <| .n (@wrap_to ((↑(j + 1) : Int) - 1) ((↑(j + 1) : Int) - 1) (by omega) (by omega) (by omega)) <| .v ia2 <| .v fa2 <| .v ld2 <| .a <| .q (@hat_nn H3 (AObj.row 51 11 [AV.int IntKind.i64 (Tk.id t), AV.int IntKind.i64 (Tk.e t), AV.int IntKind.i64 (Tk.p t), AV.bool (Tk.sp t), AV.bool (Tk.lv t), AV.bool (Tk.wt t), AV.bool (Tk.ac t), AV.int IntKind.i64 (Tk.rl t), AV.int IntKind.i64 (Tk.gt t), AV.bool (Tk.dn t), AV.int IntKind.i64 (Tk.ct t)])) <| .o (show ¬ (Tk.id t' = Tk.id t) by omega) <| .e [(44, AV.bool false)] (hnew H3 (AObj.row 51 11 [AV.int IntKind.i64 (Tk.id t), AV.int IntKind.i64 (Tk.e t), AV.int IntKind.i64 (Tk.p t), AV.bool (Tk.sp t), AV.bool (Tk.lv t), AV.bool (Tk.wt t), AV.bool (Tk.ac t), AV.int IntKind.i64 (Tk.rl t), AV.int IntKind.i64 (Tk.gt t), AV.bool (Tk.dn t), AV.int IntKind.i64 (Tk.ct t)]))) (by kernel_rfl) (D.cf (by kernel_rfl) (D.skip (Kb_n' (Ks_n' (D.kr (.n (@wrap_to ((↑(j + 1) : Int) + 1) ((↑(j + 1 + 1) : Int)) (by omega) (by omega) (by omega)) <| .e [(22, AV.int IntKind.i64 (↑(j + 1 + 1) : Int))] (hnew H3 (AObj.row 51 11 [AV.int IntKind.i64 (Tk.id t), AV.int IntKind.i64 (Tk.e t), AV.int IntKind.i64 (Tk.p t), AV.bool (Tk.sp t), AV.bool (Tk.lv t), AV.bool (Tk.wt t), AV.bool (Tk.ac t), AV.int IntKind.i64 (Tk.rl t), AV.int IntKind.i64 (Tk.gt t), AV.bool (Tk.dn t), AV.int IntKind.i64 (Tk.ct t)]))) (by kernel_rfl) ?_))))))))))))))))
    exact ⟨s.length - (j + 1 + 1), by omega, j + 1 + 1, (by first | exact rfl | exact True.intro), by omega, k4, by exact E_le (by decide) (E_size _ _) (by simp only [List.forall_mem_cons, List.not_mem_nil, false_implies, implies_true, and_true, List.cons_append, List.nil_append, Nat.zero_add, Nat.reduceAdd, E_get, Nat.reduceEqDiff, Nat.reduceLT, Nat.reduceLeDiff, if_true, if_false, and_self, true_and] <;> first | rfl | exact ⟨rfl, rfl⟩)⟩
  obtain rfl : i = s.length := by omega
  have e1 := (o2.keep fun b hb => hk3.2 b (o2.lt hb) id).sl (c := (kn G base w0).c) |>.len Try.underlying34
  refine D.sq (D.ks (.o (show ¬ ((↑(List.length s) : Int) < (↑(List.length s) : Int)) by omega) <| .e [(23, AV.bool false)] H3) (by kernel_rfl) (D.sq (D.cf (by kernel_rfl) (D.exit (Ks_e' (Kl_e' (Kb_e' (Ks_n' (D.sq (D.sq (D.ks (.o (show ¬ ((↑b : Int) ≤ (↑a : Int)) by omega) <| .e [(48, AV.bool false)] H3) (by kernel_rfl) (D.cf (by kernel_rfl) (D.skip (Ks_n' (D.sq (D.ks (.e [(11, AV.nilslice)] H3) (by kernel_rfl) (D.sq (D.sq (D.ks (.v e1 <| .e [(51, AV.int IntKind.i64 0), (50, AV.int IntKind.i64 (↑(List.length s) : Int)), (49, u)] H3) (by kernel_rfl) (D.bl ?_))))))))))))))))))))
  have k5 : Keep H H3 (fun _ => False) := k3.trans hk3
  have o5 := o2.keep fun b hb => hk3.2 b (o2.lt hb) id
  clear e1 e0 hk3 k3 o2 hin hi
  refine D.lp (fun m env H' => ∃ (i : Nat) (w : AV), m = s.length - i ∧ i ≤ s.length ∧ OwnF H' wSh w 42 (shs (b - a) (s.take i)) ∧ (∀ b, w.at? = some b → H3.length ≤ b) ∧ Keep H3 H' (fun _ => False) ∧ ELe (E 79 [(51, .int .i64 i), (50, .int .i64 s.length), (49, u), (11, w), (7, .int .i64 0), (6, .nilslice), (2, .int .i64 b), (1, .int .i64 a)]) env) s.length
    ⟨0, .nilslice, by omega, by omega, by rw [List.take_zero]; exact OwnF.nil, by simp [AV.at?], Keep.refl _, by exact E_le (by decide) (E_size _ _) (by simp only [List.forall_mem_cons, List.not_mem_nil, false_implies, implies_true, and_true, List.cons_append, List.nil_append, Nat.zero_add, Nat.reduceAdd, E_get, Nat.reduceEqDiff, Nat.reduceLT, Nat.reduceLeDiff, if_true, if_false, and_self, true_and] <;> first | rfl | exact ⟨rfl, rfl⟩)⟩ ?_
  rintro m env H4 ⟨i, w, rfl, hi, ow, hw, hk, he⟩
  refine D.forget he ?_
  clear he
  by_cases hin : i < s.length
  rotate_left
  · obtain rfl : i = s.length := by omega
    rw [List.take_length] at ow
    refine D.sq (D.ks (.o (show ¬ ((↑(List.length s) : Int) < (↑(List.length s) : Int)) by omega) <| .e [(52, AV.bool false)] H4) (by kernel_rfl) (D.sq (D.cf (by kernel_rfl) (D.exit (Ks_e' (Kl_e' (Kb_e' (Ks_n' (D.sq (D.ks (.e [(7, AV.int IntKind.i64 0), (6, w)] H4) (by kernel_rfl) (D.ret (Kf_by (AV.tuple [w, AV.int IntKind.i64 0]) (.r (AV.tuple [w, AV.int IntKind.i64 0])) (by kernel_rfl) ?_))))))))))))
    exact ⟨w, rfl, ow, k5.trans hk, fun b hb => Nat.le_trans k5.1 (hw b hb)⟩
  have s3 := (o5.keep fun b hb => hk.2 b (o5.lt hb) id).sl (c := (kn G base w0).c)
  have ia := s3.ia (t := 34) Try.underlying34 sz51 hin .i64
  have ld : aload (kn G base w0).c H4 51 (ptrF wT u i) = some (.agg (encT s[i])) := s3.ldA (c := (kn G base w0).c) hin ag51 sz51
  have ht := shs_take (n := b - a) hin
  have hm : tmay s[i] := (hg i hin).1
  have hwl : (shs (b - a) (s.take i)).length ≤ 1000 := Nat.le_trans shs_len (by rw [List.length_take]; omega)
  clear hg
  generalize s[i] = t at *
  by_cases hac : t.ac = true
  rotate_left
  · rw [if_neg hac] at ht
    have hac : t.ac = false := by simpa using hac
    simp only [encT, hac] at ld
    refine D.sq (D.ks (.y (show (↑i : Int) < (↑(List.length s) : Int) by omega) <| .e [(52, AV.bool true)] H4) (by kernel_rfl) (D.sq (D.ct (by kernel_rfl) (D.skip (Ks_n' (D.sq (D.bl (D.sq (D.ks (.v ia <| .v ld <| .h (st_top (H := H4) (t := 51) (e := 11) (cs := [AV.int IntKind.i64 0, AV.int IntKind.i64 0, AV.int IntKind.i64 0, AV.bool false, AV.bool false, AV.bool false, AV.bool false, AV.int IntKind.i64 0, AV.int IntKind.i64 0, AV.bool false, AV.int IntKind.i64 0]) (off := 0) (vs := [AV.int IntKind.i64 (Tk.id t), AV.int IntKind.i64 (Tk.e t), AV.int IntKind.i64 (Tk.p t), AV.bool (Tk.sp t), AV.bool (Tk.lv t), AV.bool (Tk.wt t), AV.bool false, AV.int IntKind.i64 (Tk.rl t), AV.int IntKind.i64 (Tk.gt t), AV.bool (Tk.dn t), AV.int IntKind.i64 (Tk.ct t)]) (cs' := [AV.int IntKind.i64 (Tk.id t), AV.int IntKind.i64 (Tk.e t), AV.int IntKind.i64 (Tk.p t), AV.bool (Tk.sp t), AV.bool (Tk.lv t), AV.bool (Tk.wt t), AV.bool false, AV.int IntKind.i64 (Tk.rl t), AV.int IntKind.i64 (Tk.gt t), AV.bool (Tk.dn t), AV.int IntKind.i64 (Tk.ct t)]) rfl rfl rfl) <| .e [(13, AV.ptr (Loc.own (List.length H4)) 0)] (hnew H4 (AObj.row 51 11 [AV.int IntKind.i64 (Tk.id t), AV.int IntKind.i64 (Tk.e t), AV.int IntKind.i64 (Tk.p t), AV.bool (Tk.sp t), AV.bool (Tk.lv t), AV.bool (Tk.wt t), AV.bool false, AV.int IntKind.i64 (Tk.rl t), AV.int IntKind.i64 (Tk.gt t), AV.bool (Tk.dn t), AV.int IntKind.i64 (Tk.ct t)]))) (by kernel_rfl) (D.sq (D.sq (D.ks (.a <| .q (@hat_nn H4 (AObj.row 51 11 [AV.int IntKind.i64 (Tk.id t), AV.int IntKind.i64 (Tk.e t), AV.int IntKind.i64 (Tk.p t), AV.bool (Tk.sp t), AV.bool (Tk.lv t), AV.bool (Tk.wt t), AV.bool false, AV.int IntKind.i64 (Tk.rl t), AV.int IntKind.i64 (Tk.gt t), AV.bool (Tk.dn t), AV.int IntKind.i64 (Tk.ct t)])) <| .a <| .e [(57, AV.bool true)] (hnew H4 (AObj.row 51 11 [AV.int IntKind.i64 (Tk.id t), AV.int IntKind.i64 (Tk.e t), AV.int IntKind.i64 (Tk.p t), AV.bool (Tk.sp t), AV.bool (Tk.lv t), AV.bool (Tk.wt t), AV.bool false, AV.int IntKind.i64 (Tk.rl t), AV.int IntKind.i64 (Tk.gt t), AV.bool (Tk.dn t), AV.int IntKind.i64 (Tk.ct t)]))) (by kernel_rfl) (D.ct (by kernel_rfl) (D.exit (Ks_e' (Kb_e' (Ks_n' (D.kr (.n (@wrap_to ((↑i : Int) + 1) ((↑(i + 1) : Int)) (by omega) (by omega) (by omega)) <| .e [(51, AV.int IntKind.i64 (↑(i + 1) : Int))] (hnew H4 (AObj.row 51 11 [AV.int IntKind.i64 (Tk.id t), AV.int IntKind.i64 (Tk.e t), AV.int IntKind.i64 (Tk.p t), AV.bool (Tk.sp t), AV.bool (Tk.lv t), AV.bool (Tk.wt t), AV.bool false, AV.int IntKind.i64 (Tk.rl t), AV.int IntKind.i64 (Tk.gt t), AV.bool (Tk.dn t), AV.int IntKind.i64 (Tk.ct t)]))) (by kernel_rfl) ?_))))))))))))))))))
    refine ⟨s.length - (i + 1), by omega, i + 1, w, (by first | exact rfl | exact True.intro), by omega, ?_, hw, hk.trans (Keep.new _ _), by exact E_le (by decide) (E_size _ _) (by simp only [List.forall_mem_cons, List.not_mem_nil, false_implies, implies_true, and_true, List.cons_append, List.nil_append, Nat.zero_add, Nat.reduceAdd, E_get, Nat.reduceEqDiff, Nat.reduceLT, Nat.reduceLeDiff, if_true, if_false, and_self, true_and] <;> first | rfl | exact ⟨rfl, rfl⟩)⟩
    rw [ht]
    exact ow.keep fun b hb => (show Keep H4 _ (fun _ => False) from Keep.new _ _).2 b (ow.lt hb) id
  rw [if_pos hac] at ht
  obtain ⟨m1, m2, m3⟩ := hm
  obtain ⟨e, hE⟩ : ∃ e : Nat, t.e = e := ⟨t.e.toNat, by omega⟩
  obtain ⟨p, hP⟩ : ∃ p : Nat, t.p = p := ⟨t.p.toNat, by omega⟩
  have p3 := fun H => length_p (G := G) (base := base) (w0 := w0) (H := H) t e p hE hP (by omega) (by omega) (by omega) a b (by omega) (by omega)
  have hsh : encS (shOf (b - a) t) = [.int .i64 t.id, .int .i64 (lowN (b - a) e p).1, .int .i64 (lowN (b - a) e p).2, .bool t.dn] := by
    simp only [encS, shOf, hE, hP, Int.toNat_natCast]
  replace p3 : ∀ H, Pt (kn G base w0) 21 [.agg (encT t), .int .i64 a, .int .i64 b] H (.tuple [rt (lowN (b - a) e p).1 (lowN (b - a) e p).2, .int .i64 0]) H := p3
  have kA : ∀ n d : Nat, Keep H4 (hnew (hnew (hnew H4 (.row 51 11 (encT t))) (.row 37 2 [.int .i64 n, .int .i64 d])) (.row 42 4 (encS (shOf (b - a) t)))) (fun _ => False) := fun n d => ((Keep.new _ _).trans (Keep.new _ _)).trans (Keep.new _ _)
  generalize lowN (b - a) e p = q at *
  obtain ⟨N, M⟩ := q
  obtain ⟨v', K3, f2, o3, kB, a3, l3⟩ := (ow.keep fun b hb => (kA N M).2 b (ow.lt hb) id).app (c := (kn G base w0).c) (t := 30) Try.underlying30 in42 zc42 rfl (by decide) (SlF.single (H := hnew (hnew H4 (.row 51 11 (encT t))) (.row 37 2 [.int .i64 N, .int .i64 M])) (w := wSh) (x := shOf (b - a) t) (e := 42)) (by simp) (by simp; omega)
  rw [hsh] at f2
  replace f2 : aappend (kn G base w0).c (hnew (hnew (hnew H4 (.row 51 11 (encT t))) (.row 37 2 [.int .i64 N, .int .i64 M])) (.row 42 4 [.int .i64 t.id, .int .i64 N, .int .i64 M, .bool t.dn])) 30 w (.slice (.own (hnew (hnew H4 (.row 51 11 (encT t))) (.row 37 2 [.int .i64 N, .int .i64 M])).length) 4 0 1) = some (v', K3) := f2
  have k6 : Keep H3 K3 (fun _ => False) := (hk.trans (kA N M)).trans' kB fun j hj e => by have := hw j e; omega
  have w6 : ∀ b, v'.at? = some b → H3.length ≤ b := by
    intro b hb
    rw [a3] at hb
    have hb := Option.some.inj hb
    have h1 := hk.1
    have h2 := (kA N M).1
    omega
  rw [← ht] at o3
  simp only [encT, hac] at ld p3 f2
  clear kA kB a3 l3 ow hsh
  refine D.sq (D.ks (.y (show (↑i : Int) < (↑(List.length s) : Int) by omega) <| .e [(52, AV.bool true)] H4) (by kernel_rfl) (D.sq (D.ct (by kernel_rfl) (D.skip (Ks_n' (D.sq (D.bl (D.sq (D.ks (.v ia <| .v ld <| .h (st_top (H := H4) (t := 51) (e := 11) (cs := [AV.int IntKind.i64 0, AV.int IntKind.i64 0, AV.int IntKind.i64 0, AV.bool false, AV.bool false, AV.bool false, AV.bool false, AV.int IntKind.i64 0, AV.int IntKind.i64 0, AV.bool false, AV.int IntKind.i64 0]) (off := 0) (vs := [AV.int IntKind.i64 (Tk.id t), AV.int IntKind.i64 (Tk.e t), AV.int IntKind.i64 (Tk.p t), AV.bool (Tk.sp t), AV.bool (Tk.lv t), AV.bool (Tk.wt t), AV.bool true, AV.int IntKind.i64 (Tk.rl t), AV.int IntKind.i64 (Tk.gt t), AV.bool (Tk.dn t), AV.int IntKind.i64 (Tk.ct t)]) (cs' := [AV.int IntKind.i64 (Tk.id t), AV.int IntKind.i64 (Tk.e t), AV.int IntKind.i64 (Tk.p t), AV.bool (Tk.sp t), AV.bool (Tk.lv t), AV.bool (Tk.wt t), AV.bool true, AV.int IntKind.i64 (Tk.rl t), AV.int IntKind.i64 (Tk.gt t), AV.bool (Tk.dn t), AV.int IntKind.i64 (Tk.ct t)]) rfl rfl rfl) <| .e [(13, AV.ptr (Loc.own (List.length H4)) 0)] (hnew H4 (AObj.row 51 11 [AV.int IntKind.i64 (Tk.id t), AV.int IntKind.i64 (Tk.e t), AV.int IntKind.i64 (Tk.p t), AV.bool (Tk.sp t), AV.bool (Tk.lv t), AV.bool (Tk.wt t), AV.bool true, AV.int IntKind.i64 (Tk.rl t), AV.int IntKind.i64 (Tk.gt t), AV.bool (Tk.dn t), AV.int IntKind.i64 (Tk.ct t)]))) (by kernel_rfl) (D.sq (D.sq (D.ks (.a <| .q (@hat_nn H4 (AObj.row 51 11 [AV.int IntKind.i64 (Tk.id t), AV.int IntKind.i64 (Tk.e t), AV.int IntKind.i64 (Tk.p t), AV.bool (Tk.sp t), AV.bool (Tk.lv t), AV.bool (Tk.wt t), AV.bool true, AV.int IntKind.i64 (Tk.rl t), AV.int IntKind.i64 (Tk.gt t), AV.bool (Tk.dn t), AV.int IntKind.i64 (Tk.ct t)])) <| .a <| .e [(57, AV.bool false)] (hnew H4 (AObj.row 51 11 [AV.int IntKind.i64 (Tk.id t), AV.int IntKind.i64 (Tk.e t), AV.int IntKind.i64 (Tk.p t), AV.bool (Tk.sp t), AV.bool (Tk.lv t), AV.bool (Tk.wt t), AV.bool true, AV.int IntKind.i64 (Tk.rl t), AV.int IntKind.i64 (Tk.gt t), AV.bool (Tk.dn t), AV.int IntKind.i64 (Tk.ct t)]))) (by kernel_rfl) (D.cf (by kernel_rfl) (D.skip (Ks_n' (D.sq (D.ks (.q (@hat_nn H4 (AObj.row 51 11 [AV.int IntKind.i64 (Tk.id t), AV.int IntKind.i64 (Tk.e t), AV.int IntKind.i64 (Tk.p t), AV.bool (Tk.sp t), AV.bool (Tk.lv t), AV.bool (Tk.wt t), AV.bool true, AV.int IntKind.i64 (Tk.rl t), AV.int IntKind.i64 (Tk.gt t), AV.bool (Tk.dn t), AV.int IntKind.i64 (Tk.ct t)])) <| .c (@p3 (hnew H4 (AObj.row 51 11 [AV.int IntKind.i64 (Tk.id t), AV.int IntKind.i64 (Tk.e t), AV.int IntKind.i64 (Tk.p t), AV.bool (Tk.sp t), AV.bool (Tk.lv t), AV.bool (Tk.wt t), AV.bool true, AV.int IntKind.i64 (Tk.rl t), AV.int IntKind.i64 (Tk.gt t), AV.bool (Tk.dn t), AV.int IntKind.i64 (Tk.ct t)]))) <| .h (st_top (H := hnew H4 (AObj.row 51 11 [AV.int IntKind.i64 (Tk.id t), AV.int IntKind.i64 (Tk.e t), AV.int IntKind.i64 (Tk.p t), AV.bool (Tk.sp t), AV.bool (Tk.lv t), AV.bool (Tk.wt t), AV.bool true, AV.int IntKind.i64 (Tk.rl t), AV.int IntKind.i64 (Tk.gt t), AV.bool (Tk.dn t), AV.int IntKind.i64 (Tk.ct t)])) (t := 37) (e := 2) (cs := [AV.int IntKind.i64 0, AV.int IntKind.i64 0]) (off := 0) (vs := [AV.int IntKind.i64 (↑N : Int), AV.int IntKind.i64 (↑M : Int)]) (cs' := [AV.int IntKind.i64 (↑N : Int), AV.int IntKind.i64 (↑M : Int)]) rfl rfl rfl) <| .e [(15, AV.int IntKind.i64 0), (14, AV.ptr (Loc.own (List.length (hnew H4 (AObj.row 51 11 [AV.int IntKind.i64 (Tk.id t), AV.int IntKind.i64 (Tk.e t), AV.int IntKind.i64 (Tk.p t), AV.bool (Tk.sp t), AV.bool (Tk.lv t), AV.bool (Tk.wt t), AV.bool true, AV.int IntKind.i64 (Tk.rl t), AV.int IntKind.i64 (Tk.gt t), AV.bool (Tk.dn t), AV.int IntKind.i64 (Tk.ct t)])))) 0)] (hnew (hnew H4 (AObj.row 51 11 [AV.int IntKind.i64 (Tk.id t), AV.int IntKind.i64 (Tk.e t), AV.int IntKind.i64 (Tk.p t), AV.bool (Tk.sp t), AV.bool (Tk.lv t), AV.bool (Tk.wt t), AV.bool true, AV.int IntKind.i64 (Tk.rl t), AV.int IntKind.i64 (Tk.gt t), AV.bool (Tk.dn t), AV.int IntKind.i64 (Tk.ct t)])) (AObj.row 37 2 [AV.int IntKind.i64 (↑N : Int), AV.int IntKind.i64 (↑M : Int)]))) (by kernel_rfl) (D.sq (D.sq (D.ks (.a <| .e [(66, AV.bool false)] (hnew (hnew H4 (AObj.row 51 11 [AV.int IntKind.i64 (Tk.id t), AV.int IntKind.i64 (Tk.e t), AV.int IntKind.i64 (Tk.p t), AV.bool (Tk.sp t), AV.bool (Tk.lv t), AV.bool (Tk.wt t), AV.bool true, AV.int IntKind.i64 (Tk.rl t), AV.int IntKind.i64 (Tk.gt t), AV.bool (Tk.dn t), AV.int IntKind.i64 (Tk.ct t)])) (AObj.row 37 2 [AV.int IntKind.i64 (↑N : Int), AV.int IntKind.i64 (↑M : Int)]))) (by kernel_rfl) (D.cf (by kernel_rfl) (D.skip (Ks_n' (D.kr (.a <| .q (hat_up (@hat_nn H4 (AObj.row 51 11 [AV.int IntKind.i64 (Tk.id t), AV.int IntKind.i64 (Tk.e t), AV.int IntKind.i64 (Tk.p t), AV.bool (Tk.sp t), AV.bool (Tk.lv t), AV.bool (Tk.wt t), AV.bool true, AV.int IntKind.i64 (Tk.rl t), AV.int IntKind.i64 (Tk.gt t), AV.bool (Tk.dn t), AV.int IntKind.i64 (Tk.ct t)])) (AObj.row 37 2 [AV.int IntKind.i64 (↑N : Int), AV.int IntKind.i64 (↑M : Int)])) <| .q (@hat_nn (hnew H4 (AObj.row 51 11 [AV.int IntKind.i64 (Tk.id t), AV.int IntKind.i64 (Tk.e t), AV.int IntKind.i64 (Tk.p t), AV.bool (Tk.sp t), AV.bool (Tk.lv t), AV.bool (Tk.wt t), AV.bool true, AV.int IntKind.i64 (Tk.rl t), AV.int IntKind.i64 (Tk.gt t), AV.bool (Tk.dn t), AV.int IntKind.i64 (Tk.ct t)])) (AObj.row 37 2 [AV.int IntKind.i64 (↑N : Int), AV.int IntKind.i64 (↑M : Int)])) <| .a <| .q (hat_up (@hat_nn H4 (AObj.row 51 11 [AV.int IntKind.i64 (Tk.id t), AV.int IntKind.i64 (Tk.e t), AV.int IntKind.i64 (Tk.p t), AV.bool (Tk.sp t), AV.bool (Tk.lv t), AV.bool (Tk.wt t), AV.bool true, AV.int IntKind.i64 (Tk.rl t), AV.int IntKind.i64 (Tk.gt t), AV.bool (Tk.dn t), AV.int IntKind.i64 (Tk.ct t)])) (AObj.row 37 2 [AV.int IntKind.i64 (↑N : Int), AV.int IntKind.i64 (↑M : Int)])) <| .vh f2 <| .e [(11, v')] K3) (by kernel_rfl) (Kb_n' (Ks_n' (D.kr (.n (@wrap_to ((↑i : Int) + 1) ((↑(i + 1) : Int)) (by omega) (by omega) (by omega)) <| .e [(51, AV.int IntKind.i64 (↑(i + 1) : Int))] K3) (by kernel_rfl) ?_)))))))))))))))))))))))))))
  exact ⟨s.length - (i + 1), by omega, i + 1, v', (by first | exact rfl | exact True.intro), by omega, o3, w6, k6, by exact E_le (by decide) (E_size _ _) (by simp only [List.forall_mem_cons, List.not_mem_nil, false_implies, implies_true, and_true, List.cons_append, List.nil_append, Nat.zero_add, Nat.reduceAdd, E_get, Nat.reduceEqDiff, Nat.reduceLT, Nat.reduceLeDiff, if_true, if_false, and_self, true_and] <;> first | rfl | exact ⟨rfl, rfl⟩)⟩
end Go.Proofs.Ytcbholgcbjddjaa.sy

/- law17's awake (own work). -/
namespace Go.Proofs.Ytcbholgcbjddjaa.sy
open Go.AM Go.AM.Jb
set_option linter.unusedSimpArgs false
set_option linter.unusedVariables false
variable {G : List Nat → Option (List AV)} {base : Nat} {w0 : World}
set_option maxRecDepth 100000
set_option maxHeartbeats 8000000
variable {H : AHeap}
def tkA : Tk := ⟨4, 1, 3, false, false, false, true, 0, 0, false, 0⟩
theorem awake_p {srt : List Tk → List Tk} (hS : SortSpec (kn G base w0) srt) : Pt (kn G base w0) 6 [] H (.bool true) H := by
  refine Pt.pure ?_ rfl
  refine Pt.fn (n := 44) (rs := [.tmp 0]) Try.func6 (b := _) rfl rfl rfl (by decide) ?_
  simp only [numbered]
  have k0 : Keep H (hnew H (.row 26 11 (encT tkA))) (fun _ => False) := Keep.new _ _
  obtain ⟨r, K1, p1, o1, k1, a1⟩ := rows_ok (G := G) (base := base) (w0 := w0) (l := [tkA]) (SlF.single (H := H) (w := wT) (x := tkA) (e := 26)) (by intro b hb; have hb := Option.some.inj hb; rw [len_new]; omega) (by simp)
  have hs : srt [tkA] = [tkA] := List.perm_singleton.1 (hS.1 [tkA]).2.1
  obtain ⟨r2, K2, p2, u, rfl, o2, k2, a2⟩ := all_ok (G := G) (base := base) (w0 := w0) hS o1 (by simp) (by simp) 1 3 (by omega) (by omega) (by
    rw [hs]
    intro i hi
    obtain rfl : i = 0 := by simp at hi; omega
    exact ⟨by show tmay tkA; decide, fun h => absurd h (by omega)⟩)
  rw [hs] at o2
  replace o2 : OwnF K2 wSh u 42 [⟨4, 2, 3, false⟩] := o2
  have p3 := sum_p (G := G) (base := base) (w0 := w0) (o2.sl (c := (kn G base w0).c)) (fun b hb => o2.lt hb) (by simp) (by
    refine ⟨?_, ?_⟩
    · intro s hs
      obtain rfl := List.mem_singleton.1 hs
      decide
    · intro i
      cases i with
      | zero => decide
      | succ i => rw [List.take_of_length_le (by simp)]; decide)
  replace p3 : Pt (kn G base w0) 10 [u] K2 (.tuple [rt 2 3, .int .i64 0]) K2 := p3
  have k3 : Keep H K2 (fun _ => False) := (k0.trans k1).trans k2
  replace p1 : Pt (kn G base w0) 9 [.slice (.own H.length) 11 0 1] (hnew H (.row 26 11 (encT tkA))) r K1 := p1
  have ia := (o2.sl (c := (kn G base w0).c)).ia (t := 30) Try.underlying30 sz42 (i := 0) (by simp) .i64
  rcases o2 with ⟨_, h⟩ | ⟨b, rfl, hb⟩
  · cases h
  replace hb : hat K2 b = some (.row 42 4 [.int .i64 4, .int .i64 2, .int .i64 3, .bool false]) := hb
  replace p3 : Pt (kn G base w0) 10 [.slice (.own b) 4 0 1] K2 (.tuple [rt 2 3, .int .i64 0]) K2 := p3
  replace ia : aindexAddr (kn G base w0).c 30 (.slice (.own b) 4 0 1) (.int .i64 0) = some (.ptr (.own b) 0) := ia
  clear k0 k1 k2 o1 a1 a2 hs
  simp only [encT, tkA] at p1
  have hb2 : hat (hnew K2 (.row 37 2 [.int .i64 2, .int .i64 3])) b = some (.row 42 4 [.int .i64 4, .int .i64 2, .int .i64 3, .bool false]) := hat_up hb _
  refine D.sq (D.ks (.e [(0, AV.bool false)] H) (by kernel_rfl) (D.sq (D.ks (.c p1 <| .c p2 <| .e [(2, AV.int IntKind.i64 0), (1, AV.slice (Loc.own b) 4 0 1)] K2) (by kernel_rfl) (D.sq (D.ks (.c p3 <| .h (st_top (H := K2) (t := 37) (e := 2) (cs := [AV.int IntKind.i64 0, AV.int IntKind.i64 0]) (off := 0) (vs := [AV.int IntKind.i64 2, AV.int IntKind.i64 3]) (cs' := [AV.int IntKind.i64 2, AV.int IntKind.i64 3]) rfl rfl rfl) <| .e [(4, AV.int IntKind.i64 0), (3, AV.ptr (Loc.own (List.length K2)) 0)] (hnew K2 (AObj.row 37 2 [AV.int IntKind.i64 2, AV.int IntKind.i64 3]))) (by kernel_rfl) (D.sq (D.ks (.a <| .a <| .a <| .a <| .v ia <| .a <| .q hb2 <| .a <| .q (@hat_nn K2 (AObj.row 37 2 [AV.int IntKind.i64 2, AV.int IntKind.i64 3])) <| .v ia <| .a <| .q hb2 <| .a <| .e [(0, AV.bool true)] (hnew K2 (AObj.row 37 2 [AV.int IntKind.i64 2, AV.int IntKind.i64 3]))) (by kernel_rfl) (D.ret (Kf_by (AV.bool true) (.r (AV.bool true)) (by kernel_rfl) ?_)))))))))
  exact ⟨rfl, k3.trans (Keep.new _ _)⟩
end Go.Proofs.Ytcbholgcbjddjaa.sy

/- sums of fractions in lowest terms (own work; plain law). -/
namespace Go.Proofs.Ytcbholgcbjddjaa.sy
open Go.AM Go.AM.Jb
set_option linter.unusedSimpArgs false
set_option linter.unusedVariables false
theorem qadd_eq {q : Nat × Nat} {s : Sh} {L S : Nat} (h1 : 0 < q.2) (h2 : 0 < s.d) (hd : s.d ∣ L) (h : q.1 * L = q.2 * S) : (qadd q s).1 * L = (qadd q s).2 * (S + s.n * (L / s.d)) := by
  obtain ⟨m, rfl⟩ := hd
  have hm : s.d * m / s.d = m := Nat.mul_div_cancel_left _ h2
  rw [hm]
  have hp : 0 < q.2 * s.d := Nat.mul_pos h1 h2
  have hg : 0 < Nat.gcd (q.1 * s.d + s.n * q.2) (q.2 * s.d) := Nat.gcd_pos_of_pos_right _ hp
  obtain ⟨x, hx⟩ := Nat.gcd_dvd_left (q.1 * s.d + s.n * q.2) (q.2 * s.d)
  obtain ⟨y, hy⟩ := Nat.gcd_dvd_right (q.1 * s.d + s.n * q.2) (q.2 * s.d)
  show (q.1 * s.d + s.n * q.2) / Nat.gcd (q.1 * s.d + s.n * q.2) (q.2 * s.d) * (s.d * m) = (q.2 * s.d) / Nat.gcd (q.1 * s.d + s.n * q.2) (q.2 * s.d) * (S + s.n * m)
  generalize Nat.gcd (q.1 * s.d + s.n * q.2) (q.2 * s.d) = g at *
  rw [hx, hy, Nat.mul_div_cancel_left _ hg, Nat.mul_div_cancel_left _ hg]
  apply Nat.eq_of_mul_eq_mul_left hg
  rw [← Nat.mul_assoc g x, ← Nat.mul_assoc g y, ← hx, ← hy]
  have e1 : (q.1 * s.d + s.n * q.2) * (s.d * m) = q.1 * (s.d * m) * s.d + s.n * q.2 * (s.d * m) := by rw [Nat.add_mul]; congr 1; rw [Nat.mul_right_comm]
  rw [e1, h, Nat.mul_add]
  congr 1
  · rw [Nat.mul_right_comm]
  · simp only [Nat.mul_comm, Nat.mul_left_comm, Nat.mul_assoc]
def nS (L : Nat) (l : List Sh) : Nat := l.foldl (fun n s => n + s.n * (L / s.d)) 0
theorem fold_eq {L : Nat} : ∀ {l : List Sh} {q : Nat × Nat} {S : Nat}, 0 < q.2 → (∀ s ∈ l, 0 < s.d ∧ s.d ∣ L) → q.1 * L = q.2 * S → 0 < (l.foldl qadd q).2 ∧ (l.foldl qadd q).1 * L = (l.foldl qadd q).2 * (l.foldl (fun n s => n + s.n * (L / s.d)) S)
  | [], q, S, h1, _, h => ⟨h1, h⟩
  | s :: l, q, S, h1, hs, h => by
    have hs0 := hs s (List.mem_cons_self ..)
    exact fold_eq (l := l) (qadd_low h1 hs0.1).1 (fun t ht => hs t (List.mem_cons_of_mem _ ht)) (qadd_eq h1 hs0.1 hs0.2 h)
theorem qsum_eq {L : Nat} {l : List Sh} (hs : ∀ s ∈ l, 0 < s.d ∧ s.d ∣ L) : (qsum l).1 * L = (qsum l).2 * nS L l :=
  (fold_eq (q := (0, 1)) (S := 0) Nat.one_pos hs (by simp)).2
/-- a sum's denominator goes into every common multiple -/
theorem qsum_dvd {L : Nat} {l : List Sh} (hs : ∀ s ∈ l, 0 < s.d ∧ s.d ∣ L) : (qsum l).2 ∣ L := by
  have h := qsum_eq hs
  have hl := (qsum_low (l := l) (fun s h => (hs s h).1) l.length).2
  rw [List.take_length] at hl
  have h2 : (qsum l).2 ∣ (qsum l).1 * L := ⟨_, h⟩
  exact Nat.Coprime.dvd_of_dvd_mul_left (Nat.Coprime.symm hl) h2
end Go.Proofs.Ytcbholgcbjddjaa.sy

/- sums of shares against sums of tasks (own work; plain law). -/
namespace Go.Proofs.Ytcbholgcbjddjaa.sy
open Go.AM Go.AM.Jb
set_option linter.unusedSimpArgs false
set_option linter.unusedVariables false
theorem qsum_le {L K : Nat} {l : List Sh} (hL : 0 < L) (hs : ∀ s ∈ l, 0 < s.d ∧ s.d ∣ L) (h : nS L l ≤ K * L) : (qsum l).1 ≤ (qsum l).2 * K := by
  have h1 := qsum_eq hs
  have h2 := Nat.mul_le_mul_left (qsum l).2 h
  rw [← h1, ← Nat.mul_assoc] at h2
  exact Nat.le_of_mul_le_mul_right h2 hL
theorem foldl_add {α : Type} (f : α → Nat) : ∀ (l : List α) (n : Nat), l.foldl (fun n s => n + f s) n = n + l.foldl (fun n s => n + f s) 0
  | [], n => rfl
  | a :: l, n => by
    show l.foldl _ (n + f a) = n + l.foldl _ (0 + f a)
    rw [foldl_add f l (n + f a), foldl_add f l (0 + f a)]
    omega
theorem nS_take {L : Nat} {l : List Sh} (i : Nat) : nS L (l.take i) ≤ nS L l := by
  have h : nS L l = nS L (l.take i ++ l.drop i) := by rw [List.take_append_drop]
  rw [h, nS, nS, List.foldl_append, foldl_add (fun s : Sh => s.n * (L / s.d)) (l.drop i)]
  exact Nat.le_add_right _ _
/-- a share's part of a common multiple -/
theorem lowN_part {w e p L : Nat} (he : 1 ≤ e) (hp : 0 < p) (hL : p ∣ L) : (lowN w e p).1 * (L / (lowN w e p).2) = w * (e * (L / p)) ∧ 0 < (lowN w e p).2 ∧ (lowN w e p).2 ∣ p ∧ Nat.gcd (lowN w e p).1 (lowN w e p).2 = 1 := by
  obtain ⟨m, rfl⟩ := hL
  have hg : 0 < Nat.gcd e p := Nat.gcd_pos_of_pos_right _ hp
  obtain ⟨e', he'⟩ := Nat.gcd_dvd_left e p
  obtain ⟨p', hp'⟩ := Nat.gcd_dvd_right e p
  unfold lowN
  simp only []
  generalize Nat.gcd e p = g at *
  have d1 : e / g = e' := by rw [he', Nat.mul_div_cancel_left _ hg]
  have d2 : p / g = p' := by rw [hp', Nat.mul_div_cancel_left _ hg]
  rw [d1, d2]
  have hp0 : 0 < p' := by rcases Nat.eq_zero_or_pos p' with h | h; · subst h; omega
                          · exact h
  have hh : 0 < Nat.gcd (w * e') p' := Nat.gcd_pos_of_pos_right _ hp0
  obtain ⟨a, ha⟩ := Nat.gcd_dvd_left (w * e') p'
  obtain ⟨d, hd⟩ := Nat.gcd_dvd_right (w * e') p'
  have hco : Nat.gcd (w * e' / Nat.gcd (w * e') p') (p' / Nat.gcd (w * e') p') = 1 := by
    rw [Nat.gcd_div (Nat.gcd_dvd_left _ _) (Nat.gcd_dvd_right _ _), Nat.div_self hh]
  generalize Nat.gcd (w * e') p' = h at *
  have d3 : w * e' / h = a := by rw [ha, Nat.mul_div_cancel_left _ hh]
  have d4 : p' / h = d := by rw [hd, Nat.mul_div_cancel_left _ hh]
  rw [d3, d4] at hco
  rw [d3, d4]
  have hd0 : 0 < d := by rcases Nat.eq_zero_or_pos d with h | h; · subst h; omega
                         · exact h
  have d5 : p * m / d = g * h * m := by
    rw [hp', hd, show g * (h * d) * m = d * (g * h * m) by simp only [Nat.mul_comm, Nat.mul_left_comm, Nat.mul_assoc], Nat.mul_div_cancel_left _ hd0]
  have d6 : p * m / p = m := Nat.mul_div_cancel_left _ hp
  refine ⟨?_, hd0, ⟨g * h, by rw [hp', hd]; simp only [Nat.mul_comm, Nat.mul_left_comm, Nat.mul_assoc]⟩, hco⟩
  rw [d5, d6, show a * (g * h * m) = (h * a) * (g * m) by simp only [Nat.mul_comm, Nat.mul_left_comm, Nat.mul_assoc], ← ha, he']
  simp only [Nat.mul_comm, Nat.mul_left_comm, Nat.mul_assoc]
end Go.Proofs.Ytcbholgcbjddjaa.sy

/- what Can grants (own work; plain law). -/
namespace Go.Proofs.Ytcbholgcbjddjaa.sy
open Go.AM Go.AM.Jb
set_option linter.unusedSimpArgs false
set_option linter.unusedVariables false
theorem lcmF_dvd : ∀ {l : List R3} {n : Nat}, lcmF n l ≤ 16777216 → n ∣ lcmF n l ∧ ∀ t ∈ l, t.p ∣ lcmF n l
  | [], n, _ => ⟨Nat.dvd_refl _, fun _ h => absurd h (by simp)⟩
  | t :: l, n, h => by
    simp only [lcmF] at h ⊢
    split at h
    · omega
    rename_i hc
    rw [if_neg hc]
    obtain ⟨h1, h2⟩ := lcmF_dvd h
    have h3 : t.p ∣ n / Nat.gcd n t.p * t.p := Nat.dvd_mul_left _ _
    have h4 : n ∣ n / Nat.gcd n t.p * t.p := by
      obtain ⟨q, hq⟩ := Nat.gcd_dvd_right n t.p
      have h5 : n / Nat.gcd n t.p * t.p = n / Nat.gcd n t.p * Nat.gcd n t.p * q := by rw [Nat.mul_assoc, ← hq]
      rw [h5, Nat.div_mul_cancel (Nat.gcd_dvd_left _ _)]
      exact Nat.dvd_mul_right _ _
    refine ⟨Nat.dvd_trans h4 h1, fun u hu => ?_⟩
    rcases List.mem_cons.1 hu with rfl | hu
    · exact Nat.dvd_trans h3 h1
    · exact h2 u hu
theorem canF_zero {l : List R3} {k e p : Nat} (hp : 0 < p) (hl : ∀ t ∈ l, 0 < t.p) (h : canF l k e p = 0) : lcmF 1 (l ++ [⟨0, e, p⟩]) ≤ 16777216 ∧ nF (lcmF 1 (l ++ [⟨0, e, p⟩])) (l ++ [⟨0, e, p⟩]) ≤ k * lcmF 1 (l ++ [⟨0, e, p⟩]) := by
  unfold canF at h
  simp only [] at h
  have hM : 0 < lcmF 1 (l ++ [⟨0, e, p⟩]) := lcmF_pos (by omega) fun t ht => by
    rcases List.mem_append.1 ht with ht | ht
    · exact hl t ht
    · obtain rfl := List.mem_singleton.1 ht; exact hp
  generalize lcmF 1 (l ++ [⟨0, e, p⟩]) = M at *
  generalize nF M (l ++ [⟨0, e, p⟩]) = N at *
  split at h
  · omega
  split at h
  · omega
  rename_i h1 h2
  refine ⟨by omega, ?_⟩
  have h3 := Nat.mul_le_mul_right (Nat.gcd N M) (Nat.le_of_not_lt h2)
  rw [Nat.mul_assoc, Nat.div_mul_cancel (Nat.gcd_dvd_left _ _), Nat.div_mul_cancel (Nat.gcd_dvd_right _ _)] at h3
  exact h3
end Go.Proofs.Ytcbholgcbjddjaa.sy

/- a part of a cell in a row of structs (own work). -/
namespace Go.AM
open Go.RowKit
set_option linter.unusedSimpArgs false
set_option linter.unusedVariables false
variable {c : Ctx} {H : AHeap} {α : Type} {w : Wd α}
theorem SlF.ldP {v : AV} {xs : List α} (h : SlF c H w v xs) {i j n : Nat} (hi : i < xs.length) {t : TypeId} (ha : isAggT c.P t = some true) (hs : szOf c.P t = some n) (hj : j + n ≤ w.W) : aload c H t (ptrJ w v i j) = some (.agg (((w.enc xs[i]).drop j).take n)) := by
  obtain ⟨l, st, cs, rfl, hr, hc, hl⟩ := h.at (by intro e; rw [e] at hi; simp at hi)
  have hlt : i * w.W + w.W ≤ xs.length * w.W := by
    have := Nat.mul_le_mul_right w.W (show i + 1 ≤ xs.length by omega)
    rw [Nat.succ_mul] at this; exact this
  have hle : (st + i) * w.W + j + n ≤ cs.length := by
    rw [Nat.add_mul]; omega
  simp only [ptrJ, aload, ha, hs, Option.bind_some, if_true, rd, hr, if_pos hle, Option.map_some]
  congr 2
  apply List.ext_getElem?
  intro k
  rw [List.getElem?_take, List.getElem?_take]
  by_cases hk : k < n
  · rw [if_pos hk, if_pos hk, List.getElem?_drop, List.getElem?_drop]
    have h2 := congrArg (fun l => l[i * w.W + (j + k)]?) hc
    simp only [List.getElem?_take, if_pos (show i * w.W + (j + k) < xs.length * w.W by omega), List.getElem?_drop, w.fl_get hi (show j + k < w.W by omega)] at h2
    rw [← h2, Nat.add_mul]; congr 1; omega
  · rw [if_neg hk, if_neg hk]
end Go.AM

/- all shares against all tasks (own work; plain law). -/
namespace Go.Proofs.Ytcbholgcbjddjaa.sy
open Go.AM Go.AM.Jb
set_option linter.unusedSimpArgs false
set_option linter.unusedVariables false
def rOf (t : Tk) : R3 := ⟨t.id, t.e.toNat, t.p.toNat⟩
theorem nS_shs {w L : Nat} : ∀ {x : List Tk}, (∀ t ∈ x, t.ac = true ∧ tmay t ∧ t.p.toNat ∣ L) → nS L (shs w x) = w * nF L (x.map rOf)
  | [], _ => rfl
  | t :: x, h => by
    obtain ⟨h1, ⟨h2, h3, h4⟩, h5⟩ := h t (List.mem_cons_self ..)
    have ih := nS_shs (w := w) (L := L) (x := x) fun u hu => h u (List.mem_cons_of_mem _ hu)
    have hp := (lowN_part (w := w) (e := t.e.toNat) (p := t.p.toNat) (L := L) (by omega) (by omega) h5).1
    have e1 : shs w (t :: x) = shOf w t :: shs w x := by simp [shs, h1]
    have e2 : nS L (shOf w t :: shs w x) = (shOf w t).n * (L / (shOf w t).d) + nS L (shs w x) := by
      show (shs w x).foldl _ (0 + _) = _
      rw [foldl_add (fun s : Sh => s.n * (L / s.d)) (shs w x)]
      rw [Nat.zero_add]; rfl
    have e3 : nF L ((t :: x).map rOf) = t.e.toNat * (L / t.p.toNat) + nF L (x.map rOf) := by
      show (x.map rOf).foldl _ (0 + _) = _
      rw [foldl_add (fun s : R3 => s.e * (L / s.p)) (x.map rOf)]
      rw [Nat.zero_add]; rfl
    rw [e1, e2, e3, ih, Nat.mul_add]
    congr 1
theorem shs_good {w L : Nat} {x : List Tk} (h : ∀ t ∈ x, t.ac = true ∧ tmay t ∧ t.p.toNat ∣ L) : ∀ s ∈ shs w x, (0 < s.d ∧ s.d ∣ L) ∧ Nat.gcd s.n s.d = 1 := by
  intro s hs
  obtain ⟨t, ht, rfl⟩ := List.mem_map.1 hs
  obtain ⟨h1, ⟨h2, h3, h4⟩, h5⟩ := h t (List.mem_filter.1 ht).1
  obtain ⟨_, a2, a3, a4⟩ := lowN_part (w := w) (e := t.e.toNat) (p := t.p.toNat) (L := L) (by omega) (by omega) h5
  exact ⟨⟨a2, Nat.dvd_trans a3 h5⟩, a4⟩
end Go.Proofs.Ytcbholgcbjddjaa.sy

/- the sums stay small (own work; plain law). -/
namespace Go.Proofs.Ytcbholgcbjddjaa.sy
open Go.AM Go.AM.Jb
set_option linter.unusedSimpArgs false
set_option linter.unusedVariables false
theorem nS_mem {L : Nat} : ∀ {l : List Sh} {s : Sh}, s ∈ l → s.n * (L / s.d) ≤ nS L l
  | a :: l, s, h => by
    have e2 : nS L (a :: l) = a.n * (L / a.d) + nS L l := by
      show l.foldl _ (0 + _) = _
      rw [foldl_add (fun s : Sh => s.n * (L / s.d)) l]
      rw [Nat.zero_add]; rfl
    rw [e2]
    rcases List.mem_cons.1 h with rfl | h
    · omega
    · have := nS_mem (L := L) h
      omega
theorem small_of {L K : Nat} {l : List Sh} (hL : 0 < L) (hL2 : L ≤ 16777216) (hK : K ≤ 180) (hs : ∀ s ∈ l, (0 < s.d ∧ s.d ∣ L) ∧ Nat.gcd s.n s.d = 1) (h : nS L l ≤ K * L) : QSmall l := by
  have hb : ∀ d n : Nat, d ≤ 16777216 → n ≤ d * K → n < 4294967296 := fun d n h1 h2 => by
    have := Nat.mul_le_mul h1 hK; omega
  refine ⟨fun s hm => ?_, fun i => ?_⟩
  · obtain ⟨⟨h1, h2⟩, h3⟩ := hs s hm
    have h4 : s.d ≤ L := Nat.le_of_dvd hL h2
    have h5 := Nat.le_trans (nS_mem (L := L) hm) h
    have h6 : s.n ≤ s.d * K := by
      have h7 := Nat.mul_le_mul_right s.d h5
      rw [Nat.mul_assoc, Nat.div_mul_cancel h2, Nat.mul_right_comm, Nat.mul_comm K] at h7
      exact Nat.le_of_mul_le_mul_right h7 hL
    exact ⟨hb _ _ (by omega) h6, by omega, h1, h3⟩
  · have hs' : ∀ s ∈ l.take i, 0 < s.d ∧ s.d ∣ L := fun s hm => (hs s (List.mem_of_mem_take hm)).1
    have h1 := qsum_le hL hs' (Nat.le_trans (nS_take i) h)
    have h2 := Nat.le_of_dvd hL (qsum_dvd hs')
    exact ⟨hb _ _ (by omega) h1, by omega⟩
end Go.Proofs.Ytcbholgcbjddjaa.sy

/- two spans' shares make the whole span's (own work; plain law for ShareSplits). -/
namespace Go.Proofs.Ytcbholgcbjddjaa.sy
open Go.AM Go.AM.Jb
set_option linter.unusedSimpArgs false
set_option linter.unusedVariables false
theorem low_uniq {a b c d : Nat} (hb : 0 < b) (h : a * d = c * b) (g1 : Nat.gcd a b = 1) (g2 : Nat.gcd c d = 1) : a = c ∧ b = d := by
  have h1 : b ∣ d := Nat.Coprime.dvd_of_dvd_mul_left (Nat.Coprime.symm g1) ⟨c, by rw [h, Nat.mul_comm]⟩
  have h2 : d ∣ b := Nat.Coprime.dvd_of_dvd_mul_left (Nat.Coprime.symm g2) ⟨a, by rw [← h, Nat.mul_comm]⟩
  have h3 := Nat.dvd_antisymm h1 h2
  subst h3
  exact ⟨Nat.eq_of_mul_eq_mul_right hb h, rfl⟩
/-- ref1.Plus of two fractions -/
def fplus (q r : Nat × Nat) : Nat × Nat :=
  ((q.1 * (r.2 / Nat.gcd q.2 r.2) + r.1 * (q.2 / Nat.gcd q.2 r.2)) / Nat.gcd (q.1 * (r.2 / Nat.gcd q.2 r.2) + r.1 * (q.2 / Nat.gcd q.2 r.2)) (q.2 / Nat.gcd q.2 r.2 * r.2), (q.2 / Nat.gcd q.2 r.2 * r.2) / Nat.gcd (q.1 * (r.2 / Nat.gcd q.2 r.2) + r.1 * (q.2 / Nat.gcd q.2 r.2)) (q.2 / Nat.gcd q.2 r.2 * r.2))
theorem fplus_low {x y e p : Nat} (he : 1 ≤ e) (hp : 0 < p) : fplus (lowN x e p) (lowN y e p) = lowN (x + y) e p := by
  obtain ⟨a1, a2, ⟨k1, a3⟩, a4⟩ := lowN_part (w := x) (L := p) he hp (Nat.dvd_refl _)
  obtain ⟨b1, b2, ⟨k2, b3⟩, b4⟩ := lowN_part (w := y) (L := p) he hp (Nat.dvd_refl _)
  obtain ⟨c1, c2, ⟨k3, c3⟩, c4⟩ := lowN_part (w := x + y) (L := p) he hp (Nat.dvd_refl _)
  rw [Nat.div_self hp, Nat.mul_one] at a1 b1 c1
  generalize lowN x e p = q at *
  generalize lowN y e p = r at *
  generalize lowN (x + y) e p = z at *
  have a5 : p / q.2 = k1 := by rw [a3, Nat.mul_div_cancel_left _ a2]
  have b5 : p / r.2 = k2 := by rw [b3, Nat.mul_div_cancel_left _ b2]
  have c5 : p / z.2 = k3 := by rw [c3, Nat.mul_div_cancel_left _ c2]
  rw [a5] at a1
  rw [b5] at b1
  rw [c5] at c1
  unfold fplus
  obtain ⟨u, hu⟩ := Nat.gcd_dvd_left q.2 r.2
  obtain ⟨v, hv⟩ := Nat.gcd_dvd_right q.2 r.2
  have hg : 0 < Nat.gcd q.2 r.2 := Nat.gcd_pos_of_pos_left _ a2
  generalize Nat.gcd q.2 r.2 = g at *
  have d1 : q.2 / g = u := by rw [hu, Nat.mul_div_cancel_left _ hg]
  have d2 : r.2 / g = v := by rw [hv, Nat.mul_div_cancel_left _ hg]
  rw [d1, d2]
  have hu0 : 0 < u := Nat.pos_of_ne_zero fun h => by subst h; omega
  have hM : 0 < u * r.2 := Nat.mul_pos hu0 b2
  have key : (q.1 * v + r.1 * u) * p = u * r.2 * ((x + y) * e) := by
    rw [Nat.add_mul x y e, ← a1, ← b1, Nat.add_mul, Nat.mul_add]
    congr 1
    · rw [a3, hu, hv]; simp only [Nat.mul_comm, Nat.mul_left_comm, Nat.mul_assoc]
    · rw [b3]; simp only [Nat.mul_comm, Nat.mul_left_comm, Nat.mul_assoc]
  generalize q.1 * v + r.1 * u = N at *
  generalize u * r.2 = M at *
  have hh : 0 < Nat.gcd N M := Nat.gcd_pos_of_pos_right _ hM
  have hco : Nat.gcd (N / Nat.gcd N M) (M / Nat.gcd N M) = 1 := by
    rw [Nat.gcd_div (Nat.gcd_dvd_left _ _) (Nat.gcd_dvd_right _ _), Nat.div_self hh]
  have hB : 0 < M / Nat.gcd N M := Nat.div_pos (Nat.le_of_dvd hM (Nat.gcd_dvd_right _ _)) hh
  have e1 := Nat.div_mul_cancel (Nat.gcd_dvd_left N M)
  have e2 := Nat.div_mul_cancel (Nat.gcd_dvd_right N M)
  generalize Nat.gcd N M = h at *
  generalize N / h = A at *
  generalize M / h = B at *
  subst e1 e2
  have k : A * z.2 = z.1 * B := by
    apply Nat.eq_of_mul_eq_mul_right (Nat.mul_pos hp hh)
    have h1 : A * z.2 * (p * h) = A * h * p * z.2 := by simp only [Nat.mul_comm, Nat.mul_left_comm, Nat.mul_assoc]
    rw [h1, key, ← e.mul_comm, ← Nat.mul_comm (x + y) e, ← c1, c3]
    simp only [Nat.mul_comm, Nat.mul_left_comm, Nat.mul_assoc]
  obtain ⟨r1, r2⟩ := low_uniq hB k hco c4
  exact Prod.ext r1 r2
end Go.Proofs.Ytcbholgcbjddjaa.sy

/- what the tasks that Can lets in have (own work; plain law for ShareSums). -/
namespace Go.Proofs.Ytcbholgcbjddjaa.sy
open Go.AM Go.AM.Jb
set_option linter.unusedSimpArgs false
set_option linter.unusedVariables false
theorem lcmF_app (i j : Int) (e p : Nat) : ∀ (l : List R3) (n : Nat), lcmF n (l ++ [⟨i, e, p⟩]) = lcmF n (l ++ [⟨j, e, p⟩])
  | [], n => rfl
  | t :: l, n => by simp only [List.cons_append, lcmF, lcmF_app i j e p l]
theorem nF_app (i j : Int) (e p m : Nat) (l : List R3) : nF m (l ++ [⟨i, e, p⟩]) = nF m (l ++ [⟨j, e, p⟩]) := by
  simp only [nF, List.foldl_append, List.foldl_cons, List.foldl_nil]
/-- what is known of those that were let in -/
structure Gd (k i : Nat) (xs : List Tk) : Prop where
  each : ∀ t ∈ xs, t.ac = true ∧ tmay t ∧ t.p ≤ 24 ∧ t.id < i
  rise : xs.Pairwise (fun a b => a.id < b.id)
  low : lcmF 1 (xs.map rOf) ≤ 16777216
  fits : nF (lcmF 1 (xs.map rOf)) (xs.map rOf) ≤ k * lcmF 1 (xs.map rOf)
theorem Gd.nil (k : Nat) : Gd k 0 [] := ⟨by simp, List.Pairwise.nil, by show 1 ≤ _; omega, by show 0 ≤ _; omega⟩
theorem Gd.up {k i : Nat} {xs : List Tk} (h : Gd k i xs) : Gd k (i + 1) xs := ⟨fun t ht => by have := h.each t ht; exact ⟨this.1, this.2.1, this.2.2.1, by omega⟩, h.rise, h.low, h.fits⟩
theorem Gd.step {k i : Nat} {xs : List Tk} (h : Gd k i xs) {t : Tk} (hi : t.id = i) (ha : t.ac = true) (hm : tmay t) (hp : t.p ≤ 24) (hc : canF (xs.map rOf) k t.e.toNat t.p.toNat = 0) : Gd k (i + 1) (xs ++ [t]) := by
  obtain ⟨c1, c2⟩ := canF_zero (by have := hm.1; have := hm.2; omega) (fun r hr => by
    obtain ⟨u, hu, rfl⟩ := List.mem_map.1 hr
    obtain ⟨_, ⟨a, b, c⟩, _⟩ := h.each u hu
    show 0 < u.p.toNat; omega) hc
  have e1 : lcmF 1 ((xs ++ [t]).map rOf) = lcmF 1 (xs.map rOf ++ [⟨0, t.e.toNat, t.p.toNat⟩]) := by rw [List.map_append]; exact lcmF_app _ _ _ _ _ _
  have e2 : ∀ m, nF m ((xs ++ [t]).map rOf) = nF m (xs.map rOf ++ [⟨0, t.e.toNat, t.p.toNat⟩]) := fun m => by rw [List.map_append]; exact nF_app _ _ _ _ _ _
  refine ⟨fun u hu => ?_, ?_, by rw [e1]; exact c1, by rw [e1, e2]; exact c2⟩
  · rcases List.mem_append.1 hu with hu | hu
    · exact h.up.each u hu
    · obtain rfl := List.mem_singleton.1 hu
      exact ⟨ha, hm, hp, by omega⟩
  · refine List.pairwise_append.2 ⟨h.rise, List.pairwise_singleton _ _, fun a hx b hb => ?_⟩
    obtain rfl := List.mem_singleton.1 hb
    have := (h.each a hx).2.2.2
    omega
theorem Gd.dvd {k i : Nat} {xs : List Tk} (h : Gd k i xs) : ∀ t ∈ xs, t.ac = true ∧ tmay t ∧ t.p.toNat ∣ lcmF 1 (xs.map rOf) := fun t ht =>
  ⟨(h.each t ht).1, (h.each t ht).2.1, (lcmF_dvd h.low).2 _ (List.mem_map_of_mem ht)⟩
theorem Gd.pos {k i : Nat} {xs : List Tk} (h : Gd k i xs) : 0 < lcmF 1 (xs.map rOf) := lcmF_pos (by omega) fun r hr => by
    obtain ⟨u, hu, rfl⟩ := List.mem_map.1 hr
    obtain ⟨_, ⟨a, b, c⟩, _⟩ := h.each u hu
    show 0 < u.p.toNat; omega
theorem Gd.le {k i w : Nat} {xs : List Tk} (h : Gd k i xs) : nS (lcmF 1 (xs.map rOf)) (shs w xs) ≤ (w * k) * lcmF 1 (xs.map rOf) := by
  rw [nS_shs h.dvd, Nat.mul_assoc]; exact Nat.mul_le_mul_left _ h.fits
/-- their shares may be summed -/
theorem Gd.small {k i w : Nat} {xs : List Tk} (h : Gd k i xs) (hk : k ≤ 6) (hw : w ≤ 30) : QSmall (shs w xs) :=
  small_of h.pos h.low (K := w * k) (by have := Nat.mul_le_mul hw hk; omega) (shs_good h.dvd) h.le
theorem Gd.sum {k i w : Nat} {xs : List Tk} (h : Gd k i xs) : (qsum (shs w xs)).1 ≤ (qsum (shs w xs)).2 * (w * k) :=
  qsum_le h.pos (fun s hs => (shs_good h.dvd s hs).1) h.le
theorem Gd.len {k i w : Nat} {xs : List Tk} (h : Gd k i xs) : (shs w xs).length = xs.length := by
  unfold shs
  rw [List.length_map, List.filter_eq_self.2 fun t ht => (h.each t ht).1]
theorem Gd.at {k i w : Nat} {xs : List Tk} (h : Gd k i xs) {j : Nat} (hj : j < xs.length) : (shs w xs)[j]'(by rw [h.len]; exact hj) = shOf w xs[j] := by
  have : shs w xs = xs.map (shOf w) := by unfold shs; rw [List.filter_eq_self.2 fun t ht => (h.each t ht).1]
  simp only [this, List.getElem_map]
theorem Gd.good {k i : Nat} {xs : List Tk} (h : Gd k i xs) : ∀ j (hj : j < xs.length), gdAt xs j hj := fun j hj =>
  ⟨(h.each _ (List.getElem_mem hj)).2.1, fun h0 => by
    have := List.pairwise_iff_getElem.1 h.rise (j - 1) j (by omega) hj (by omega)
    omega⟩
/-- a whole period is just the quanta -/
theorem lowN_all {e p : Nat} (h1 : 1 ≤ e) (h2 : 0 < p) : lowN p e p = (e, 1) := by
  have h3 := lowN_part (w := p) (L := p) h1 h2 (Nat.dvd_refl _)
  obtain ⟨a, b, c, d⟩ := h3
  rw [Nat.div_self h2, Nat.mul_one] at a
  have h4 := low_uniq (a := (lowN p e p).1) (b := (lowN p e p).2) (c := e) (d := 1) b (by
    obtain ⟨m, hm⟩ := c
    have hm0 : 0 < m := Nat.pos_of_ne_zero fun h => by subst h; omega
    have e1 : p / (lowN p e p).2 = m := by
      generalize (lowN p e p).2 = z at *
      rw [hm, Nat.mul_div_cancel_left _ b]
    rw [e1] at a
    apply Nat.eq_of_mul_eq_mul_right hm0
    rw [Nat.mul_one, a, Nat.mul_assoc, ← hm, Nat.mul_comm]) d (Nat.gcd_one_right _)
  exact Prod.ext h4.1 h4.2
theorem lowN_le {w e p : Nat} (h1 : 1 ≤ e) (h2 : 0 < p) (h : e ≤ p) : (lowN w e p).1 ≤ (lowN w e p).2 * w ∧ 0 < (lowN w e p).2 ∧ (lowN w e p).2 ≤ p := by
  obtain ⟨a, b, c, d⟩ := lowN_part (w := w) (L := p) h1 h2 (Nat.dvd_refl _)
  refine ⟨?_, b, Nat.le_of_dvd h2 c⟩
  rw [Nat.div_self h2, Nat.mul_one] at a
  obtain ⟨m, hm⟩ := c
  have hm0 : 0 < m := Nat.pos_of_ne_zero fun h => by subst h; omega
  have e1 : p / (lowN w e p).2 = m := by
    generalize (lowN w e p).2 = z at *
    rw [hm, Nat.mul_div_cancel_left _ b]
  rw [e1] at a
  apply Nat.le_of_mul_le_mul_right (c := m) _ hm0
  rw [a, Nat.mul_right_comm, ← hm, Nat.mul_comm]
  exact Nat.mul_le_mul_right _ h
theorem perm_rise {srt : List Tk} {xs : List Tk} (h1 : srt.Perm xs) (h2 : srt.Pairwise (fun a b => a.id ≤ b.id)) (h3 : xs.Pairwise (fun a b => a.id < b.id)) : srt = xs := by
  induction xs generalizing srt with
  | nil => exact h1.eq_nil
  | cons x xs ih =>
    cases srt with
    | nil => have := h1.length_eq; simp at this
    | cons s srt =>
      have hx : s = x := by
        have m1 : s ∈ x :: xs := h1.subset (List.mem_cons_self ..)
        have m2 : x ∈ s :: srt := h1.symm.subset (List.mem_cons_self ..)
        rcases List.mem_cons.1 m1 with e | m1
        · exact e
        rcases List.mem_cons.1 m2 with e | m2
        · exact e.symm
        have a1 := List.rel_of_pairwise_cons h3 m1
        have a2 := List.rel_of_pairwise_cons h2 m2
        omega
      subst hx
      rw [ih ((List.perm_cons _).1 h1) (List.Pairwise.of_cons h2) (List.Pairwise.of_cons h3)]
end Go.Proofs.Ytcbholgcbjddjaa.sy

/-
  WHAT CAME IN (own work): the abstract machine's view of the memory ahead of a call: each slice that came in is a row told by its address; what reads as a type is a row of the machine's values.
-/
namespace Go.AM
open Go.RowKit Go.ChangeShapes Go.WideShapes Go.Deep
set_option linter.unusedVariables false
set_option linter.unusedSimpArgs false

/-- the types of an element's cells -/
def ctys (P : Program) : Nat → TypeId → List TypeId
  | 0, t => [t]
  | k + 1, t => match P.underlying t with
    | some (.struct fs) => fs.toList.flatMap fun f => ctys P k f.type
    | _ => [t]

/-- one cell, by its type -/
def cellAV (P : Program) (t : TypeId) (x : Value) : Option AV := match P.underlying t with
  | some (.slice e) => match x with
    | .slice none 0 0 => some .nilslice
    | .slice (some a) len cap => if cap = 0 then (if len = 0 then some (.odd a) else none) else if len ≤ cap ∧ a.spot = none then some (.slice (.ext [1, a.block, a.off, cap, e]) (ctys P 8 e).length 0 len) else none
    | _ => none
  | _ => scAV x

def cellsFrom (P : Program) (w : World) (b off : Nat) (ts : List TypeId) : Nat → Nat → List AV
  | 0, _ => []
  | k + 1, j => match (w.cell? ⟨b, off + j, none⟩).bind (cellAV P (ts.getD (j % ts.length) 0)) with
    | some v => if v.one then v :: cellsFrom P w b off ts k (j + 1) else []
    | none => []

def decG (P : Program) (w : World) : List Nat → Option (List AV)
  | [1, b, off, cap, e] => if b < w.heap.size then some (cellsFrom P w b off (ctys P 8 e) (cap * (ctys P 8 e).length) 0) else none
  | _ => none

def plA : Pl := fun l => match l with
  | .ext [0, g] => some ⟨g, 0, 0⟩
  | .ext [1, b, off, cap, _] => some ⟨b, off, cap⟩
  | _ => none

theorem cellAV_VR {P : Program} {t : TypeId} {x : Value} {v : AV} (h : cellAV P t x = some v) : VR plA v x := by
  unfold cellAV at h
  split at h
  · split at h
    · cases h; rfl
    · split at h
      · split at h
        · rename_i h0 h1; cases h; subst h0; subst h1; rfl
        · cases h
      · split at h
        · rename_i a len cap hc hl
          cases h
          refine ⟨⟨a.block, a.off, cap⟩, rfl, by simpa using hl.1, ?_⟩
          obtain ⟨b, o, s⟩ := a
          simp only at hl
          rw [hl.2]
          simp
        · cases h
    · cases h
  · exact scAV_sound h

theorem cellsFrom_get {P : Program} {w : World} {b off : Nat} {ts : List TypeId} : ∀ (k j0 j : Nat) (v : AV), (cellsFrom P w b off ts k j0)[j]? = some v → ∃ x, w.cell? ⟨b, off + (j0 + j), none⟩ = some x ∧ VR plA v x ∧ v.one = true
  | 0, j0, j, v, h => by simp [cellsFrom] at h
  | k + 1, j0, j, v, h => by
    unfold cellsFrom at h
    split at h
    · rename_i u hu
      split at h
      · rename_i h1
        cases j with
        | zero =>
          simp at h; subst h
          obtain ⟨x, hx, hv⟩ := Option.bind_eq_some_iff.1 hu
          exact ⟨x, hx, cellAV_VR hv, h1⟩
        | succ j =>
          simp at h
          have := cellsFrom_get k (j0 + 1) j v h
          rw [show j0 + (j + 1) = j0 + 1 + j by omega]
          exact this
      · simp at h
    · simp at h

theorem cellsFrom_all {P : Program} {w : World} {b off : Nat} {ts : List TypeId} {vs : List AV} : ∀ (k j0 : Nat), vs.length ≤ k → (∀ j (h : j < vs.length), ∃ x, w.cell? ⟨b, off + (j0 + j), none⟩ = some x ∧ cellAV P (ts.getD ((j0 + j) % ts.length) 0) x = some vs[j] ∧ vs[j].one = true) → (cellsFrom P w b off ts k j0).take vs.length = vs := by
  induction vs with
  | nil => intro k j0 _ _; rfl
  | cons v r ih =>
    intro k j0 hk h
    cases k with
    | zero => simp at hk
    | succ k =>
      obtain ⟨x, h1, h2, h3⟩ := h 0 (by simp)
      simp only [Nat.add_zero, List.getElem_cons_zero] at h1 h2 h3
      have : cellsFrom P w b off ts (k + 1) j0 = v :: cellsFrom P w b off ts k (j0 + 1) := by
        rw [cellsFrom, h1, Option.bind_some, h2]
        simp [h3]
      rw [this]
      simp only [List.length_cons, List.take_succ_cons, List.cons.injEq, true_and]
      refine ih k (j0 + 1) (by simpa using hk) fun j hj => ?_
      have := h (j + 1) (by simp; omega)
      simp only [List.getElem_cons_succ] at this
      rw [show j0 + 1 + j = j0 + (j + 1) by omega]
      exact this

def argC (P : Program) (w : World) : Ctx := { P, G := decG P w }
theorem relA (P : Program) (w : World) : Rel (argC P w) w.heap.size w plA [] w where
  below := Below.refl _ _
  size := Nat.le_refl _
  own := fun i o h => by simp [hat] at h
  inj := fun i j o o' p q h => by simp [hat] at h
  ext := fun path cells h => by
    change decG P w path = some cells at h
    unfold decG at h
    split at h
    · rename_i b off cap e
      split at h
      · rename_i hb
        cases h
        refine ⟨⟨b, off, cap⟩, rfl, hb, fun j v hj => ?_⟩
        have := cellsFrom_get _ _ _ _ hj
        simpa using this
      · cases h
    · cases h
  glob := fun g => ⟨0, rfl⟩
theorem freshA : Fresh plA [] := fun _ _ => rfl

section
variable {H : Type} {enc : TypeId × Value → H} {P : Program} {w : World} {base : Nat} {spare : Nat → Bool} {held : Bool}

/-- what reads as the type t is these cells, and they are as told -/
def OpA (enc : TypeId × Value → H) (P : Program) (w : World) (base : Nat) (spare : Nat → Bool) (held : Bool) (t : TypeId) (Good : List AV → Prop) : Prop :=
  ∀ fuel cs x, DataW.trod enc P w base spare held fuel t cs = some x → ∃ vs, vs.length = (ctys P 8 t).length ∧ cs.length = (ctys P 8 t).length ∧ Good vs ∧
    ∀ j (h : j < vs.length), ∃ y, cs[j]? = some y ∧ cellAV P ((ctys P 8 t).getD j 0) y = some vs[j] ∧ vs[j].one = true

theorem ctys_one {t : TypeId} {d : TypeDesc} (ht : P.underlying t = some d) (hn : ∀ fs, d ≠ .struct fs) : ctys P 8 t = [t] := by
  unfold ctys
  rw [ht]
  cases d <;> first | rfl | exact absurd rfl (hn _)

theorem opA_int {t : TypeId} {k : IntKind} (ht : P.underlying t = some (.int k)) : OpA enc P w base spare held t (fun vs => ∃ n, vs = [.int k n] ∧ (Lit.int k n).wf = true) := by
  intro fuel cs x h
  obtain ⟨n, rfl, _, hw⟩ := DataW.trod_int ht h
  rw [ctys_one ht (by simp)]
  refine ⟨[.int k n], rfl, rfl, ⟨n, rfl, hw⟩, fun j hj => ?_⟩
  obtain rfl : j = 0 := by simp at hj; omega
  exact ⟨_, rfl, by simp [cellAV, ht, scAV], rfl⟩
theorem opA_bool {t : TypeId} (ht : P.underlying t = some .bool) : OpA enc P w base spare held t (fun vs => ∃ b, vs = [.bool b]) := by
  intro fuel cs x h
  obtain ⟨n, rfl, _⟩ := DataW.trod_bool ht h
  rw [ctys_one ht (by simp)]
  refine ⟨[.bool n], rfl, rfl, ⟨n, rfl⟩, fun j hj => ?_⟩
  obtain rfl : j = 0 := by simp at hj; omega
  exact ⟨_, rfl, by simp [cellAV, ht, scAV], rfl⟩

/-- a slice that came in: its elements -/
def SlG (P : Program) (w : World) (v : AV) (k n : Nat) (Good : List AV → Prop) : Prop :=
  ((v = .nilslice ∨ ∃ a, v = .odd a) ∧ n = 0) ∨ ∃ path cs, v = .slice (.ext path) k 0 n ∧ decG P w path = some cs ∧ n * k ≤ cs.length ∧ ∀ i, i < n → Good ((cs.drop (i * k)).take k)

theorem opA_slice {t e : TypeId} {GoodE : List AV → Prop} (ht : P.underlying t = some (.slice e)) (hc : P.cellsOf e = (ctys P 8 e).length) (hk : 0 < (ctys P 8 e).length) (hsp : ∀ k, spare k = true) (he : OpA enc P w base spare held e GoodE) :
    OpA enc P w base spare held t (fun vs => ∃ v n, vs = [v] ∧ SlG P w v (ctys P 8 e).length n GoodE) := by
  intro fuel cs x h
  rw [ctys_one ht (by simp)]
  rcases open_slice ht h with ⟨rfl, _⟩ | ⟨a, len, cap, m, n, D, Pl, rfl, hb, hl, hm, hmm, hx, hi⟩
  · refine ⟨[.nilslice], rfl, rfl, ⟨_, 0, rfl, .inl ⟨.inl rfl, rfl⟩⟩, fun j hj => ?_⟩
    obtain rfl : j = 0 := by simp at hj; omega
    exact ⟨_, rfl, by simp [cellAV, ht], rfl⟩
  · rw [hsp, if_pos rfl] at hmm
    subst hmm
    rcases Nat.eq_zero_or_pos m with h0 | h0
    · subst h0
      obtain rfl : len = 0 := by omega
      refine ⟨[.odd a], rfl, rfl, ⟨_, 0, rfl, .inl ⟨.inr ⟨a, rfl⟩, rfl⟩⟩, fun j hj => ?_⟩
      obtain rfl : j = 0 := by simp at hj; omega
      exact ⟨_, rfl, by simp [cellAV, ht], rfl⟩
    · rw [hc] at hi
      generalize hK : (ctys P 8 e).length = K at hk hi he
      have hel : ∀ i, i < m → ∃ vs : List AV, vs.length = K ∧ GoodE vs ∧ ∀ j (h : j < vs.length), ∃ y, w.cell? (a.add (i * K + j)) = some y ∧ cellAV P ((ctys P 8 e).getD j 0) y = some vs[j] ∧ vs[j].one = true := by
        intro i him
        obtain ⟨cs', hcs, ht'⟩ := hi i him
        obtain ⟨_, hcl, hat⟩ := World.cells?_some hcs
        obtain ⟨vs, g1, g2, g3, g4⟩ := he _ _ _ ht'
        rw [hK] at g1 g2
        refine ⟨vs, g1, g3, fun j hj => ?_⟩
        obtain ⟨y, hy, hcy, ho⟩ := g4 j hj
        exact ⟨y, by rw [← Go.Deep.add_add, hat j (by omega), hy], hcy, ho⟩
      have hspot : a.spot = none ∧ a.block < w.heap.size := by
        obtain ⟨vs, g1, _, g4⟩ := hel 0 h0
        obtain ⟨y, hy, _⟩ := g4 0 (by omega)
        have hy' : w.cell? a = some y := by simpa [Addr.add] using hy
        have hlt := World.block_lt_of_cell? w a hy'
        refine ⟨?_, hlt⟩
        cases hs : a.spot with
        | none => rfl
        | some s =>
          unfold World.cell? at hy'
          split at hy'
          · simp [hs] at hy'
          · cases hy'
      obtain ⟨ab, ao, asp⟩ := a
      simp only at hspot
      obtain ⟨rfl, hblt⟩ := hspot
      have hadd : ∀ k, (⟨ab, ao, none⟩ : Addr).add k = ⟨ab, ao + k, none⟩ := by
        intro k
        unfold Addr.add
        split
        · rename_i hk0; subst hk0; rfl
        · rfl
      have hall : ∀ q, q ≤ m → ∃ vs : List AV, vs.length = q * K ∧ (∀ i, i < q → GoodE ((vs.drop (i * K)).take K)) ∧ ∀ j (h : j < vs.length), ∃ y, w.cell? ⟨ab, ao + j, none⟩ = some y ∧ cellAV P ((ctys P 8 e).getD (j % K) 0) y = some vs[j] ∧ vs[j].one = true := by
        intro q
        induction q with
        | zero => intro _; exact ⟨[], by simp, fun i h => by omega, fun j h => by simp at h⟩
        | succ q ih =>
          intro hq
          obtain ⟨vs, v1, v2, v3⟩ := ih (by omega)
          obtain ⟨us, u1, u2, u3⟩ := hel q (by omega)
          refine ⟨vs ++ us, by rw [List.length_append, v1, u1, Nat.succ_mul], fun i hi => ?_, fun j hj => ?_⟩
          · rcases Nat.lt_or_ge i q with h | h
            · have h2 : i * K + K ≤ q * K := by rw [← Nat.succ_mul]; exact Nat.mul_le_mul_right _ h
              rw [List.drop_append_of_le_length (by omega), List.take_append_of_le_length (by simp; omega)]
              exact v2 i h
            · obtain rfl : i = q := by omega
              rw [List.drop_append, ← v1]
              simp only [List.drop_length, Nat.sub_self, List.nil_append, List.drop_zero]
              rw [← u1, List.take_length]
              exact u2
          · rcases Nat.lt_or_ge j vs.length with h | h
            · obtain ⟨y, y1, y2, y3⟩ := v3 j h
              refine ⟨y, y1, ?_, ?_⟩
              · rw [List.getElem_append_left h]; exact y2
              · rw [List.getElem_append_left h]; exact y3
            · have hjl : j - vs.length < us.length := by simp at hj; omega
              obtain ⟨y, y1, y2, y3⟩ := u3 (j - vs.length) hjl
              rw [hadd] at y1
              have e1 : q * K + (j - vs.length) = j := by omega
              rw [e1] at y1
              have e2 : j % K = j - vs.length := by
                have e3 : (q * K + (j - vs.length)) % K = j - vs.length := by rw [Nat.mul_comm, Nat.mul_add_mod, Nat.mod_eq_of_lt (by omega)]
                rwa [e1] at e3
              refine ⟨y, y1, ?_, ?_⟩
              · rw [List.getElem_append_right h, e2]; exact y2
              · rw [List.getElem_append_right h]; exact y3
      obtain ⟨vs, v1, v2, v3⟩ := hall len hl
      refine ⟨[.slice (.ext [1, ab, ao, m, e]) K 0 len], rfl, rfl, ⟨_, len, rfl, .inr ⟨_, _, rfl, by simp only [decG]; rw [if_pos hblt], ?_, ?_⟩⟩, fun j hj => ?_⟩
      · have ht' := cellsFrom_all (P := P) (w := w) (b := ab) (off := ao) (ts := ctys P 8 e) (vs := vs) (m * K) 0 (by rw [v1]; exact Nat.mul_le_mul_right _ hl) (fun j h => by
          obtain ⟨y, y1, y2, y3⟩ := v3 j h
          rw [hK]
          simp only [Nat.zero_add]
          exact ⟨y, y1, y2, y3⟩)
        have := congrArg List.length ht'
        rw [List.length_take, v1] at this
        rw [hK]
        omega
      · intro i hi'
        have ht' := cellsFrom_all (P := P) (w := w) (b := ab) (off := ao) (ts := ctys P 8 e) (vs := vs) (m * K) 0 (by rw [v1]; exact Nat.mul_le_mul_right _ hl) (fun j h => by
          obtain ⟨y, y1, y2, y3⟩ := v3 j h
          rw [hK]
          simp only [Nat.zero_add]
          exact ⟨y, y1, y2, y3⟩)
        have h3 := v2 i hi'
        rw [hK]
        rw [← ht', v1, List.drop_take, List.take_take] at h3
        have h2 : i * K + K ≤ len * K := by rw [← Nat.succ_mul]; exact Nat.mul_le_mul_right _ hi'
        rw [Nat.min_eq_left (by omega)] at h3
        exact h3
      · obtain rfl : j = 0 := by simp at hj; omega
        refine ⟨_, rfl, ?_, rfl⟩
        simp only [List.getD_cons_zero, cellAV, ht]
        rw [if_neg (by omega), if_pos ⟨hl, by trivial⟩, hK]
        rfl

/-- a slice that came in, as a list of its elements' values (one cell each) -/
theorem SlG.sl {v : AV} {n : Nat} {Good : List AV → Prop} (h : SlG P w v 1 n Good) : ∃ xs : List AV, xs.length = n ∧ v.at? = none ∧ (∀ K : AHeap, Sl (argC P w) K v xs) ∧ ∀ x ∈ xs, Good [x] := by
  rcases h with ⟨hv, rfl⟩ | ⟨path, cs, rfl, hG, hl, hg⟩
  · refine ⟨[], rfl, ?_, fun K => .inl ⟨hv, rfl⟩, by simp⟩
    rcases hv with rfl | ⟨a, rfl⟩ <;> rfl
  · refine ⟨cs.take n, by simp; omega, rfl, fun K => .inr ⟨.ext path, 0, by simp; omega, fun _ => ⟨cs, hG, by simp⟩⟩, fun x hx => ?_⟩
    obtain ⟨i, hi, rfl⟩ := List.getElem_of_mem hx
    have hin : i < n := by simp at hi; omega
    have := hg i hin
    have e : (cs.drop i).take 1 = [cs[i]] := by rw [List.drop_eq_getElem_cons (by omega)]; rfl
    rw [Nat.mul_one, e] at this
    simpa using this
theorem SlG.ints {v : AV} {n : Nat} {k : IntKind} {ok : Int → Prop} (h : SlG P w v 1 n (fun vs => ∃ n, vs = [AV.int k n] ∧ ok n)) : ∃ zs : List Int, zs.length = n ∧ v.at? = none ∧ (∀ K : AHeap, Sl (argC P w) K v (zs.map (AV.int k))) ∧ ∀ z ∈ zs, ok z := by
  obtain ⟨xs, h1, h2, h3, h4⟩ := h.sl
  have : ∃ zs : List Int, xs = zs.map (AV.int k) ∧ ∀ z ∈ zs, ok z := by
    clear h1 h3
    induction xs with
    | nil => exact ⟨[], rfl, by simp⟩
    | cons x r ih =>
      obtain ⟨zs, rfl, hz⟩ := ih (fun y hy => h4 y (by simp [hy]))
      obtain ⟨n, hn, hok⟩ := h4 x (by simp)
      simp at hn
      exact ⟨n :: zs, by simp [hn], by intro z hz'; rcases List.mem_cons.1 hz' with rfl | e; exact hok; exact hz z e⟩
  obtain ⟨zs, rfl, hz⟩ := this
  exact ⟨zs, by simpa using h1, h2, h3, hz⟩

/-- an argument of one cell -/
theorem argA {t : TypeId} {Good : List AV → Prop} (ho : OpA enc P w base spare held t Good) (h1 : ctys P 8 t = [t]) {v : Value} {dd : DataW H} {ps : List MemPlace} (h : DataW.Trod enc P w base spare held t v dd ps) (hc : v.cells = #[v]) : ∃ u, VR plA u v ∧ Good [u] := by
  obtain ⟨fuel, hf⟩ := h
  obtain ⟨vs, g1, g2, g3, g4⟩ := ho _ _ _ hf
  rw [h1] at g1
  match vs, g1 with
  | [u], _ =>
    obtain ⟨y, hy, hcy, _⟩ := g4 0 (by simp)
    rw [hc] at hy
    simp at hy
    subst hy
    exact ⟨u, cellAV_VR hcy, g3⟩
end
end Go.AM

/-
  WHAT CAME IN, MORE (own work): structs of fields of any kinds, and slices of them.
-/
namespace Go.AM
open Go.RowKit Go.ChangeShapes Go.WideShapes Go.Deep
set_option linter.unusedVariables false
set_option linter.unusedSimpArgs false
section
variable {H : Type} {enc : TypeId × Value → H} {P : Program} {w : World} {base : Nat} {spare : Nat → Bool} {held : Bool}
/-- cells told field by field -/
def GoodL : List (List AV → Prop) → List AV → Prop
  | [], vs => vs = []
  | G :: Gs, vs => ∃ a b, vs = a ++ b ∧ G a ∧ GoodL Gs b
theorem GoodL.snoc {G : List AV → Prop} {a : List AV} (ha : G a) : ∀ {Gs : List (List AV → Prop)} {vs : List AV}, GoodL Gs vs → GoodL (Gs ++ [G]) (vs ++ a)
  | [], vs, h => by simp only [GoodL] at h; subst h; exact ⟨a, [], by simp, ha, rfl⟩
  | G' :: Gs, vs, h => by
    obtain ⟨x, y, rfl, hx, hy⟩ := h
    exact ⟨x, y ++ a, by simp, hx, GoodL.snoc ha hy⟩
theorem opA_struct {t : TypeId} {fs : List Field} {fa : Array Field} (ht : P.underlying t = some (.struct fa)) (hfa : fa.toList = fs) (hct : ctys P 8 t = fs.flatMap fun f => ctys P 8 f.type)
    (hc : P.cellsOf t = (ctys P 8 t).length) (Gs : List (List AV → Prop)) (hl : Gs.length = fs.length)
    (ho : ∀ i f G, fs[i]? = some f → Gs[i]? = some G → f.offset = ((fs.take i).flatMap fun f => ctys P 8 f.type).length ∧ P.cellsOf f.type = (ctys P 8 f.type).length ∧ OpA enc P w base spare held f.type G) :
    OpA enc P w base spare held t (GoodL Gs) := by
  intro fuel cs x h
  obtain ⟨l⟩ := fa
  have hfa' : fs = l := hfa.symm
  subst hfa'
  obtain ⟨xs, m, _, hx, hlen, hn, hel⟩ := DataW.trod_struct ht h
  have key : ∀ k, k ≤ fs.length → ∃ vs : List AV, vs.length = ((fs.take k).flatMap fun f => ctys P 8 f.type).length ∧ GoodL (Gs.take k) vs ∧
      ∀ j (h : j < vs.length), ∃ y, cs[j]? = some y ∧ cellAV P (((fs.take k).flatMap fun f => ctys P 8 f.type).getD j 0) y = some vs[j] ∧ vs[j].one = true := by
    intro k
    induction k with
    | zero => intro _; exact ⟨[], by simp, by simp [GoodL], fun j hj => by simp at hj⟩
    | succ k ih =>
      intro hk
      obtain ⟨vs, v1, v2, v3⟩ := ih (by omega)
      have hfk : fs[k]? = some fs[k] := List.getElem?_eq_getElem (by omega)
      have hGk : Gs[k]? = some Gs[k] := List.getElem?_eq_getElem (by omega)
      obtain ⟨o1, o2, o3⟩ := ho k _ _ hfk hGk
      have hxk : k < xs.length := by have : xs.length = fs.length := by simpa using hn
                                     omega
      have hg := hel k fs[k] (by simp)
      rw [List.getElem?_eq_getElem hxk] at hg
      obtain ⟨us, u1, u2, u3, u4⟩ := o3 _ _ _ (by first | exact hg | simpa using hg)
      rw [List.take_succ_eq_append_getElem (show k < fs.length by omega), List.take_succ_eq_append_getElem (show k < Gs.length by omega), List.flatMap_append]
      have e1 : List.flatMap (fun f : Field => ctys P 8 f.type) [fs[k]] = ctys P 8 fs[k].type := by simp
      rw [e1]
      refine ⟨vs ++ us, by simp [v1, u1], GoodL.snoc u3 v2, fun j hj => ?_⟩
      by_cases hjv : j < vs.length
      · obtain ⟨y, y1, y2, y3⟩ := v3 j hjv
        rw [List.getElem_append_left hjv]
        refine ⟨y, y1, ?_, y3⟩
        rw [List.getD_eq_getElem?_getD, List.getElem?_append_left (by omega), ← List.getD_eq_getElem?_getD]
        exact y2
      · have hju : j - vs.length < us.length := by simp at hj; omega
        obtain ⟨y, y1, y2, y3⟩ := u4 (j - vs.length) hju
        rw [List.getElem_append_right (by omega)]
        refine ⟨y, ?_, ?_, y3⟩
        · rw [List.getElem?_take, if_pos (by rw [u1] at hju; omega), List.getElem?_drop, o1, ← v1] at y1
          rw [← y1]; congr 1; omega
        · rw [List.getD_eq_getElem?_getD, List.getElem?_append_right (by omega), ← v1, ← List.getD_eq_getElem?_getD]
          exact y2
  obtain ⟨vs, v1, v2, v3⟩ := key fs.length (Nat.le_refl _)
  rw [List.take_length, ← hct] at v1
  rw [← hl, List.take_length] at v2
  refine ⟨vs, v1, by rw [← hc]; exact hlen, v2, fun j hj => ?_⟩
  obtain ⟨y, y1, y2, y3⟩ := v3 j hj
  rw [List.take_length, ← hct] at y2
  exact ⟨y, y1, y2, y3⟩
/-- what its fields read as -/
def OpAs (enc : TypeId × Value → H) (P : Program) (w : World) (base : Nat) (spare : Nat → Bool) (held : Bool) : List Field → List TypeId → List (List AV → Prop) → Prop
  | [], _, [] => True
  | f :: fs, done, G :: Gs => (f.offset = done.length ∧ P.cellsOf f.type = (ctys P 8 f.type).length) ∧ OpA enc P w base spare held f.type G ∧ OpAs enc P w base spare held fs (done ++ ctys P 8 f.type) Gs
  | _, _, _ => False
theorem OpAs.nil {done : List TypeId} : OpAs enc P w base spare held [] done [] := trivial
theorem OpAs.cons {f : Field} {fs : List Field} {done : List TypeId} {G : List AV → Prop} {Gs : List (List AV → Prop)} (h1 : f.offset = done.length) (h2 : P.cellsOf f.type = (ctys P 8 f.type).length) (h3 : OpA enc P w base spare held f.type G)
    (h4 : OpAs enc P w base spare held fs (done ++ ctys P 8 f.type) Gs) : OpAs enc P w base spare held (f :: fs) done (G :: Gs) := ⟨⟨h1, h2⟩, h3, h4⟩
theorem OpAs.at : ∀ {fs : List Field} {done : List TypeId} {Gs : List (List AV → Prop)}, OpAs enc P w base spare held fs done Gs → Gs.length = fs.length ∧ ∀ i f G, fs[i]? = some f → Gs[i]? = some G → f.offset = (done ++ (fs.take i).flatMap fun f => ctys P 8 f.type).length ∧ P.cellsOf f.type = (ctys P 8 f.type).length ∧ OpA enc P w base spare held f.type G
  | [], _, [], _ => ⟨rfl, fun i f G h => by simp at h⟩
  | f :: fs, done, G :: Gs, h => by
    obtain ⟨⟨h1, h2⟩, h3, h4⟩ := h
    obtain ⟨k1, k2⟩ := OpAs.at h4
    refine ⟨by simp [k1], fun i f' G' hf hG => ?_⟩
    cases i with
    | zero =>
      simp only [List.getElem?_cons_zero, Option.some.injEq] at hf hG
      subst hf hG
      exact ⟨by simp [h1], h2, h3⟩
    | succ i =>
      simp only [List.getElem?_cons_succ] at hf hG
      obtain ⟨a, b⟩ := k2 i f' G' hf hG
      exact ⟨by rw [a]; simp [List.take_succ_cons], b⟩
theorem opA_fields {t : TypeId} {fa : Array Field} (ht : P.underlying t = some (.struct fa)) {cts : List TypeId} (hcts : ctys P 8 t = cts) (hct : (fa.toList.flatMap fun f => ctys P 8 f.type) = cts)
    (hc : P.cellsOf t = cts.length) {Gs : List (List AV → Prop)} (ho : OpAs enc P w base spare held fa.toList [] Gs) : OpA enc P w base spare held t (GoodL Gs) := by
  obtain ⟨h1, h2⟩ := ho.at
  exact opA_struct ht rfl (hcts.trans hct.symm) (by rw [hc, hcts]) Gs h1 (fun i f G hf hG => by simpa using h2 i f G hf hG)
end
end Go.AM

/- how tasks come in; rows of none (own work). -/
namespace Go.Proofs.Ytcbholgcbjddjaa.sy
open Go.AM Go.AM.Jb Go.RowKit
set_option linter.unusedSimpArgs false
set_option linter.unusedVariables false
variable {G : List Nat → Option (List AV)} {base : Nat} {w0 : World}
set_option maxRecDepth 100000
set_option maxHeartbeats 8000000
variable {H : AHeap}
abbrev gI : List AV → Prop := fun vs => ∃ n, vs = [AV.int .i64 n] ∧ (Lit.int .i64 n).wf = true
abbrev gB : List AV → Prop := fun vs => ∃ b, vs = [AV.bool b]
theorem opT {H : Type} {enc : TypeId × Value → H} {w : World} {base : Nat} {spare : Nat → Bool} {held : Bool} (hsp : ∀ k, spare k = true) :
    OpA enc Try.prog w base spare held 22 (fun vs => ∃ v n, vs = [v] ∧ SlG Try.prog w v 11 n (GoodL [gI, gI, gI, gB, gB, gB, gB, gI, gI, gB, gI])) := by
  have c26 : ctys Try.prog 8 26 = [3, 3, 3, 4, 4, 4, 4, 3, 3, 4, 3] := by kernel_rfl
  have h3 : OpA enc Try.prog w base spare held 3 gI := opA_int Try.underlying3
  have h4 : OpA enc Try.prog w base spare held 4 gB := opA_bool Try.underlying4
  have h26 := opA_fields (enc := enc) (w := w) (base := base) (spare := spare) (held := held) Try.underlying26 c26 (by kernel_rfl) (by kernel_rfl) (.cons (by kernel_rfl) (by kernel_rfl) h3 (.cons (by kernel_rfl) (by kernel_rfl) h3 (.cons (by kernel_rfl) (by kernel_rfl) h3 (.cons (by kernel_rfl) (by kernel_rfl) h4 (.cons (by kernel_rfl) (by kernel_rfl) h4 (.cons (by kernel_rfl) (by kernel_rfl) h4 (.cons (by kernel_rfl) (by kernel_rfl) h4 (.cons (by kernel_rfl) (by kernel_rfl) h3 (.cons (by kernel_rfl) (by kernel_rfl) h3 (.cons (by kernel_rfl) (by kernel_rfl) h4 (.cons (by kernel_rfl) (by kernel_rfl) h3 .nil)))))))))))
  have := opA_slice (enc := enc) (w := w) (base := base) (held := held) Try.underlying22 (by kernel_rfl) (by rw [c26]; decide) hsp h26
  rw [c26] at this
  exact this
theorem fl_of {α : Type} {w : Wd α} {Good : List AV → Prop} {ok : α → Prop} (hg : ∀ vs, Good vs → ∃ d, vs = w.enc d ∧ ok d) {cs : List AV} : ∀ n, n * w.W ≤ cs.length → (∀ i, i < n → Good ((cs.drop (i * w.W)).take w.W)) → ∃ ds : List α, ds.length = n ∧ w.fl ds = cs.take (n * w.W) ∧ ∀ d ∈ ds, ok d
  | 0, _, _ => ⟨[], rfl, by simp [Wd.fl], by simp⟩
  | n + 1, hl, h => by
    rw [Nat.succ_mul] at hl
    obtain ⟨ds, h1, h2, h3⟩ := fl_of hg n (by omega) (fun i hi => h i (by omega))
    obtain ⟨d, hd, hok⟩ := hg _ (h n (by omega))
    refine ⟨ds ++ [d], by simp [h1], ?_, fun x hx => ?_⟩
    · rw [Wd.fl_app, h2, Nat.succ_mul, List.take_add]
      congr 1
      rw [hd]; simp [Wd.fl]
    · rcases List.mem_append.1 hx with hx | hx
      · exact h3 x hx
      · simp at hx; subst hx; exact hok
abbrev Tk1 := Tk
structure Tks (G : List Nat → Option (List AV)) (base : Nat) (w0 : World) (v : AV) (l : List Tk) : Prop where
  out : ∀ H, SlF (kn G base w0).c H wT v l
  ext : v.at? = none
  each : ∀ t ∈ l, (Lit.int .i64 t.e).wf = true ∧ (Lit.int .i64 t.p).wf = true
theorem tks_of {W : World} {u : AV} (g : ∃ v n, [u] = [v] ∧ SlG Try.prog W v 11 n (GoodL [gI, gI, gI, gB, gB, gB, gB, gI, gI, gB, gI])) : ∃ l, Tks (decG Try.prog W) base w0 u l := by
  obtain ⟨v, n, hv, h⟩ := g
  simp at hv
  subst hv
  rcases h with ⟨h, rfl⟩ | ⟨path, cs, rfl, hG, hl, hi⟩
  · refine ⟨[], fun H => .inl ⟨h, rfl⟩, ?_, by simp⟩
    rcases h with rfl | ⟨a, rfl⟩ <;> rfl
  · obtain ⟨ds, h1, h2, h3⟩ := fl_of (w := wT) (ok := fun t => (Lit.int .i64 t.e).wf = true ∧ (Lit.int .i64 t.p).wf = true) (fun vs hq => by
      obtain ⟨_, _, rfl, ⟨a, rfl, _⟩, _, _, rfl, ⟨b, rfl, hb⟩, _, _, rfl, ⟨c, rfl, hc⟩, _, _, rfl, ⟨d, rfl⟩, _, _, rfl, ⟨e, rfl⟩, _, _, rfl, ⟨f, rfl⟩, _, _, rfl, ⟨g, rfl⟩, _, _, rfl, ⟨h, rfl, _⟩, _, _, rfl, ⟨i, rfl, _⟩, _, _, rfl, ⟨j, rfl⟩, _, _, rfl, ⟨k, rfl, _⟩, rfl⟩ := hq
      exact ⟨⟨a, b, c, d, e, f, g, h, i, j, k⟩, rfl, hb, hc⟩) n hl hi
    exact ⟨ds, fun H => .inr ⟨.ext path, 0, by rw [h1]; rfl, fun _ => ⟨cs, hG, by rw [Nat.zero_mul, List.drop_zero, h1, h2]⟩⟩, rfl, h3⟩
theorem rows_nil {v : AV} (hv : SlF (kn G base w0).c H wT v []) : Pt (kn G base w0) 9 [v] H .nilslice H := by
  refine Pt.pure ?_ rfl
  refine Pt.fn (n := 20) (rs := [.tmp 2]) Try.func9 (b := _) rfl rfl rfl (by decide) ?_
  simp only [numbered]
  refine D.sq (D.ks (.e [(2, AV.nilslice)] H) (by kernel_rfl) (D.sq (D.ks (.e [(3, AV.nilslice)] H) (by kernel_rfl) (D.sq (D.sq (D.ks (.e [(4, AV.int IntKind.i64 0)] H) (by kernel_rfl) (D.bl ?_)))))))
  have e0 := hv.len (c := (kn G base w0).c) Try.underlying22
  replace e0 : alen (kn G base w0).c H 22 v = some (.int .i64 0) := e0
  refine D.lp (fun m env H' => m = 0 ∧ H = H' ∧ ELe (E 20 [(4, .int .i64 0), (3, .nilslice), (2, .nilslice), (0, v)]) env) 0
    ⟨rfl, rfl, by exact E_le (by decide) (E_size _ _) (by simp only [List.forall_mem_cons, List.not_mem_nil, false_implies, implies_true, and_true, List.cons_append, List.nil_append, Nat.zero_add, Nat.reduceAdd, E_get, Nat.reduceEqDiff, Nat.reduceLT, Nat.reduceLeDiff, if_true, if_false, and_self, true_and] <;> first | rfl | exact ⟨rfl, rfl⟩)⟩ ?_
  rintro m env H3 ⟨rfl, rfl, he⟩
  refine D.forget he ?_
  clear he
  refine D.sq (D.sq (D.ks (.v e0 <| .a <| .e [(8, AV.bool false)] H) (by kernel_rfl) (D.cf (by kernel_rfl) (D.exit (Ks_e' (Kl_e' (Kb_e' (Ks_n' (D.sq (D.ks (.e [(2, AV.nilslice)] H) (by kernel_rfl) (D.ret (Kf_by AV.nilslice (.r AV.nilslice) (by kernel_rfl) ?_))))))))))))
  exact ⟨rfl, Keep.refl _⟩
theorem rows_all {v : AV} {l : List Tk} (hv : SlF (kn G base w0).c H wT v l) (hva : ∀ b, v.at? = some b → b < H.length) (hl : l.length ≤ 1000) : ∃ r H', Pt (kn G base w0) 9 [v] H r H' ∧ OwnF H' wT r 51 l ∧ Keep H H' (fun _ => False) ∧ (r ≠ .nilslice → l ≠ []) := by
  by_cases h0 : l = []
  · subst h0
    exact ⟨_, _, rows_nil hv, OwnF.nil, Keep.refl _, fun h => absurd rfl h⟩
  · obtain ⟨r, H', a, b, c, d⟩ := rows_ok (G := G) (base := base) (w0 := w0) hv hva hl
    exact ⟨r, H', a, b, c, fun _ => h0⟩
theorem eqR (a b c d : Int) : aeqT (kn G base w0).c 9 37 (.agg [.int .i64 a, .int .i64 b]) (.agg [.int .i64 c, .int .i64 d]) = if (a == c) = true then (if (b == d) = true then some true else some false) else some false := by kernel_rfl
theorem neqR (a b c d : Int) : abin (kn G base w0).c .neq 37 (.agg [.int .i64 a, .int .i64 b]) (.agg [.int .i64 c, .int .i64 d]) = some (.bool (!((a == c) && (b == d)))) := by
  have h : (kn G base w0).c.P.eqGuardType (kn G base w0).c.P.depth 37 = false := by kernel_rfl
  simp only [abin, h, Bool.false_eq_true, if_false, eqR]
  cases (a == c) <;> cases (b == d) <;> rfl
theorem eqlR (a b c d : Int) : abin (kn G base w0).c .eql 37 (.agg [.int .i64 a, .int .i64 b]) (.agg [.int .i64 c, .int .i64 d]) = some (.bool ((a == c) && (b == d))) := by
  have h : (kn G base w0).c.P.eqGuardType (kn G base w0).c.P.depth 37 = false := by kernel_rfl
  simp only [abin, h, Bool.false_eq_true, if_false, eqR]
  cases (a == c) <;> cases (b == d) <;> rfl
end Go.Proofs.Ytcbholgcbjddjaa.sy

/- law17's ShareSplits (own work). -/
namespace Go.Proofs.Ytcbholgcbjddjaa.sy
open Go.AM Go.AM.Jb
set_option linter.unusedSimpArgs false
set_option linter.unusedVariables false
variable {G : List Nat → Option (List AV)} {base : Nat} {w0 : World}
set_option maxRecDepth 100000
set_option maxHeartbeats 8000000
theorem shareSplits_walk {srt : List Tk → List Tk} (hS : SortSpec (kn G base w0) srt) {v : AV} {l : List Tk} (hv : Tks G base w0 v l) (x y z : Nat) (hx : x < 256) (hy : y < 256) (hz : z < 256) : ∃ r H', Pt (kn G base w0) 5 [v, .agg [.int .u8 x, .int .u8 y, .int .u8 z]] [] r H' ∧ r = .bool true := by
  refine Pt.fn (n := 145) (rs := [.tmp 4]) Try.func5 (b := _) rfl rfl rfl (by decide) ?_
  simp only [numbered]
  have p6 := fun H => awake_p (G := G) (base := base) (w0 := w0) (H := H) hS
  have e0 := fun H => (hv.out H).len (c := (kn G base w0).c) Try.underlying22
  by_cases hl : l.length ≤ 30
  rotate_left
  · refine D.sq (D.ks (.a <| .e [(4, AV.bool false), (3, AV.ptr (Loc.own 0) 0)] (hnew [] (AObj.row 44 3 [AV.int IntKind.u8 (↑x : Int), AV.int IntKind.u8 (↑y : Int), AV.int IntKind.u8 (↑z : Int)]))) (by kernel_rfl) (D.sq (D.sq (D.ks (.c (@p6 (hnew [] (AObj.row 44 3 [AV.int IntKind.u8 (↑x : Int), AV.int IntKind.u8 (↑y : Int), AV.int IntKind.u8 (↑z : Int)]))) <| .a <| .e [(16, AV.bool false)] (hnew [] (AObj.row 44 3 [AV.int IntKind.u8 (↑x : Int), AV.int IntKind.u8 (↑y : Int), AV.int IntKind.u8 (↑z : Int)]))) (by kernel_rfl) (D.cf (by kernel_rfl) (D.skip (Ks_n' (D.sq (D.sq (D.ks (.v (@e0 (hnew [] (AObj.row 44 3 [AV.int IntKind.u8 (↑x : Int), AV.int IntKind.u8 (↑y : Int), AV.int IntKind.u8 (↑z : Int)]))) <| .y (show 30 < (↑(List.length l) : Int) by omega) <| .e [(19, AV.bool true)] (hnew [] (AObj.row 44 3 [AV.int IntKind.u8 (↑x : Int), AV.int IntKind.u8 (↑y : Int), AV.int IntKind.u8 (↑z : Int)]))) (by kernel_rfl) (D.ct (by kernel_rfl) (D.sq (D.ks (.e [(4, AV.bool true)] (hnew [] (AObj.row 44 3 [AV.int IntKind.u8 (↑x : Int), AV.int IntKind.u8 (↑y : Int), AV.int IntKind.u8 (↑z : Int)]))) (by kernel_rfl) (D.ret (Ks_r' (Kf_by (AV.bool true) (.r (AV.bool true)) (by kernel_rfl) ?_))))))))))))))))
    rfl
  have ia0 : aindexAddr (kn G base w0).c 44 (.ptr (.own 0) 0) (.int .i64 0) = some (.ptr (.own 0) 0) := by kernel_rfl
  have ia1 : aindexAddr (kn G base w0).c 44 (.ptr (.own 0) 0) (.int .i64 1) = some (.ptr (.own 0) 1) := by kernel_rfl
  have ia2 : aindexAddr (kn G base w0).c 44 (.ptr (.own 0) 0) (.int .i64 2) = some (.ptr (.own 0) 2) := by kernel_rfl
  have ry : abin (kn G base w0).c .rem 3 (.int .i64 y) (.int .i64 20) = some (.int .i64 ((y % 20 : Nat) : Int)) := remI y 20 (by omega) 3
  have rz : abin (kn G base w0).c .rem 3 (.int .i64 z) (.int .i64 20) = some (.int .i64 ((z % 20 : Nat) : Int)) := remI z 20 (by omega) 3
  have by20 : y % 20 < 20 := Nat.mod_lt _ (by omega)
  have bz20 : z % 20 < 20 := Nat.mod_lt _ (by omega)
  generalize y % 20 = y' at *
  generalize z % 20 = z' at *
  obtain ⟨H0, hH0⟩ : ∃ H0 : AHeap, H0 = hnew [] (.row 44 3 [.int .u8 x, .int .u8 y, .int .u8 z]) := ⟨_, rfl⟩
  have hl1 : l.length ≤ 1000 := by omega
  have at0 : ∀ {K : AHeap} b, v.at? = some b → b < K.length := fun b hb => by rw [hv.ext] at hb; cases hb
  obtain ⟨r1, H1, p1, o1, k1, n1⟩ := rows_all (G := G) (base := base) (w0 := w0) (hv.out H0) at0 hl1
  by_cases hbad : ∃ k, ∃ h : k < (srt l).length, ¬ gdAt (srt l) k h
  · obtain ⟨k, hk, hb⟩ := hbad
    have q1 := all_bad (G := G) (base := base) (w0 := w0) hS o1 hl1 n1 x ((x + 1 + y' : Nat) : Int) hk hb
    obtain ⟨r2, H2, p2, o2, k2, n2⟩ := rows_all (G := G) (base := base) (w0 := w0) (hv.out H1) at0 hl1
    have q2 := all_bad (G := G) (base := base) (w0 := w0) hS o2 hl1 n2 ((x + 1 + y' : Nat) : Int) ((x + 1 + y' + 1 + z' : Nat) : Int) hk hb
    obtain ⟨r3, H3, p3, o3, k3, n3⟩ := rows_all (G := G) (base := base) (w0 := w0) (hv.out H2) at0 hl1
    have q3 := all_bad (G := G) (base := base) (w0 := w0) hS o3 hl1 n3 x ((x + 1 + y' + 1 + z' : Nat) : Int) hk hb
    subst hH0
    clear hv o1 o2 o3 hS
    refine D.sq (D.ks (.a <| .e [(4, AV.bool false), (3, AV.ptr (Loc.own 0) 0)] (hnew [] (AObj.row 44 3 [AV.int IntKind.u8 (↑x : Int), AV.int IntKind.u8 (↑y : Int), AV.int IntKind.u8 (↑z : Int)]))) (by kernel_rfl) (D.sq (D.sq (D.ks (.c (@p6 (hnew [] (AObj.row 44 3 [AV.int IntKind.u8 (↑x : Int), AV.int IntKind.u8 (↑y : Int), AV.int IntKind.u8 (↑z : Int)]))) <| .a <| .e [(16, AV.bool false)] (hnew [] (AObj.row 44 3 [AV.int IntKind.u8 (↑x : Int), AV.int IntKind.u8 (↑y : Int), AV.int IntKind.u8 (↑z : Int)]))) (by kernel_rfl) (D.cf (by kernel_rfl) (D.skip (Ks_n' (D.sq (D.sq (D.ks (.v (@e0 (hnew [] (AObj.row 44 3 [AV.int IntKind.u8 (↑x : Int), AV.int IntKind.u8 (↑y : Int), AV.int IntKind.u8 (↑z : Int)]))) <| .o (show ¬ (30 < (↑(List.length l) : Int)) by omega) <| .e [(19, AV.bool false)] (hnew [] (AObj.row 44 3 [AV.int IntKind.u8 (↑x : Int), AV.int IntKind.u8 (↑y : Int), AV.int IntKind.u8 (↑z : Int)]))) (by kernel_rfl) (D.cf (by kernel_rfl) (D.skip (Ks_n' (D.sq (D.ks (.v ia0 <| .q (@hat_nn [] (AObj.row 44 3 [AV.int IntKind.u8 (↑x : Int), AV.int IntKind.u8 (↑y : Int), AV.int IntKind.u8 (↑z : Int)])) <| .n (@wrap_to ((↑x : Int)) ((↑x : Int)) (by omega) (by omega) (by omega)) <| .e [(5, AV.int IntKind.i64 (↑x : Int))] (hnew [] (AObj.row 44 3 [AV.int IntKind.u8 (↑x : Int), AV.int IntKind.u8 (↑y : Int), AV.int IntKind.u8 (↑z : Int)]))) (by kernel_rfl) (D.sq (D.ks (.n (@wrap_to ((↑x : Int) + 1) ((↑(x + 1) : Int)) (by omega) (by omega) (by omega)) <| .v ia1 <| .q (@hat_nn [] (AObj.row 44 3 [AV.int IntKind.u8 (↑x : Int), AV.int IntKind.u8 (↑y : Int), AV.int IntKind.u8 (↑z : Int)])) <| .n (@wrap_to ((↑y : Int)) ((↑y : Int)) (by omega) (by omega) (by omega)) <| .v ry <| .n (@wrap_to ((↑(x + 1) : Int) + (↑y' : Int)) ((↑(x + 1 + y') : Int)) (by omega) (by omega) (by omega)) <| .e [(6, AV.int IntKind.i64 (↑(x + 1 + y') : Int))] (hnew [] (AObj.row 44 3 [AV.int IntKind.u8 (↑x : Int), AV.int IntKind.u8 (↑y : Int), AV.int IntKind.u8 (↑z : Int)]))) (by kernel_rfl) (D.sq (D.ks (.n (@wrap_to ((↑(x + 1 + y') : Int) + 1) ((↑(x + 1 + y' + 1) : Int)) (by omega) (by omega) (by omega)) <| .v ia2 <| .q (@hat_nn [] (AObj.row 44 3 [AV.int IntKind.u8 (↑x : Int), AV.int IntKind.u8 (↑y : Int), AV.int IntKind.u8 (↑z : Int)])) <| .n (@wrap_to ((↑z : Int)) ((↑z : Int)) (by omega) (by omega) (by omega)) <| .v rz <| .n (@wrap_to ((↑(x + 1 + y' + 1) : Int) + (↑z' : Int)) ((↑(x + 1 + y' + 1 + z') : Int)) (by omega) (by omega) (by omega)) <| .e [(7, AV.int IntKind.i64 (↑(x + 1 + y' + 1 + z') : Int))] (hnew [] (AObj.row 44 3 [AV.int IntKind.u8 (↑x : Int), AV.int IntKind.u8 (↑y : Int), AV.int IntKind.u8 (↑z : Int)]))) (by kernel_rfl) (D.sq (D.ks (.c p1 <| .c q1 <| .e [(9, AV.int IntKind.i64 2), (8, AV.nilslice)] H1) (by kernel_rfl) (D.sq (D.ks (.c p2 <| .c q2 <| .e [(11, AV.int IntKind.i64 2), (10, AV.nilslice)] H2) (by kernel_rfl) (D.sq (D.ks (.c p3 <| .c q3 <| .e [(13, AV.int IntKind.i64 2), (12, AV.nilslice)] H3) (by kernel_rfl) (D.sq (D.sq (D.ks (.a <| .a <| .a <| .a <| .a <| .a <| .a <| .a <| .e [(82, AV.bool false)] H3) (by kernel_rfl) (D.cf (by kernel_rfl) (D.skip (Ks_n' (D.sq (D.sq (D.ks (.e [(14, AV.int IntKind.i64 0)] H3) (by kernel_rfl) (D.bl ?_)))))))))))))))))))))))))))))))))))
    refine D.lp (fun m env H' => m = 0 ∧ H3 = H' ∧ ELe (E 145 [(14, .int .i64 0), (8, .nilslice), (10, .nilslice), (12, .nilslice)]) env) 0
      ⟨rfl, rfl, by exact E_le (by decide) (E_size _ _) (by simp only [List.forall_mem_cons, List.not_mem_nil, false_implies, implies_true, and_true, List.cons_append, List.nil_append, Nat.zero_add, Nat.reduceAdd, E_get, Nat.reduceEqDiff, Nat.reduceLT, Nat.reduceLeDiff, if_true, if_false, and_self, true_and] <;> first | rfl | exact ⟨rfl, rfl⟩)⟩ ?_
    rintro m env H4 ⟨rfl, rfl, he⟩
    refine D.forget he ?_
    clear he
    refine D.sq (D.sq (D.ks (.a <| .a <| .e [(86, AV.bool false)] H3) (by kernel_rfl) (D.cf (by kernel_rfl) (D.exit (Ks_e' (Kl_e' (Kb_e' (Ks_n' (D.sq (D.ks (.e [(4, AV.bool true)] H3) (by kernel_rfl) (D.ret (Kf_by (AV.bool true) (.r (AV.bool true)) (by kernel_rfl) ?_))))))))))))
    rfl
  have hg : ∀ i (h : i < (srt l).length), gdAt (srt l) i h := fun i h => Classical.byContradiction fun hn => hbad ⟨i, h, hn⟩
  obtain ⟨_, H2, q1, u1, rfl, s1, m1, _⟩ := all_ok (G := G) (base := base) (w0 := w0) hS o1 hl1 n1 x (x + 1 + y') (by omega) (by omega) hg
  obtain ⟨r2, H3, p2, o2, k2, n2⟩ := rows_all (G := G) (base := base) (w0 := w0) (hv.out H2) at0 hl1
  obtain ⟨_, H4, q2, u2, rfl, s2, m2, _⟩ := all_ok (G := G) (base := base) (w0 := w0) hS o2 hl1 n2 (x + 1 + y') (x + 1 + y' + 1 + z') (by omega) (by omega) hg
  obtain ⟨r3, H5, p3, o3, k3, n3⟩ := rows_all (G := G) (base := base) (w0 := w0) (hv.out H4) at0 hl1
  obtain ⟨_, H6, q3, u3, rfl, s3, m3, _⟩ := all_ok (G := G) (base := base) (w0 := w0) hS o3 hl1 n3 x (x + 1 + y' + 1 + z') (by omega) (by omega) hg
  have k26 := ((k2.trans m2).trans k3).trans m3
  have k46 := k3.trans m3
  have t1 := (s1.keep fun b hb => k26.2 b (s1.lt hb) id).sl (c := (kn G base w0).c)
  have t2 := (s2.keep fun b hb => k46.2 b (s2.lt hb) id).sl (c := (kn G base w0).c)
  have t3 := s3.sl (c := (kn G base w0).c)
  subst hH0
  have hgm : ∀ t ∈ srt l, tmay t := fun t ht => by
    obtain ⟨i, hi, rfl⟩ := List.getElem_of_mem ht
    exact (hg i hi).1
  have hlen : (srt l).length = l.length := (hS.1 l).1
  clear hv o1 o2 o3 hS hbad hg s1 s2 s3 k26 k46 k1 k2 k3 m1 m2 m3
  have fm : ∀ t ∈ (srt l).filter (·.ac), tmay t := fun t ht => hgm t (List.mem_filter.1 ht).1
  have fl : ((srt l).filter (·.ac)).length ≤ 30 := Nat.le_trans (List.length_filter_le _ _) (by omega)
  have w1 : x + 1 + y' - x = y' + 1 := by omega
  have w2 : x + 1 + y' + 1 + z' - (x + 1 + y') = z' + 1 := by omega
  have w3 : x + 1 + y' + 1 + z' - x = (y' + 1) + (z' + 1) := by omega
  rw [w1] at t1
  rw [w2] at t2
  rw [w3] at t3
  clear w1 w2 w3 hlen hgm
  simp only [shs] at t1 t2 t3
  generalize (srt l).filter (·.ac) = s at *
  have a1 := t1.len (c := (kn G base w0).c) Try.underlying30
  have a2 := t2.len (c := (kn G base w0).c) Try.underlying30
  have a3 := t3.len (c := (kn G base w0).c) Try.underlying30
  simp only [List.length_map] at a1 a2 a3
  refine D.sq (D.ks (.a <| .e [(4, AV.bool false), (3, AV.ptr (Loc.own 0) 0)] (hnew [] (AObj.row 44 3 [AV.int IntKind.u8 (↑x : Int), AV.int IntKind.u8 (↑y : Int), AV.int IntKind.u8 (↑z : Int)]))) (by kernel_rfl) (D.sq (D.sq (D.ks (.c (@p6 (hnew [] (AObj.row 44 3 [AV.int IntKind.u8 (↑x : Int), AV.int IntKind.u8 (↑y : Int), AV.int IntKind.u8 (↑z : Int)]))) <| .a <| .e [(16, AV.bool false)] (hnew [] (AObj.row 44 3 [AV.int IntKind.u8 (↑x : Int), AV.int IntKind.u8 (↑y : Int), AV.int IntKind.u8 (↑z : Int)]))) (by kernel_rfl) (D.cf (by kernel_rfl) (D.skip (Ks_n' (D.sq (D.sq (D.ks (.v (@e0 (hnew [] (AObj.row 44 3 [AV.int IntKind.u8 (↑x : Int), AV.int IntKind.u8 (↑y : Int), AV.int IntKind.u8 (↑z : Int)]))) <| .o (show ¬ (30 < (↑(List.length l) : Int)) by omega) <| .e [(19, AV.bool false)] (hnew [] (AObj.row 44 3 [AV.int IntKind.u8 (↑x : Int), AV.int IntKind.u8 (↑y : Int), AV.int IntKind.u8 (↑z : Int)]))) (by kernel_rfl) (D.cf (by kernel_rfl) (D.skip (Ks_n' (D.sq (D.ks (.v ia0 <| .q (@hat_nn [] (AObj.row 44 3 [AV.int IntKind.u8 (↑x : Int), AV.int IntKind.u8 (↑y : Int), AV.int IntKind.u8 (↑z : Int)])) <| .n (@wrap_to ((↑x : Int)) ((↑x : Int)) (by omega) (by omega) (by omega)) <| .e [(5, AV.int IntKind.i64 (↑x : Int))] (hnew [] (AObj.row 44 3 [AV.int IntKind.u8 (↑x : Int), AV.int IntKind.u8 (↑y : Int), AV.int IntKind.u8 (↑z : Int)]))) (by kernel_rfl) (D.sq (D.ks (.n (@wrap_to ((↑x : Int) + 1) ((↑(x + 1) : Int)) (by omega) (by omega) (by omega)) <| .v ia1 <| .q (@hat_nn [] (AObj.row 44 3 [AV.int IntKind.u8 (↑x : Int), AV.int IntKind.u8 (↑y : Int), AV.int IntKind.u8 (↑z : Int)])) <| .n (@wrap_to ((↑y : Int)) ((↑y : Int)) (by omega) (by omega) (by omega)) <| .v ry <| .n (@wrap_to ((↑(x + 1) : Int) + (↑y' : Int)) ((↑(x + 1 + y') : Int)) (by omega) (by omega) (by omega)) <| .e [(6, AV.int IntKind.i64 (↑(x + 1 + y') : Int))] (hnew [] (AObj.row 44 3 [AV.int IntKind.u8 (↑x : Int), AV.int IntKind.u8 (↑y : Int), AV.int IntKind.u8 (↑z : Int)]))) (by kernel_rfl) (D.sq (D.ks (.n (@wrap_to ((↑(x + 1 + y') : Int) + 1) ((↑(x + 1 + y' + 1) : Int)) (by omega) (by omega) (by omega)) <| .v ia2 <| .q (@hat_nn [] (AObj.row 44 3 [AV.int IntKind.u8 (↑x : Int), AV.int IntKind.u8 (↑y : Int), AV.int IntKind.u8 (↑z : Int)])) <| .n (@wrap_to ((↑z : Int)) ((↑z : Int)) (by omega) (by omega) (by omega)) <| .v rz <| .n (@wrap_to ((↑(x + 1 + y' + 1) : Int) + (↑z' : Int)) ((↑(x + 1 + y' + 1 + z') : Int)) (by omega) (by omega) (by omega)) <| .e [(7, AV.int IntKind.i64 (↑(x + 1 + y' + 1 + z') : Int))] (hnew [] (AObj.row 44 3 [AV.int IntKind.u8 (↑x : Int), AV.int IntKind.u8 (↑y : Int), AV.int IntKind.u8 (↑z : Int)]))) (by kernel_rfl) (D.sq (D.ks (.c p1 <| .c q1 <| .e [(9, AV.int IntKind.i64 0), (8, u1)] H2) (by kernel_rfl) (D.sq (D.ks (.c p2 <| .c q2 <| .e [(11, AV.int IntKind.i64 0), (10, u2)] H4) (by kernel_rfl) (D.sq (D.ks (.c p3 <| .c q3 <| .e [(13, AV.int IntKind.i64 0), (12, u3)] H6) (by kernel_rfl) (D.sq (D.sq (D.ks (.a <| .a <| .v a1 <| .v a2 <| .o (show (↑(List.length s) : Int) = (↑(List.length s) : Int) by omega) <| .v a1 <| .v a3 <| .o (show (↑(List.length s) : Int) = (↑(List.length s) : Int) by omega) <| .e [(82, AV.bool false)] H6) (by kernel_rfl) (D.cf (by kernel_rfl) (D.skip (Ks_n' (D.sq (D.sq (D.ks (.e [(14, AV.int IntKind.i64 0)] H6) (by kernel_rfl) (D.bl ?_)))))))))))))))))))))))))))))))))))
  refine D.lp (fun m env H' => ∃ i : Nat, m = s.length - i ∧ i ≤ s.length ∧ H6 = H' ∧ ELe (E 145 [(14, .int .i64 i), (8, u1), (10, u2), (12, u3)]) env) s.length
    ⟨0, by omega, by omega, rfl, by exact E_le (by decide) (E_size _ _) (by simp only [List.forall_mem_cons, List.not_mem_nil, false_implies, implies_true, and_true, List.cons_append, List.nil_append, Nat.zero_add, Nat.reduceAdd, E_get, Nat.reduceEqDiff, Nat.reduceLT, Nat.reduceLeDiff, if_true, if_false, and_self, true_and] <;> first | rfl | exact ⟨rfl, rfl⟩)⟩ ?_
  clear p1 p2 p3 q1 q2 q3 p6
  rintro m env H7 ⟨i, rfl, hi, rfl, he⟩
  refine D.forget he ?_
  clear he
  by_cases hin : i < s.length
  rotate_left
  · obtain rfl : i = s.length := by omega
    refine D.sq (D.sq (D.ks (.v a1 <| .o (show ¬ ((↑(List.length s) : Int) < (↑(List.length s) : Int)) by omega) <| .e [(86, AV.bool false)] H6) (by kernel_rfl) (D.cf (by kernel_rfl) (D.exit (Ks_e' (Kl_e' (Kb_e' (Ks_n' (D.sq (D.ks (.e [(4, AV.bool true)] H6) (by kernel_rfl) (D.ret (Kf_by (AV.bool true) (.r (AV.bool true)) (by kernel_rfl) ?_))))))))))))
    rfl
  have i1 := t1.ia (t := 30) Try.underlying30 sz42 (i := i) (by simpa using hin) .i64
  have i2 := t2.ia (t := 30) Try.underlying30 sz42 (i := i) (by simpa using hin) .i64
  have i3 := t3.ia (t := 30) Try.underlying30 sz42 (i := i) (by simpa using hin) .i64
  have d1 : afieldAddr (kn G base w0).c 42 (ptrF wSh u1 i) 0 = some (ptrJ wSh u1 i 0) := t1.fa (c := (kn G base w0).c) (by simpa using hin) (s := 42) Try.underlying42 (f := 0) rfl sz3 (by decide)
  have d2 : afieldAddr (kn G base w0).c 42 (ptrF wSh u2 i) 0 = some (ptrJ wSh u2 i 0) := t2.fa (c := (kn G base w0).c) (by simpa using hin) (s := 42) Try.underlying42 (f := 0) rfl sz3 (by decide)
  have d3 : afieldAddr (kn G base w0).c 42 (ptrF wSh u3 i) 0 = some (ptrJ wSh u3 i 0) := t3.fa (c := (kn G base w0).c) (by simpa using hin) (s := 42) Try.underlying42 (f := 0) rfl sz3 (by decide)
  have d4 : afieldAddr (kn G base w0).c 42 (ptrF wSh u1 i) 1 = some (ptrJ wSh u1 i 1) := t1.fa (c := (kn G base w0).c) (by simpa using hin) (s := 42) Try.underlying42 (f := 1) rfl sz37 (by decide)
  have d5 : afieldAddr (kn G base w0).c 42 (ptrF wSh u2 i) 1 = some (ptrJ wSh u2 i 1) := t2.fa (c := (kn G base w0).c) (by simpa using hin) (s := 42) Try.underlying42 (f := 1) rfl sz37 (by decide)
  have d6 : afieldAddr (kn G base w0).c 42 (ptrF wSh u3 i) 1 = some (ptrJ wSh u3 i 1) := t3.fa (c := (kn G base w0).c) (by simpa using hin) (s := 42) Try.underlying42 (f := 1) rfl sz37 (by decide)
  have d7 : afieldAddr (kn G base w0).c 42 (ptrF wSh u1 i) 2 = some (ptrJ wSh u1 i 3) := t1.fa (c := (kn G base w0).c) (by simpa using hin) (s := 42) Try.underlying42 (f := 2) rfl sz4 (by decide)
  have d9 : afieldAddr (kn G base w0).c 42 (ptrF wSh u3 i) 2 = some (ptrJ wSh u3 i 3) := t3.fa (c := (kn G base w0).c) (by simpa using hin) (s := 42) Try.underlying42 (f := 2) rfl sz4 (by decide)
  have l1 := t1.ld (c := (kn G base w0).c) (i := i) (by simpa using hin) (j := 0) (by decide) (t := 3) (u := .int .i64 (shOf (y' + 1) s[i]).id) (by rw [List.getElem_map]; rfl) ag3
  have l2 := t2.ld (c := (kn G base w0).c) (i := i) (by simpa using hin) (j := 0) (by decide) (t := 3) (u := .int .i64 (shOf (z' + 1) s[i]).id) (by rw [List.getElem_map]; rfl) ag3
  have l3 := t3.ld (c := (kn G base w0).c) (i := i) (by simpa using hin) (j := 0) (by decide) (t := 3) (u := .int .i64 (shOf ((y' + 1) + (z' + 1)) s[i]).id) (by rw [List.getElem_map]; rfl) ag3
  have l7 := t1.ld (c := (kn G base w0).c) (i := i) (by simpa using hin) (j := 3) (by decide) (t := 4) (u := .bool (shOf (y' + 1) s[i]).sl) (by rw [List.getElem_map]; rfl) ag4
  have l9 := t3.ld (c := (kn G base w0).c) (i := i) (by simpa using hin) (j := 3) (by decide) (t := 4) (u := .bool (shOf ((y' + 1) + (z' + 1)) s[i]).sl) (by rw [List.getElem_map]; rfl) ag4
  have l4 : aload (kn G base w0).c H6 37 (ptrJ wSh u1 i 1) = some (rt (shOf (y' + 1) s[i]).n (shOf (y' + 1) s[i]).d) := by
    have h := t1.ldP (c := (kn G base w0).c) (i := i) (by simpa using hin) (j := 1) (n := 2) (t := 37) ag37 sz37 (by decide)
    rw [List.getElem_map] at h
    exact h
  have l5 : aload (kn G base w0).c H6 37 (ptrJ wSh u2 i 1) = some (rt (shOf (z' + 1) s[i]).n (shOf (z' + 1) s[i]).d) := by
    have h := t2.ldP (c := (kn G base w0).c) (i := i) (by simpa using hin) (j := 1) (n := 2) (t := 37) ag37 sz37 (by decide)
    rw [List.getElem_map] at h
    exact h
  have l6 : aload (kn G base w0).c H6 37 (ptrJ wSh u3 i 1) = some (rt (shOf ((y' + 1) + (z' + 1)) s[i]).n (shOf ((y' + 1) + (z' + 1)) s[i]).d) := by
    have h := t3.ldP (c := (kn G base w0).c) (i := i) (by simpa using hin) (j := 1) (n := 2) (t := 37) ag37 sz37 (by decide)
    rw [List.getElem_map] at h
    exact h
  have hm := fm _ (List.getElem_mem hin)
  generalize s[i] = t at *
  obtain ⟨m1, m2, m3⟩ := hm
  have hp := fplus_low (x := y' + 1) (y := z' + 1) (e := t.e.toNat) (p := t.p.toNat) (by omega) (by omega)
  obtain ⟨b1, b2, b3⟩ := lowN_le (w := y' + 1) (e := t.e.toNat) (p := t.p.toNat) (by omega) (by omega) (by omega)
  obtain ⟨b4, b5, b6⟩ := lowN_le (w := z' + 1) (e := t.e.toNat) (p := t.p.toNat) (by omega) (by omega) (by omega)
  simp only [shOf] at l1 l2 l3 l4 l5 l6 l7 l9
  generalize lowN (y' + 1) t.e.toNat t.p.toNat = q1 at *
  generalize lowN (z' + 1) t.e.toNat t.p.toNat = q2 at *
  generalize lowN ((y' + 1) + (z' + 1)) t.e.toNat t.p.toNat = q3 at *
  have b7 := Nat.le_trans b1 (Nat.mul_le_mul (show q1.2 ≤ 1048575 by omega) (show y' + 1 ≤ 20 by omega))
  have b8 := Nat.le_trans b4 (Nat.mul_le_mul (show q2.2 ≤ 1048575 by omega) (show z' + 1 ≤ 20 by omega))
  have p12 : ∀ H, Pt (kn G base w0) 12 [rt q1.1 q1.2, rt q2.1 q2.2] H (rt (fplus q1 q2).1 (fplus q1 q2).2) H := fun H => fplus_p (G := G) (base := base) (w0 := w0) (H := H) q1.1 q1.2 q2.1 q2.2 (by omega) (by omega) (by omega) (by omega) b2 b5
  rw [hp] at p12
  have e37 : abin (kn G base w0).c .neq 37 (rt q3.1 q3.2) (rt q3.1 q3.2) = some (.bool false) := by
    have h := neqR (G := G) (base := base) (w0 := w0) q3.1 q3.2 q3.1 q3.2
    simp only [beq_self_eq_true, Bool.and_self, Bool.not_true] at h
    exact h
  have e4 : abin (kn G base w0).c .neq 4 (.bool t.dn) (.bool t.dn) = some (.bool false) := by cases t.dn <;> kernel_rfl
  refine D.sq (D.sq (D.ks (.v a1 <| .y (show (↑i : Int) < (↑(List.length s) : Int) by omega) <| .e [(86, AV.bool true)] H6) (by kernel_rfl) (D.ct (by kernel_rfl) (D.skip (Ks_n' (D.sq (D.bl (D.sq (D.kcs [12] (.v i1 <| .v d1 <| .v l1 <| .v i3 <| .v d3 <| .v l3 <| .o (show Tk.id t = Tk.id t by omega) <| .v i2 <| .v d2 <| .v l2 <| .v i3 <| .v d3 <| .v l3 <| .o (show Tk.id t = Tk.id t by omega) <| .v i1 <| .v d4 <| .v l4 <| .v i2 <| .v d5 <| .v l5 <| .f (@p12 H6) <| .v i3 <| .v d6 <| .v l6 <| .v e37 <| .v i1 <| .v d7 <| .v l7 <| .v i3 <| .v d9 <| .v l9 <| .v e4 <| .e [(144, AV.bool false)] H6) (by kernel_rfl) (D.cf (by kernel_rfl) (D.skip (Kb_n' (Ks_n' (D.kr (.n (@wrap_to ((↑i : Int) + 1) ((↑(i + 1) : Int)) (by omega) (by omega) (by omega)) <| .e [(14, AV.int IntKind.i64 (↑(i + 1) : Int))] H6) (by kernel_rfl) ?_))))))))))))))
  exact ⟨s.length - (i + 1), by omega, i + 1, (by first | exact rfl | exact True.intro), by omega, rfl, by exact E_le (by decide) (E_size _ _) (by simp only [List.forall_mem_cons, List.not_mem_nil, false_implies, implies_true, and_true, List.cons_append, List.nil_append, Nat.zero_add, Nat.reduceAdd, E_get, Nat.reduceEqDiff, Nat.reduceLT, Nat.reduceLeDiff, if_true, if_false, and_self, true_and] <;> first | rfl | exact ⟨rfl, rfl⟩)⟩
end Go.Proofs.Ytcbholgcbjddjaa.sy

/-
  A WORLD THAT HAS GROWN (own work): what a contract that leaves alone whatever lay says of the abstract heap.
-/
namespace Go.AM
open Go.RowKit

variable {c : Ctx} {base : Nat} {w0 w w' : World} {ρ : Pl} {H : AHeap}

theorem cell_below {B : Nat} {a b : World} (h : Below B a b) {p : Addr} (hp : p.block < B) : b.cell? p = a.cell? p := World.cell?_of_block (h.block _ hp)

/-- nothing new -/
theorem post_grow (h : Rel c base w0 ρ H w) (hb : Below w.heap.size w w') : Post c base w0 ρ H w ρ H w' := by
  refine ⟨⟨h.below.trans (hb.mono h.size), Nat.le_trans h.size hb.size, ?_, h.inj, ?_, h.glob⟩, Ext.refl _, fun l p e => .inl e, Nat.le_refl _, hb.size, fun k hk _ => hb.block k hk, fun i o p e s r => .inr ⟨i, o, p, e, s, r, rfl⟩⟩
  · intro i o e
    obtain ⟨q, hq, ho, hbs⟩ := h.own i o e
    exact ⟨q, hq, ho.mono (Ext.refl _) (fun s => hb.block _ (rel_lt h e hq s)), hbs⟩
  · intro path cells hG
    obtain ⟨q, hq, hb', hc⟩ := h.ext path cells hG
    refine ⟨q, hq, hb', fun j v hj => ?_⟩
    obtain ⟨x, hx, hv, h1⟩ := hc j v hj
    exact ⟨x, (cell_below hb (World.block_lt_of_cell? w _ hx)).trans hx, hv, h1⟩

/-- one new object -/
theorem post_fresh (h : Rel c base w0 ρ H w) (hf : ρ (.own H.length) = none) (hb : Below w.heap.size w w') (o : AObj) (p : Place) (hp : w.heap.size ≤ p.b) (ho : ObjR (upd ρ (.own H.length) p) p w'.heap o) :
    Post c base w0 ρ H w (upd ρ (.own H.length) p) (hnew H o) w' := by
  have he : Ext ρ (upd ρ (.own H.length) p) := upd_ext hf
  have hlt : ∀ {i o p}, hat H i = some o → ρ (.own i) = some p → o.solid = true → p.b < w.heap.size := fun e r s => rel_lt h e r s
  refine ⟨⟨h.below.trans (hb.mono h.size), Nat.le_trans h.size hb.size, ?_, ?_, ?_, ?_⟩, he, ?_, by simp [hnew], hb.size, fun k hk _ => hb.block k hk, ?_⟩
  · intro i o' e
    rw [hat_new] at e
    split at e
    · rename_i hi; subst hi; cases e
      exact ⟨p, upd_same _ _ _, ho, fun _ => Nat.le_trans h.size hp⟩
    · obtain ⟨q, hq, ho', hbs⟩ := h.own i o' e
      exact ⟨q, he _ _ hq, ho'.mono he (fun s => hb.block _ (hlt e hq s)), hbs⟩
  · intro i j o1 o2 q1 q2 e1 e2 s1 s2 r1 r2 hq
    rw [hat_new] at e1 e2
    split at e1 <;> split at e2
    · omega
    · rename_i hi hj; subst hi
      rw [upd_same] at r1; cases r1
      rw [upd_ne ρ p (by simpa using hj)] at r2
      have := hlt e2 r2 s2; omega
    · rename_i hi hj; subst hj
      rw [upd_same] at r2; cases r2
      rw [upd_ne ρ p (by simpa using hi)] at r1
      have := hlt e1 r1 s1; omega
    · rename_i hi hj
      rw [upd_ne ρ p (by simpa using hi)] at r1
      rw [upd_ne ρ p (by simpa using hj)] at r2
      exact h.inj i j o1 o2 q1 q2 e1 e2 s1 s2 r1 r2 hq
  · intro path cells hG
    obtain ⟨q, hq, hb', hc⟩ := h.ext path cells hG
    refine ⟨q, he _ _ hq, hb', fun j v hj => ?_⟩
    obtain ⟨x, hx, hv, h1⟩ := hc j v hj
    exact ⟨x, (cell_below hb (World.block_lt_of_cell? w _ hx)).trans hx, hv.mono he, h1⟩
  · intro g; obtain ⟨n, hn⟩ := h.glob g; exact ⟨n, he _ _ hn⟩
  · intro l q e
    by_cases hl : l = .own H.length
    · exact .inr ⟨H.length, hl, Nat.le_refl _, by simp [hnew]⟩
    · rw [upd_ne ρ p hl] at e; exact .inl e
  · intro i o' q e s r
    rw [hat_new] at e
    split at e
    · rename_i hi; subst hi; rw [upd_same] at r; cases r; exact .inl hp
    · rename_i hi
      rw [upd_ne ρ p (by simpa using hi)] at r
      exact .inr ⟨i, o', q, e, s, r, rfl⟩

def intsOf : List AV → Option (List Int)
  | [] => some []
  | .int .i64 n :: r => (intsOf r).map fun l => n :: l
  | _ :: _ => none

theorem intsOf_eq : ∀ {l : List AV} {zs : List Int}, intsOf l = some zs → l = zs.map (.int .i64)
  | [], zs, e => by simp [intsOf] at e; subst e; rfl
  | .int .i64 n :: r, zs, e => by
    simp only [intsOf, Option.map_eq_some_iff] at e
    obtain ⟨l, hl, rfl⟩ := e
    rw [intsOf_eq hl]; rfl
  | .int .i8 _ :: _, zs, e => by simp [intsOf] at e
  | .int .i16 _ :: _, zs, e => by simp [intsOf] at e
  | .int .i32 _ :: _, zs, e => by simp [intsOf] at e
  | .int .u8 _ :: _, zs, e => by simp [intsOf] at e
  | .int .u16 _ :: _, zs, e => by simp [intsOf] at e
  | .int .u32 _ :: _, zs, e => by simp [intsOf] at e
  | .int .u64 _ :: _, zs, e => by simp [intsOf] at e
  | .bool _ :: _, zs, e => by simp [intsOf] at e
  | .str _ :: _, zs, e => by simp [intsOf] at e
  | .nilptr :: _, zs, e => by simp [intsOf] at e
  | .ptr _ _ :: _, zs, e => by simp [intsOf] at e
  | .nilslice :: _, zs, e => by simp [intsOf] at e
  | .slice _ _ _ _ :: _, zs, e => by simp [intsOf] at e
  | .odd _ :: _, zs, e => by simp [intsOf] at e
  | .nilmap :: _, zs, e => by simp [intsOf] at e
  | .map _ :: _, zs, e => by simp [intsOf] at e
  | .nilfunc :: _, zs, e => by simp [intsOf] at e
  | .func _ _ _ :: _, zs, e => by simp [intsOf] at e
  | .niliface :: _, zs, e => by simp [intsOf] at e
  | .iface _ _ :: _, zs, e => by simp [intsOf] at e
  | .agg _ :: _, zs, e => by simp [intsOf] at e
  | .tuple _ :: _, zs, e => by simp [intsOf] at e

/-- a new slice of ints, as a contract with 'ownsRow' hands it back -/
theorem post_ints (h : Rel c base w0 ρ H w) (hf : ρ (.own H.length) = none) (hb : Below w.heap.size w w') {v : Value} {e : TypeId} {zs : List Int} (hr : w'.ownsRow w.heap.size e 1 v zs.length (zs.map fun x => Value.int .i64 x)) (hne : zs ≠ []) :
    ∃ ρ', VR ρ' (.slice (fresh H) 1 0 zs.length) v ∧ Post c base w0 ρ H w ρ' (hnew H (.row e 1 (zs.map (AV.int .i64)))) w' := by
  rcases hr.2 with ⟨_, h0⟩ | ⟨g, cap, cur, rfl, hg, hcur, hcap, _, hsz, hval⟩
  · exact absurd (List.length_eq_zero_iff.1 h0) hne
  · refine ⟨upd ρ (.own H.length) ⟨g, 0, cap⟩, ⟨⟨g, 0, cap⟩, upd_same _ _ _, by simpa using hcap, by simp⟩, post_fresh h hf hb _ ⟨g, 0, cap⟩ hg ⟨cur, hcur, by simp [hsz], by simpa using hcap, fun j u hj => ?_⟩⟩
    rw [List.getElem?_map] at hj
    cases hz : zs[j]? with
    | none => rw [hz] at hj; cases hj
    | some z =>
      rw [hz] at hj; cases hj
      refine ⟨.int .i64 z, ?_, rfl, rfl⟩
      have hj' : j < zs.length := (List.getElem?_eq_some_iff.1 hz).1
      have := congrArg (fun l => l[j]?) hval
      simp only [List.getElem?_map, hz, Option.map_some] at this
      rw [List.getElem?_take, if_pos (by omega)] at this
      simpa using this

end Go.AM

/-
  SLICES.SORTED OVER MAPS.KEYS (own work, after the shelf's proofs): the keys of a map of the abstract heap, sorted.
-/
namespace Go.AM
open Go.RowKit Go.Maps Go.Sort Go.Shelf Go.Proofs
section
variable {P : Program} {ρ : Ren}

set_option maxRecDepth 100000 in
set_option maxHeartbeats 1000000 in
theorem keys1_own (L : SlLaysZI.n10 P ρ) {H : Type} (F : Fence) (n : Nat) (h10 : F.fn (ρ.f 10)) (hro : F.round = none) (hn : 1 ≤ n) (l Bm o b nn : Nat) (D0 : DataW H) {R : Value → Option (DataW H × List MemPlace)} (J : List Int → World → Prop)
    (hY : ∀ pre x W, J pre W → pre.length < Maps.size D0 → YieldAt F (n - 1) P l #[encZ x] W fun e W' => e = .returned (.bool true) ∧ J (pre ++ [x]) W' ∧ KeepsWalks W W')
    (W : World) (hJ : AbidesFrom W.heap.size J) (hm : W.cell? ⟨Bm, o, none⟩ = some (.map (some b))) (hown : W.ownsMap P (ρ.t 26) R b nn D0) (h0 : J [] W) :
    CallsIn F n P (ρ.f 10) #[.func (.yield l) #[] #[], .pointer (some ⟨Bm, o, none⟩)] W fun e W' => (∃ v, e = .returned v) ∧ ∃ ss : List Int, ss.Perm (intKeys D0) ∧ J ss W' := by
  have mixed := L.mixed; have t0 := L.t0; have a0 := L.a0; have z0 := L.z0; have v0 := L.v0; have t4 := L.t4; have a4 := L.a4; have z4 := L.z4; have v4 := L.v4; have t23 := L.t23; have a23 := L.a23; have z23 := L.z23; have v23 := L.v23; have t26 := L.t26; have a26 := L.a26; have z26 := L.z26; have v26 := L.v26; have t33 := L.t33; have a33 := L.a33; have z33 := L.z33; have v33 := L.v33
  have u0 := run_underlying L.t0; have u4 := run_underlying L.t4; have u23 := run_underlying L.t23; have u26 := run_underlying L.t26; have u33 := run_underlying L.t33
  obtain ⟨_, _, FG⟩ := L.f10
  refine callsIn_of_wp FG rfl h10 ?_ hro
  simp only [SlBodyZ.n10_ntmps ρ, List.size_toArray, List.length_cons, List.length_nil, Nat.reduceAdd, Nat.reduceSub, Array.replicate_succ, Array.replicate_zero, List.push_toArray, List.append_toArray, List.nil_append, List.cons_append]
  gi_wp2_with (first
    | (gi_at_range; refine wpListIn_range_own _ rfl _ (ρ.t 23) rfl (ρ.t 26) (ρ.t 3) (int_keyed L.t26) L.t23 _ b nn _ rfl hown ?_; intro w0 hrg0 hg0 hs0)
    | gi_in)
  go_frame
  gi_loopw [3] (fun _ wr => ∃ (left : Lit → Bool) (cnt : Nat) (ss : List Int), wr.ranges P (ρ.t 26) R b W.heap.size nn D0 left cnt ∧ ss.length + cnt ≤ Maps.size D0 ∧ CollectedI D0 left ss ∧ J ss wr)
    (fun _ wr => wr.rangeLeft b W.heap.size)
  case atStart =>
    exact ⟨_, _, [], hrg0, by simp, CollectedI.start D0, hJ [] W w0 none h0 hg0 (fun r e => by cases e)⟩
  case round =>
    obtain ⟨left, cnt, ss, hrg, hcs, hC, hJs⟩ := hrel
    gi_wp2_with (first
      | (gi_at_next; refine wpListIn_next_ranges _ rfl _ rfl (ρ.t 26) (int_keyed L.t26) R encZ id (fun key kl hk => by obtain ⟨x, hx, _⟩ := Maps.keyOf_i64 L.t26 hk; exact ⟨x, hx⟩) (fun v _ _ => ⟨v, rfl⟩) b W.heap.size nn _ _ _ rfl hrg ?_ ?_)
      | gi_in)
    · -- NOTHING IS LEFT
      intro hc0 hl0
      gi_wp2
      go_end0
      exact ⟨⟨_, rfl⟩, ss, hC.perm hown (int_keyed L.t26) L.t26 hl0, hJs⟩
    · -- AN ENTRY HAS COME: yield(k)
      intro x c kl yd yp w2 cnt2 hkey hlk hv hat hrg2 hlt hg2 hs2 hen
      obtain ⟨x', ex, rfl, _⟩ := Maps.keyOf_i64 L.t26 hkey
      obtain rfl : x = x' := encZ_inj ex
      have hJ2 : J ss w2 := hJ ss wr w2 (some W.heap.size) hJs hg2 (fun r e => by cases e; exact ⟨Nat.le_refl _, hrg.iter_walk⟩)
      obtain ⟨fn, tmps, assign, body, hy, hR⟩ := hY ss x w2 hJ2 (by omega)
      clear hs2
      gi_wp2
      refine hR.mono ?_
      rintro e W3 ⟨rfl, hJ3, hk3⟩
      gi_wp2
      have hrg3 := hrg2.of_walks hk3
      go_roundw
      case rel => exact ⟨_, cnt2, ss ++ [x], hrg3, by simp; omega, hC.step hlk hat, hJ3⟩
      case measure => rw [hrg3.left_eq, hrg.left_eq]; exact hlt


theorem keys_own (L : SlLaysZI.n10 P ρ) {H : Type} (F : Fence) (n : Nat) (h10 : F.fn (ρ.f 10)) (hro : F.round = none) (hn : 1 ≤ n) (Bm o b nn : Nat) (D0 : DataW H) {R : Value → Option (DataW H × List MemPlace)} (w : World) (hBm : Bm < w.heap.size)
    (hm : w.cell? ⟨Bm, o, none⟩ = some (.map (some b))) (hown : w.ownsMap P (ρ.t 26) R b nn D0) :
    SeqGives F n P (ρ.f 10) #[.pointer (some ⟨Bm, o, none⟩)] encZ (fun ss => ss.Perm (intKeys D0)) (Maps.size D0) w := fun l J W hW hJ hY h0 => by
  have hown' : W.ownsMap P (ρ.t 26) R b nn D0 := by
    have hbl := hown.lt
    obtain ⟨es, clock, hb, Ft, hs, hD⟩ := hown
    exact ⟨es, clock, (hW.block b hbl).trans hb, Ft, hs, hD⟩
  exact keys1_own { L with } F n h10 hro hn l Bm o b nn D0 J hY W hJ ((hW.cell (p := ⟨Bm, o, none⟩) hBm).trans hm) hown' h0


end

/-! sorted -/

def insI (x : Int) : List Int → List Int
  | [] => [x]
  | y :: r => if Int.decLe x y |>.decide then x :: y :: r else y :: insI x r

def isortI : List Int → List Int
  | [] => []
  | x :: r => insI x (isortI r)

theorem insI_perm (x : Int) : ∀ l, (insI x l).Perm (x :: l)
  | [] => .refl _
  | y :: r => by
    simp only [insI]
    split
    · exact .refl _
    · exact ((insI_perm x r).cons y).trans (.swap x y r)

theorem isortI_perm : ∀ l, (isortI l).Perm l
  | [] => .refl _
  | x :: r => (insI_perm x _).trans ((isortI_perm r).cons x)

theorem insI_sorted (x : Int) : ∀ {l : List Int}, l.Pairwise (fun a b => a ≤ b) → (insI x l).Pairwise (fun a b => a ≤ b)
  | [], _ => by simp [insI]
  | y :: r, h => by
    simp only [insI]
    rw [List.pairwise_cons] at h
    split
    · rename_i hxy
      have hxy : x ≤ y := by simpa using hxy
      refine List.pairwise_cons.2 ⟨fun z hz => ?_, List.pairwise_cons.2 h⟩
      rcases List.mem_cons.1 hz with rfl | hz
      · exact hxy
      · exact Int.le_trans hxy (h.1 z hz)
    · rename_i hxy
      have hxy : ¬ x ≤ y := by simpa using hxy
      refine List.pairwise_cons.2 ⟨fun z hz => ?_, insI_sorted x h.2⟩
      rcases List.mem_cons.1 ((insI_perm x r).mem_iff.1 hz) with rfl | hz
      · omega
      · exact h.1 z hz

theorem isortI_sorted : ∀ l : List Int, (isortI l).Pairwise (fun a b => a ≤ b)
  | [] => .nil
  | x :: r => insI_sorted x (isortI_sorted r)

theorem sort_eq {l l' : List Int} (h : l.Perm l') : l.mergeSort (fun x y => decide (x ≤ y)) = isortI l' := by
  refine List.Perm.eq_of_pairwise (le := fun a b => a ≤ b) (fun a b _ _ h1 h2 => by omega) ?_ (isortI_sorted l') (((List.mergeSort_perm l _).trans h).trans (isortI_perm l').symm)
  have := List.pairwise_mergeSort (le := fun x y : Int => decide (x ≤ y)) (fun a b c h1 h2 => by simp only [decide_eq_true_eq] at *; omega) (fun a b => by simp only [Bool.or_eq_true, decide_eq_true_eq]; omega) l
  exact this.imp fun h => by simpa using h

/-! a map of the abstract heap, as the contracts speak of it -/

def nodupI : List Int → Bool
  | [] => true
  | x :: r => !(r.any fun y => x == y) && nodupI r

theorem nodupI_spec : ∀ {l : List Int}, nodupI l = true → l.Nodup
  | [], _ => .nil
  | x :: r, h => by
    simp only [nodupI, Bool.and_eq_true, Bool.not_eq_true', List.any_eq_false] at h
    exact List.nodup_cons.2 ⟨fun hm => by have := h.1 x hm; simp at this, nodupI_spec h.2⟩

def mapOk (es : List (AV × AV × Nat)) (clock : Nat) (zs : List Int) : Bool :=
  Nat.ble zs.length 1000000 && (zs.all (fun z => decide (-9223372036854775808 ≤ z) && decide (z ≤ 9223372036854775807)) && (es.all (fun e => Nat.blt e.2.2 clock) && (nodupI (es.map fun e => (e.2.2 : Int)) && nodupI zs)))

theorem insert_perm {H : Type} (x : Lit × DataW H) : ∀ l, (DataW.insert x l).Perm (x :: l)
  | [] => .refl _
  | y :: r => by
    simp only [DataW.insert]
    split
    · exact .refl _
    · exact ((insert_perm x r).cons y).trans (.swap x y r)

theorem foldr_insert_perm {H : Type} : ∀ l : List (Lit × DataW H), (l.foldr DataW.insert []).Perm l
  | [] => .refl _
  | x :: r => by
    simp only [List.foldr_cons]
    exact (insert_perm x _).trans ((foldr_insert_perm r).cons x)

abbrev anyR : Value → Option (DataW Unit × List MemPlace) := fun _ => some (.lit (.bool true), [])

theorem EntR.keys {ρ : Pl} {es : List (AV × AV × Nat)} {xs : List MapEntry} (h : EntR ρ es xs) : ∀ {zs : List Int}, intsOf (es.map (·.1)) = some zs → xs.map (·.key) = zs.map (Value.int .i64) := by
  induction h with
  | nil => intro zs e; simp [intsOf] at e; subst e; rfl
  | @cons k v n es x y xs hk hv ht ih =>
    intro zs e
    have := intsOf_eq e
    cases zs with
    | nil => simp at this
    | cons z zs =>
      simp only [List.map_cons, List.cons.injEq] at this
      obtain ⟨h1, h2⟩ := this
      subst h1
      simp only [VR] at hk
      subst hk
      simp only [List.map_cons, intsOf, Option.map_eq_some_iff] at e
      obtain ⟨l, hl, e⟩ := e
      simp only [List.cons.injEq, true_and] at e
      subst e
      simp [ih hl]

theorem EntR.births {ρ : Pl} {es : List (AV × AV × Nat)} {xs : List MapEntry} (h : EntR ρ es xs) : xs.map (·.born) = es.map (·.2.2) := by
  induction h with
  | nil => rfl
  | cons _ _ _ ih => simp [ih]

theorem owns_of {P : Program} {k : TypeId} (hk : P.underlying k = some (.int .i64)) {ρ : Pl} {w : World} {b : Nat} {ents : Array MapEntry} {clock : Nat} (hb : w.heap[b]? = some (.map ents clock)) {es : List (AV × AV × Nat)} (hE : EntR ρ es ents.toList)
    {zs : List Int} (hz : intsOf (es.map (·.1)) = some zs) (hck : mapOk es clock zs = true) : ∃ D0 : DataW Unit, w.ownsMap P k anyR b ents.size D0 ∧ (intKeys D0).Perm zs ∧ Maps.size D0 = zs.length := by
  simp only [mapOk, Bool.and_eq_true, Nat.ble_eq] at hck
  obtain ⟨hlen, hrange, hborn, hbn, hzn⟩ := hck
  have hkeys := hE.keys hz
  have hbirths := hE.births
  have hsize : ents.size = zs.length := by
    have := congrArg List.length hkeys
    simpa using this
  have hrd : ∀ x ∈ ents.toList, ∃ z, x.key = .int .i64 z ∧ z ∈ zs ∧ Go.WideElems.rd P k anyR x = some (.int .i64 z, .lit (.bool true)) := by
    intro x hx
    have hm : x.key ∈ ents.toList.map (·.key) := List.mem_map.2 ⟨x, hx, rfl⟩
    rw [hkeys] at hm
    obtain ⟨z, hz1, hz2⟩ := List.mem_map.1 hm
    have hr := List.all_eq_true.1 hrange z hz1
    simp only [Bool.and_eq_true, decide_eq_true_eq] at hr
    refine ⟨z, hz2.symm, hz1, ?_⟩
    have hwf : (Lit.int .i64 z).wf = true := by simp [Lit.wf]; first | exact hr | (constructor <;> omega) | omega
    simp [Go.WideElems.rd, keyOf, hk, mapKey, ← hz2, hwf, anyR]
  refine ⟨.map ((ents.toList.map (Go.WideElems.rg P k anyR)).foldr DataW.insert []), ⟨ents, clock, hb, ⟨by rw [hsize]; simp [maxLen]; omega, ⟨?_, ?_, ?_⟩, fun x hx => ?_⟩, Nat.le_refl _, rfl⟩, ?_, ?_⟩
  · intro x hx
    have hm : x.born ∈ ents.toList.map (·.born) := List.mem_map.2 ⟨x, hx, rfl⟩
    rw [hbirths] at hm
    obtain ⟨e, he1, he2⟩ := List.mem_map.1 hm
    have := List.all_eq_true.1 hborn e he1
    rw [Nat.blt_eq] at this
    omega
  · rw [hbirths]
    have := nodupI_spec hbn
    have h2 : (es.map fun e => (e.2.2 : Int)) = (es.map (·.2.2)).map (fun n : Nat => (n : Int)) := by simp
    rw [h2] at this
    exact (List.pairwise_map.1 this).imp fun h e => h (by rw [e])
  · rw [hkeys]
    have := nodupI_spec hzn
    refine List.Pairwise.map _ (fun a b hab => ?_) this
    intro h; cases h; exact hab rfl
  · obtain ⟨z, _, _, h⟩ := hrd x hx
    exact ⟨_, h⟩
  · have hp := foldr_insert_perm (ents.toList.map (Go.WideElems.rg P k anyR))
    simp only [intKeys]
    refine (hp.map _).trans (.of_eq ?_)
    rw [List.map_map]
    have : ∀ l : List MapEntry, (∀ x ∈ l, ∃ z, x.key = .int .i64 z ∧ z ∈ zs ∧ Go.WideElems.rd P k anyR x = some (.int .i64 z, .lit (.bool true))) → ∀ us : List Int, l.map (·.key) = us.map (Value.int .i64) → l.map ((fun p => Go.intOf p.1) ∘ Go.WideElems.rg P k anyR) = us := by
      intro l
      induction l with
      | nil => intro _ us e; cases us <;> simp_all
      | cons x r ih =>
        intro hl us e
        cases us with
        | nil => simp at e
        | cons u us =>
          simp only [List.map_cons, List.cons.injEq] at e ⊢
          obtain ⟨z, h1, _, h3⟩ := hl x (by simp)
          rw [h1] at e
          obtain ⟨e1, e2⟩ := e
          cases e1
          exact ⟨by simp [Go.WideElems.rg, h3, Go.intOf], ih (fun y hy => hl y (by simp [hy])) us e2⟩
    exact this _ hrd _ hkeys
  · simp only [Maps.size]
    rw [(foldr_insert_perm _).length_eq, List.length_map]
    simpa using hsize

end Go.AM

/-
  SLICES.SORTFUNC OVER A ROW OF STRUCTS OF ONE'S OWN (own work over the shelf's contract), in the words of the walks.
-/
namespace Go.AM
open Go.Sort (grow putRow Holds putCells mapBlock grow_empty pdq SWO flatK size_flatK get_flatK HoldsK putRowK)
open Go.RowKit Go.Shelf
set_option linter.unusedVariables false
set_option linter.unusedSimpArgs false
namespace SortG
theorem put_heap {w : World} {g off : Nat} {cur : Array Value} {e : TypeId} {fr : Nat × Nat} (hg : w.heap[g]? = some (.cells cur e fr)) (n : Nat) (ys : Array Value) (os : Array Obj) :
    (grow (putRow id (Go.Sort.ahead w n) g off ys) os).heap[g]? = some (.cells (putCells id off ys cur) e fr) := by
  obtain ⟨hlt, _⟩ := Array.getElem?_eq_some_iff.1 hg
  unfold grow putRow mapBlock Go.Sort.ahead
  simp only
  rw [Array.getElem?_append_left (by simpa using hlt), Array.getElem?_modify, if_pos rfl, hg]
  rfl
theorem put_other {w : World} {g off k : Nat} (hk : k ≠ g) (hlt : k < w.heap.size) (n : Nat) (ys : Array Value) (os : Array Obj) :
    (grow (putRow id (Go.Sort.ahead w n) g off ys) os).heap[k]? = w.heap[k]? := by
  unfold grow putRow mapBlock Go.Sort.ahead
  simp only
  rw [Array.getElem?_append_left (by simpa using hlt), Array.getElem?_modify, if_neg (fun h => hk h.symm)]
/-- the block of an own row written by the world's own hand, and new blocks behind -/
theorem post_put {c : Ctx} {base : Nat} {w0 w w' : World} {ρ : Pl} {H : AHeap} (h : Rel c base w0 ρ H w) {i : Nat} {o o' : AObj} {p : AM.Place} (e : hat H i = some o) (s : o.solid = true) (s' : o'.solid = true) (r : ρ (.own i) = some p)
    (hos : w'.os = w.os) (htp : w'.tape = w.tape) (hout : w'.output = w.output) (hsz : w.heap.size ≤ w'.heap.size) (hbl : ∀ k, k < w.heap.size → k ≠ p.b → w'.heap[k]? = w.heap[k]?) (ho' : ObjR ρ p w'.heap o') :
    Post c base w0 ρ H w ρ (H.set i (some o')) w' := by
  have hpb := rel_lt h e r s
  let w1 : World := { w' with heap := w'.heap.extract 0 w.heap.size }
  have h1 : ∀ k, k < w.heap.size → w1.heap[k]? = w'.heap[k]? := by
    intro k hk
    show (w'.heap.extract 0 w.heap.size)[k]? = _
    rw [Array.getElem?_extract]
    rw [if_pos (by omega)]
    simp
  have hw1 : w1.heap.size = w.heap.size := by show (w'.heap.extract 0 w.heap.size).size = _; simp; omega
  have ho1 : ObjR ρ p w1.heap o' := ho'.mono (Ext.refl _) (fun _ => h1 p.b hpb)
  have p1 := post_set h e s r (w' := w1) hos htp hout hw1 (fun k hk => by
    by_cases hk2 : k < w.heap.size
    · rw [h1 k hk2]; exact hbl k hk2 hk
    · rw [Array.getElem?_eq_none (by omega), Array.getElem?_eq_none (by omega)]) ho1
  have p2 := post_grow p1.rel (w' := w') ⟨rfl, rfl, rfl, by omega, fun k hk => (h1 k (by omega)).symm⟩
  exact p1.trans p2
/-- a cell that names no block -/
def plain (u : AV) (y : Value) : Prop := ∀ ρ z, VR ρ u z ↔ z = y
/-- the two forms of an element: the machine's cells, the model's -/
structure Twin {α : Type} (w : Wd α) (encV : α → List Value) : Prop where
  len : ∀ x, (encV x).length = w.W
  one : ∀ x, ∀ v ∈ encV x, v.oneCell' = true
  eq : ∀ (x : α) (k : Nat) (u : AV), (w.enc x)[k]? = some u → ∃ y : Value, (encV x)[k]? = some y ∧ plain u y
def Zip : List AV → List Value → Prop
  | [], [] => True
  | u :: us, y :: ys => plain u y ∧ Zip us ys
  | _, _ => False
theorem Zip.facts : ∀ {a : List AV} {b : List Value}, Zip a b → b.length = a.length ∧ ∀ (k : Nat) (u : AV), a[k]? = some u → ∃ y : Value, b[k]? = some y ∧ plain u y
  | [], [], _ => ⟨rfl, fun k u h => by simp at h⟩
  | u :: us, y :: ys, ⟨h, r⟩ => by
    obtain ⟨h1, h2⟩ := Zip.facts r
    refine ⟨by simp [h1], fun k x hx => ?_⟩
    cases k with
    | zero => simp only [List.getElem?_cons_zero, Option.some.injEq] at hx; subst hx; exact ⟨y, rfl, h⟩
    | succ k => simp only [List.getElem?_cons_succ] at hx ⊢; exact h2 k x hx
  | [], _ :: _, h => h.elim
  | _ :: _, [], h => h.elim
theorem Twin.of {α : Type} {w : Wd α} {encV : α → List Value} (h : ∀ x, Zip (w.enc x) (encV x)) (one : ∀ x, ∀ v ∈ encV x, v.oneCell' = true) : Twin w encV :=
  ⟨fun x => (h x).facts.1.trans (w.len x), one, fun x => (h x).facts.2⟩
theorem plain_int (k : IntKind) (n : Int) : plain (.int k n) (.int k n) := fun _ _ => Iff.rfl
theorem plain_bool (b : Bool) : plain (.bool b) (.bool b) := fun _ _ => Iff.rfl
variable {α : Type} [Inhabited α] {κ : Kn} {H : AHeap}
/-- the list, sorted -/
def srt (cf : α → α → Int) (xs : List α) : List α := (pdq (Go.Proofs.ltOf cf) xs.toArray 0 xs.length (Go.Lib.bitLen xs.length) true true).toList
theorem srt_facts (cf : α → α → Int) (hO : SWO (Go.Proofs.ltOf cf)) (xs : List α) : (srt cf xs).length = xs.length ∧ (srt cf xs).Perm xs ∧ (srt cf xs).Pairwise (fun x y => Go.Proofs.ltOf cf y x = false) := by
  have h := Go.Sort.pdq_sorts (Go.Proofs.ltOf cf) hO xs.toArray 0 xs.length (Go.Lib.bitLen xs.length) true true (Nat.zero_le _) (by simp) (Or.inl rfl)
  obtain ⟨⟨h1, h2, h3⟩, h4⟩ := h
  unfold srt
  have hs : (pdq (Go.Proofs.ltOf cf) xs.toArray 0 xs.length (Go.Lib.bitLen xs.length) true true).size = xs.length := by rw [h1]; simp
  refine ⟨by simpa using hs, ?_, ?_⟩
  · have e1 : (pdq (Go.Proofs.ltOf cf) xs.toArray 0 xs.length (Go.Lib.bitLen xs.length) true true).extract 0 xs.length = pdq (Go.Proofs.ltOf cf) xs.toArray 0 xs.length (Go.Lib.bitLen xs.length) true true := by
      clear h3 h4 h1 h2
      revert hs
      generalize pdq (Go.Proofs.ltOf cf) xs.toArray 0 xs.length (Go.Lib.bitLen xs.length) true true = q
      intro hs
      rw [← hs]; simp
    have e2 : xs.toArray.extract 0 xs.length = xs.toArray := by simp
    rw [e1, e2] at h3
    simpa using h3
  · rw [List.pairwise_iff_getElem]
    intro i j hi hj hij
    have hi' : i < xs.length := by rw [← hs]; simpa using hi
    have hj' : j < xs.length := by rw [← hs]; simpa using hj
    have := h4 i j (Nat.zero_le _) hij hj'
    rw [getElem!_pos _ i (by rw [hs]; exact hi'), getElem!_pos _ j (by rw [hs]; exact hj')] at this
    simpa using this
/-- slices.SortFunc, a comparison that may lay blocks -/
theorem pt {P : Program} {rn : Ren} (hP : κ.c.P = P) (L : Go.Proofs.SlLaysF0.n6 P rn) {w : Wd α} {encV : α → List Value} (hT : Twin w encV)
    (aE : ∀ W, (isAgg (rn.t 24)).run P W = .ok true W) (zE : ∀ W, (Go.sizeOf (rn.t 24)).run P W = .ok w.W W)
    (cf : α → α → Int) (hO : SWO (Go.Proofs.ltOf cf)) (g : Nat) (eg : ∀ args W, (callFunc g args).run P W = .ok (.enter g args) W)
    (hc : ∀ x y W, Calls P g #[.agg (encV x).toArray, .agg (encV y).toArray] W fun e w' => e = .returned (.int .i64 (cf x y)) ∧ ∃ q os', w' = grow (W.drewN q) os')
    {b : Nat} {e : TypeId} {xs : List α} (hb : RowF H b e w xs) (hl : xs.length < 4611686018427387904) :
    Pt κ (rn.f 6) [.slice (.own b) w.W 0 xs.length, .func (.func g) [] []] H (.tuple []) (hrow H b e w (srt cf xs)) := by
  intro ρ W ys hr hf hx
  obtain ⟨y, y2, rfl, ⟨p, hp, hcap, rfl⟩, hys⟩ := hx
  obtain ⟨z, z2, rfl, ⟨q1, q2, hq1, hq2, rfl⟩, hzs⟩ := hys
  simp only [VRs] at hzs hq1 hq2
  subst hzs hq1 hq2
  obtain ⟨p', hp', ⟨cs, hcs, hsz, hlen, hcell⟩, hbase⟩ := hr.own b _ hb
  obtain rfl : p = p' := by rw [hp] at hp'; exact Option.some.inj hp'
  have hbw := rel_lt hr hb hp rfl
  have hpos := w.pos
  have hH : HoldsK encV w.W W p.b p.off xs.toArray := by
    unfold HoldsK
    intro j hj
    rw [size_flatK] at hj
    simp only [List.size_toArray] at hj
    have hi : j / w.W < xs.length := Nat.div_lt_of_lt_mul (by rwa [Nat.mul_comm])
    have hm : j % w.W < w.W := Nat.mod_lt _ hpos
    have hd : j / w.W * w.W + j % w.W = j := by rw [Nat.mul_comm]; exact Nat.div_add_mod j w.W
    have hg := w.fl_get hi hm
    rw [hd] at hg
    have hml : j % w.W < (w.enc xs[j / w.W]).length := by rw [w.len]; exact hm
    obtain ⟨u, hu⟩ : ∃ u : AV, (w.enc xs[j / w.W])[j % w.W]? = some u := ⟨_, List.getElem?_eq_getElem hml⟩
    rw [hu] at hg
    obtain ⟨x, hx1, hx2, _⟩ := hcell j u hg
    obtain ⟨v, hv1, hv2⟩ := hT.eq _ _ _ hu
    have := (hv2 ρ x).1 hx2
    subst this
    refine ⟨?_, ?_⟩
    · simp only [World.cell?, hcs, Option.isSome_none, Bool.false_eq_true, if_false, id]
      rw [hx1, get_flatK encV w.W _ j (by simpa using hj)]
      have e1 : xs.toArray[j / w.W]! = xs[j / w.W] := by rw [getElem!_pos xs.toArray (j / w.W) (by simpa using hi)]; simp
      have hm' : j % w.W < (encV xs[j / w.W]).length := by rw [hT.len]; exact hm
      rw [e1, getElem!_pos (encV xs[j / w.W]) (j % w.W) hm']
      rw [List.getElem?_eq_getElem hm'] at hv1
      rw [← hv1]
    · simp only [World.frozen?, hcs]
      simp
  have hcon := Go.Proofs.AnyQ.slices_SortFunc_eq L w.W aE zE encV hT.len hT.one cf hO g #[] p.b p.off p.cap xs.toArray W eg (fun _ _ _ _ x y => hc x y _) hH hbw (by simpa using hl)
  rw [hP]
  simp only [Nat.zero_mul, Nat.add_zero, Nat.sub_zero]
  have hz : xs.toArray.size = xs.length := by simp
  rw [hz] at hcon
  refine Calls.mono hcon ?_
  rintro e' w' ⟨rfl, n, os, rfl⟩
  have hsl := (srt_facts cf hO xs).1
  have hd : pdq (Go.Proofs.ltOf cf) xs.toArray 0 xs.length (Go.Lib.bitLen xs.length) true true = (srt cf xs).toArray := by unfold srt; simp
  rw [hd]
  generalize srt cf xs = s at *
  have hfs : (flatK encV w.W s.toArray).size = xs.length * w.W := by rw [size_flatK]; simp [hsl]
  refine ⟨ρ, _, rfl, ⟨[], rfl, rfl⟩, post_put hr hb rfl rfl hp rfl rfl rfl ?_ (fun k hk hne => put_other hne hk n _ os) ?_⟩
  · unfold Go.Proofs.sortWorldK putRowK grow putRow mapBlock Go.Sort.ahead; simp
  · refine ⟨_, put_heap hcs n _ os, by simpa [putCells] using hsz, by rw [w.fl_len, hsl, ← w.fl_len]; exact hlen, ?_⟩
    intro j u hj
    have hjl : j < s.length * w.W := by
      have := (List.getElem?_eq_some_iff.1 hj).1
      rwa [w.fl_len] at this
    have hi : j / w.W < s.length := Nat.div_lt_of_lt_mul (by rwa [Nat.mul_comm])
    have hm : j % w.W < w.W := Nat.mod_lt _ hpos
    have hdj : j / w.W * w.W + j % w.W = j := by rw [Nat.mul_comm]; exact Nat.div_add_mod j w.W
    have hg := w.fl_get hi hm
    rw [hdj, hj] at hg
    obtain ⟨v, hv1, hv2⟩ := hT.eq _ _ _ hg.symm
    have hjc : p.off + j < cs.size := by
      rw [w.fl_len] at hlen
      rw [hsl] at hjl
      omega
    refine ⟨v, ?_, (hv2 ρ v).2 rfl, ?_⟩
    · simp only [putCells, Array.getElem?_mapIdx, Array.getElem?_eq_getElem hjc, Option.map_some]
      rw [if_pos ⟨by omega, by rw [hfs, ← hsl]; omega⟩, Nat.add_sub_cancel_left]
      simp only [id]
      rw [get_flatK encV w.W _ j (by simpa using hjl)]
      have e1 : s.toArray[j / w.W]! = s[j / w.W] := by rw [getElem!_pos s.toArray (j / w.W) (by simpa using hi)]; simp
      have hm' : j % w.W < (encV s[j / w.W]).length := by rw [hT.len]; exact hm
      rw [e1, getElem!_pos (encV s[j / w.W]) (j % w.W) hm']
      rw [List.getElem?_eq_getElem hm'] at hv1
      exact congrArg some (Option.some.inj hv1)
    · have := List.all_eq_true.1 (w.one s[j / w.W]) u (List.mem_of_getElem? hg.symm)
      exact this
/-- slices.SortFunc of nothing -/
theorem pt_nil {P : Program} {rn : Ren} (hP : κ.c.P = P) (L : Go.Proofs.SlLaysF0.n6 P rn) (g : Nat) :
    Pt κ (rn.f 6) [.nilslice, .func (.func g) [] []] H (.tuple []) H := by
  intro ρ W ys hr hf hx
  obtain ⟨y, y2, rfl, hy, hys⟩ := hx
  obtain ⟨z, z2, rfl, ⟨q1, q2, hq1, hq2, rfl⟩, hzs⟩ := hys
  simp only [VRs] at hzs hq1 hq2
  subst hzs hq1 hq2
  simp only [VR] at hy
  subst hy
  rw [hP]
  refine Calls.mono (Go.Proofs.AnyF.slices_SortFunc_none L none 0 _ W) ?_
  rintro e' w' ⟨rfl, rfl⟩
  exact ⟨ρ, _, rfl, ⟨[], rfl, rfl⟩, Post.refl hr⟩
end SortG
end Go.AM
