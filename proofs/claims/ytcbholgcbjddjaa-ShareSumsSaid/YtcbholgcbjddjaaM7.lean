/- Texts of the proof in one file (own work): Rq, Rr, Rs, Ta, Tb, Tc, Td, Te, Tf, Tg, Th, AmArgs, AmArgs4, Ua, AmKx. -/
import Derived.Test.YtcbholgcbjddjaaM6
import Derived.Test.YtcbholgcbjddjaaM5
import Derived.Test.YtcbholgcbjddjaaM3
import Derived.Deep.Slices
import Derived.Deep.Fields
import Derived.ChangeShapes
import Derived.WideShapes
import Derived.SizedLaws
import Derived.ChangeSlices
/- share.All over what sorting tells (own work). -/
namespace Go.Proofs.Ytcbholgcbjddjaa.sy
open Go.AM Go.AM.Jb
set_option linter.unusedSimpArgs false
set_option linter.unusedVariables false
variable {G : List Nat → Option (List AV)} {base : Nat} {w0 : World}
set_option maxRecDepth 100000
set_option maxHeartbeats 8000000
variable {H : AHeap}
/-- what sorting has to tell -/
def SortSpec (κ : Kn) (srt : List Tk → List Tk) : Prop :=
  (∀ l, (srt l).length = l.length ∧ (srt l).Perm l ∧ (srt l).Pairwise (fun x y => x.id ≤ y.id)) ∧ ∀ {K : AHeap} {v : AV} {xs : List Tk}, OwnF K wT v 51 xs → xs.length ≤ 1000 →
    ∃ K', Pt κ 17 [v, .func (.func 18) [] []] K (.tuple []) K' ∧ OwnF K' wT v 51 (srt xs) ∧ Keep K K' (fun j => v.at? = some j)
/-- is all well at a place of the sorted tasks? -/
def gdAt (s : List Tk) (i : Nat) (h : i < s.length) : Prop := tmay s[i] ∧ (0 < i → (s[i - 1]'(by omega)).id ≠ s[i].id)
theorem all_bad {srt : List Tk → List Tk} (hS : SortSpec (kn G base w0) srt) {v : AV} {l : List Tk} (ho : OwnF H wT v 51 l) (hl : l.length ≤ 1000) (hn : v ≠ .nilslice → l ≠ []) (a b : Int) {k : Nat} (hk : k < (srt l).length) (hb : ¬ gdAt (srt l) k hk) :
    Pt (kn G base w0) 8 [v, .int .i64 a, .int .i64 b] H (.tuple [.nilslice, .int .i64 2]) H := by
  refine Pt.pure ?_ rfl
  refine Pt.fn (n := 79) (rs := [.tmp 6, .tmp 7]) Try.func8 (b := _) rfl rfl rfl (by decide) ?_
  simp only [numbered]
  obtain ⟨u, K1, p1, o1, k1, u1⟩ := clone_ok (G := G) (base := base) (w0 := w0) ho hl hn
  obtain ⟨K2, p2, o2, k2⟩ := hS.2 o1 hl
  have k3 : Keep H K2 (fun _ => False) := k1.trans' k2 fun j hj e => by have := u1 j e; omega
  have hlen := (hS.1 l).1
  rw [← hlen] at hl
  have e0 := (o2.sl (c := (kn G base w0).c)).len Try.underlying34
  generalize srt l = s at *
  refine D.sq (D.ks (.e [(7, AV.int IntKind.i64 0), (6, AV.nilslice)] H) (by kernel_rfl) (D.sq (D.ks (.c p1 <| .e [(8, u)] K1) (by kernel_rfl) (D.sq (D.ks (.c p2 <| .e [] K2) (by kernel_rfl) (D.sq (D.sq (D.ks (.v e0 <| .e [(22, AV.int IntKind.i64 0), (21, AV.int IntKind.i64 (↑(List.length s) : Int)), (20, u)] K2) (by kernel_rfl) (D.bl ?_)))))))))
  refine D.lp (fun m env H' => ∃ i : Nat, m = s.length - i ∧ i ≤ k ∧ Keep K2 H' (fun _ => False) ∧ ELe (E 79 [(22, .int .i64 i), (21, .int .i64 s.length), (20, u), (8, u), (7, .int .i64 0), (6, .nilslice), (2, .int .i64 b), (1, .int .i64 a)]) env) s.length
    ⟨0, by omega, by omega, Keep.refl _, by exact E_le (by decide) (E_size _ _) (by simp only [List.forall_mem_cons, List.not_mem_nil, false_implies, implies_true, and_true, List.cons_append, List.nil_append, Nat.zero_add, Nat.reduceAdd, E_get, Nat.reduceEqDiff, Nat.reduceLT, Nat.reduceLeDiff, if_true, if_false, and_self, true_and] <;> first | rfl | exact ⟨rfl, rfl⟩)⟩ ?_
  clear p1 p2 o1 k1 k2 ho hn u1
  rintro m env H3 ⟨i, rfl, hi, hk3, he⟩
  refine D.forget he ?_
  clear he
  have hin : i < s.length := by omega
  have k4 : Keep K2 (hnew H3 (.row 51 11 (encT s[i]))) (fun _ => False) := hk3.trans (Keep.new _ _)
  have s3 := (o2.keep fun b hb => hk3.2 b (o2.lt hb) id).sl (c := (kn G base w0).c)
  have s4 := (o2.keep fun b hb => k4.2 b (o2.lt hb) id).sl (c := (kn G base w0).c)
  have ia := s3.ia (t := 34) Try.underlying34 sz51 hin .i64
  have ld : aload (kn G base w0).c H3 51 (ptrF wT u i) = some (.agg (encT s[i])) := s3.ldA (c := (kn G base w0).c) hin ag51 sz51
  have p3 := fun H => may20_p (G := G) (base := base) (w0 := w0) (H := H) s[i]
  have hg : i ≠ k → gdAt s i hin → Keep K2 (hnew H3 (.row 51 11 (encT s[i]))) (fun _ => False) ∧ i + 1 ≤ k := fun h _ => ⟨k4, by omega⟩
  by_cases h1 : tmay s[i]
  rotate_left
  · rw [decide_eq_false h1] at p3
    generalize s[i] = t at *
    simp only [encT] at p3 ld
    refine D.sq (D.ks (.y (show (↑i : Int) < (↑(List.length s) : Int) by omega) <| .e [(23, AV.bool true)] H3) (by kernel_rfl) (D.sq (D.ct (by kernel_rfl) (D.skip (Ks_n' (D.sq (D.bl (D.sq (D.ks (.v ia <| .v ld <| .h (st_top (H := H3) (t := 51) (e := 11) (cs := [AV.int IntKind.i64 0, AV.int IntKind.i64 0, AV.int IntKind.i64 0, AV.bool false, AV.bool false, AV.bool false, AV.bool false, AV.int IntKind.i64 0, AV.int IntKind.i64 0, AV.bool false, AV.int IntKind.i64 0]) (off := 0) (vs := [AV.int IntKind.i64 (Tk.id t), AV.int IntKind.i64 (Tk.e t), AV.int IntKind.i64 (Tk.p t), AV.bool (Tk.sp t), AV.bool (Tk.lv t), AV.bool (Tk.wt t), AV.bool (Tk.ac t), AV.int IntKind.i64 (Tk.rl t), AV.int IntKind.i64 (Tk.gt t), AV.bool (Tk.dn t), AV.int IntKind.i64 (Tk.ct t)]) (cs' := [AV.int IntKind.i64 (Tk.id t), AV.int IntKind.i64 (Tk.e t), AV.int IntKind.i64 (Tk.p t), AV.bool (Tk.sp t), AV.bool (Tk.lv t), AV.bool (Tk.wt t), AV.bool (Tk.ac t), AV.int IntKind.i64 (Tk.rl t), AV.int IntKind.i64 (Tk.gt t), AV.bool (Tk.dn t), AV.int IntKind.i64 (Tk.ct t)]) rfl rfl rfl) <| .e [(9, AV.int IntKind.i64 (↑i : Int)), (10, AV.ptr (Loc.own (List.length H3)) 0)] (hnew H3 (AObj.row 51 11 [AV.int IntKind.i64 (Tk.id t), AV.int IntKind.i64 (Tk.e t), AV.int IntKind.i64 (Tk.p t), AV.bool (Tk.sp t), AV.bool (Tk.lv t), AV.bool (Tk.wt t), AV.bool (Tk.ac t), AV.int IntKind.i64 (Tk.rl t), AV.int IntKind.i64 (Tk.gt t), AV.bool (Tk.dn t), AV.int IntKind.i64 (Tk.ct t)]))) (by kernel_rfl) (D.sq (D.kcs [20] (.q (@hat_nn H3 (AObj.row 51 11 [AV.int IntKind.i64 (Tk.id t), AV.int IntKind.i64 (Tk.e t), AV.int IntKind.i64 (Tk.p t), AV.bool (Tk.sp t), AV.bool (Tk.lv t), AV.bool (Tk.wt t), AV.bool (Tk.ac t), AV.int IntKind.i64 (Tk.rl t), AV.int IntKind.i64 (Tk.gt t), AV.bool (Tk.dn t), AV.int IntKind.i64 (Tk.ct t)])) <| .f (@p3 (hnew H3 (AObj.row 51 11 [AV.int IntKind.i64 (Tk.id t), AV.int IntKind.i64 (Tk.e t), AV.int IntKind.i64 (Tk.p t), AV.bool (Tk.sp t), AV.bool (Tk.lv t), AV.bool (Tk.wt t), AV.bool (Tk.ac t), AV.int IntKind.i64 (Tk.rl t), AV.int IntKind.i64 (Tk.gt t), AV.bool (Tk.dn t), AV.int IntKind.i64 (Tk.ct t)]))) <| .a <| .e [(44, AV.bool true)] (hnew H3 (AObj.row 51 11 [AV.int IntKind.i64 (Tk.id t), AV.int IntKind.i64 (Tk.e t), AV.int IntKind.i64 (Tk.p t), AV.bool (Tk.sp t), AV.bool (Tk.lv t), AV.bool (Tk.wt t), AV.bool (Tk.ac t), AV.int IntKind.i64 (Tk.rl t), AV.int IntKind.i64 (Tk.gt t), AV.bool (Tk.dn t), AV.int IntKind.i64 (Tk.ct t)]))) (by kernel_rfl) (D.ct (by kernel_rfl) (D.sq (D.ks (.e [(7, AV.int IntKind.i64 2), (6, AV.nilslice)] (hnew H3 (AObj.row 51 11 [AV.int IntKind.i64 (Tk.id t), AV.int IntKind.i64 (Tk.e t), AV.int IntKind.i64 (Tk.p t), AV.bool (Tk.sp t), AV.bool (Tk.lv t), AV.bool (Tk.wt t), AV.bool (Tk.ac t), AV.int IntKind.i64 (Tk.rl t), AV.int IntKind.i64 (Tk.gt t), AV.bool (Tk.dn t), AV.int IntKind.i64 (Tk.ct t)]))) (by kernel_rfl) (D.ret (Kb_r' (Ks_r' (Kl_r' (Kb_r' (Ks_r' (Kf_by (AV.tuple [AV.nilslice, AV.int IntKind.i64 2]) (.r (AV.tuple [AV.nilslice, AV.int IntKind.i64 2])) (by kernel_rfl) ?_)))))))))))))))))))))
    exact ⟨rfl, (k3.trans hk3).trans (Keep.new _ _)⟩
  rw [decide_eq_true h1] at p3
  by_cases h0 : i = 0
  · have hik : i ≠ k := by
      rintro rfl
      exact hb ⟨h1, fun h => by omega⟩
    generalize s[i] = t at *
    simp only [encT] at p3 ld
    clear hg
    refine D.sq (D.ks (.y (show (↑i : Int) < (↑(List.length s) : Int) by omega) <| .e [(23, AV.bool true)] H3) (by kernel_rfl) (D.sq (D.ct (by kernel_rfl) (D.skip (Ks_n' (D.sq (D.bl (D.sq (D.ks (.v ia <| .v ld <| .h (st_top (H := H3) (t := 51) (e := 11) (cs := [AV.int IntKind.i64 0, AV.int IntKind.i64 0, AV.int IntKind.i64 0, AV.bool false, AV.bool false, AV.bool false, AV.bool false, AV.int IntKind.i64 0, AV.int IntKind.i64 0, AV.bool false, AV.int IntKind.i64 0]) (off := 0) (vs := [AV.int IntKind.i64 (Tk.id t), AV.int IntKind.i64 (Tk.e t), AV.int IntKind.i64 (Tk.p t), AV.bool (Tk.sp t), AV.bool (Tk.lv t), AV.bool (Tk.wt t), AV.bool (Tk.ac t), AV.int IntKind.i64 (Tk.rl t), AV.int IntKind.i64 (Tk.gt t), AV.bool (Tk.dn t), AV.int IntKind.i64 (Tk.ct t)]) (cs' := [AV.int IntKind.i64 (Tk.id t), AV.int IntKind.i64 (Tk.e t), AV.int IntKind.i64 (Tk.p t), AV.bool (Tk.sp t), AV.bool (Tk.lv t), AV.bool (Tk.wt t), AV.bool (Tk.ac t), AV.int IntKind.i64 (Tk.rl t), AV.int IntKind.i64 (Tk.gt t), AV.bool (Tk.dn t), AV.int IntKind.i64 (Tk.ct t)]) rfl rfl rfl) <| .e [(9, AV.int IntKind.i64 (↑i : Int)), (10, AV.ptr (Loc.own (List.length H3)) 0)] (hnew H3 (AObj.row 51 11 [AV.int IntKind.i64 (Tk.id t), AV.int IntKind.i64 (Tk.e t), AV.int IntKind.i64 (Tk.p t), AV.bool (Tk.sp t), AV.bool (Tk.lv t), AV.bool (Tk.wt t), AV.bool (Tk.ac t), AV.int IntKind.i64 (Tk.rl t), AV.int IntKind.i64 (Tk.gt t), AV.bool (Tk.dn t), AV.int IntKind.i64 (Tk.ct t)]))) (by kernel_rfl) (D.sq (D.kcs [20] (.q (@hat_nn H3 (AObj.row 51 11 [AV.int IntKind.i64 (Tk.id t), AV.int IntKind.i64 (Tk.e t), AV.int IntKind.i64 (Tk.p t), AV.bool (Tk.sp t), AV.bool (Tk.lv t), AV.bool (Tk.wt t), AV.bool (Tk.ac t), AV.int IntKind.i64 (Tk.rl t), AV.int IntKind.i64 (Tk.gt t), AV.bool (Tk.dn t), AV.int IntKind.i64 (Tk.ct t)])) <| .f (@p3 (hnew H3 (AObj.row 51 11 [AV.int IntKind.i64 (Tk.id t), AV.int IntKind.i64 (Tk.e t), AV.int IntKind.i64 (Tk.p t), AV.bool (Tk.sp t), AV.bool (Tk.lv t), AV.bool (Tk.wt t), AV.bool (Tk.ac t), AV.int IntKind.i64 (Tk.rl t), AV.int IntKind.i64 (Tk.gt t), AV.bool (Tk.dn t), AV.int IntKind.i64 (Tk.ct t)]))) <| .a <| .o (show ¬ (0 < (↑i : Int)) by omega) <| .e [(44, AV.bool false)] (hnew H3 (AObj.row 51 11 [AV.int IntKind.i64 (Tk.id t), AV.int IntKind.i64 (Tk.e t), AV.int IntKind.i64 (Tk.p t), AV.bool (Tk.sp t), AV.bool (Tk.lv t), AV.bool (Tk.wt t), AV.bool (Tk.ac t), AV.int IntKind.i64 (Tk.rl t), AV.int IntKind.i64 (Tk.gt t), AV.bool (Tk.dn t), AV.int IntKind.i64 (Tk.ct t)]))) (by kernel_rfl) (D.cf (by kernel_rfl) (D.skip (Kb_n' (Ks_n' (D.kr (.n (@wrap_to ((↑i : Int) + 1) ((↑(i + 1) : Int)) (by omega) (by omega) (by omega)) <| .e [(22, AV.int IntKind.i64 (↑(i + 1) : Int))] (hnew H3 (AObj.row 51 11 [AV.int IntKind.i64 (Tk.id t), AV.int IntKind.i64 (Tk.e t), AV.int IntKind.i64 (Tk.p t), AV.bool (Tk.sp t), AV.bool (Tk.lv t), AV.bool (Tk.wt t), AV.bool (Tk.ac t), AV.int IntKind.i64 (Tk.rl t), AV.int IntKind.i64 (Tk.gt t), AV.bool (Tk.dn t), AV.int IntKind.i64 (Tk.ct t)]))) (by kernel_rfl) ?_))))))))))))))))
    exact ⟨s.length - (i + 1), by omega, i + 1, (by first | exact rfl | exact True.intro), by omega, k4, by exact E_le (by decide) (E_size _ _) (by simp only [List.forall_mem_cons, List.not_mem_nil, false_implies, implies_true, and_true, List.cons_append, List.nil_append, Nat.zero_add, Nat.reduceAdd, E_get, Nat.reduceEqDiff, Nat.reduceLT, Nat.reduceLeDiff, if_true, if_false, and_self, true_and] <;> first | rfl | exact ⟨rfl, rfl⟩)⟩
  obtain ⟨j, rfl⟩ : ∃ j, i = j + 1 := ⟨i - 1, by omega⟩
  have hjn : j < s.length := by omega
  have ia2 : aindexAddr (kn G base w0).c 34 u (.int .i64 (((j + 1 : Nat) : Int) - 1)) = some (ptrF wT u j) := by
    rw [show ((j + 1 : Nat) : Int) - 1 = (j : Int) by omega]
    exact s4.ia (t := 34) Try.underlying34 sz51 hjn .i64
  have fa2 : afieldAddr (kn G base w0).c 51 (ptrF wT u j) 0 = some (ptrJ wT u j 0) := s4.fa (c := (kn G base w0).c) hjn (s := 51) Try.underlying51 (f := 0) rfl sz3 (by decide)
  have ld2 := s4.ld (c := (kn G base w0).c) hjn (j := 0) (by decide) (t := 3) (u := .int .i64 s[j].id) rfl ag3
  have hg2 : s[j].id ≠ s[j + 1].id → j + 1 ≠ k := by
    rintro h rfl
    exact hb ⟨h1, fun _ => h⟩
  clear hg
  generalize s[j + 1] = t at *
  generalize s[j] = t' at *
  by_cases h2 : t'.id = t.id
  · simp only [encT] at p3 ld ld2 ia2 fa2
    refine D.sq (D.ks (.y (show (↑(j + 1) : Int) < (↑(List.length s) : Int) by omega) <| .e [(23, AV.bool true)] H3) (by kernel_rfl) (D.sq (D.ct (by kernel_rfl) (D.skip (Ks_n' (D.sq (D.bl (D.sq (D.ks (.v ia <| .v ld <| .h (st_top (H := H3) (t := 51) (e := 11) (cs := [AV.int IntKind.i64 0, AV.int IntKind.i64 0, AV.int IntKind.i64 0, AV.bool false, AV.bool false, AV.bool false, AV.bool false, AV.int IntKind.i64 0, AV.int IntKind.i64 0, AV.bool false, AV.int IntKind.i64 0]) (off := 0) (vs := [AV.int IntKind.i64 (Tk.id t), AV.int IntKind.i64 (Tk.e t), AV.int IntKind.i64 (Tk.p t), AV.bool (Tk.sp t), AV.bool (Tk.lv t), AV.bool (Tk.wt t), AV.bool (Tk.ac t), AV.int IntKind.i64 (Tk.rl t), AV.int IntKind.i64 (Tk.gt t), AV.bool (Tk.dn t), AV.int IntKind.i64 (Tk.ct t)]) (cs' := [AV.int IntKind.i64 (Tk.id t), AV.int IntKind.i64 (Tk.e t), AV.int IntKind.i64 (Tk.p t), AV.bool (Tk.sp t), AV.bool (Tk.lv t), AV.bool (Tk.wt t), AV.bool (Tk.ac t), AV.int IntKind.i64 (Tk.rl t), AV.int IntKind.i64 (Tk.gt t), AV.bool (Tk.dn t), AV.int IntKind.i64 (Tk.ct t)]) rfl rfl rfl) <| .e [(9, AV.int IntKind.i64 (↑(j + 1) : Int)), (10, AV.ptr (Loc.own (List.length H3)) 0)] (hnew H3 (AObj.row 51 11 [AV.int IntKind.i64 (Tk.id t), AV.int IntKind.i64 (Tk.e t), AV.int IntKind.i64 (Tk.p t), AV.bool (Tk.sp t), AV.bool (Tk.lv t), AV.bool (Tk.wt t), AV.bool (Tk.ac t), AV.int IntKind.i64 (Tk.rl t), AV.int IntKind.i64 (Tk.gt t), AV.bool (Tk.dn t), AV.int IntKind.i64 (Tk.ct t)]))) (by kernel_rfl) (D.sq (D.kcs [20] (.q (@hat_nn H3 (AObj.row 51 11 [AV.int IntKind.i64 (Tk.id t), AV.int IntKind.i64 (Tk.e t), AV.int IntKind.i64 (Tk.p t), AV.bool (Tk.sp t), AV.bool (Tk.lv t), AV.bool (Tk.wt t), AV.bool (Tk.ac t), AV.int IntKind.i64 (Tk.rl t), AV.int IntKind.i64 (Tk.gt t), AV.bool (Tk.dn t), AV.int IntKind.i64 (Tk.ct t)])) <| .f (@p3 (hnew H3 (AObj.row 51 11 [AV.int IntKind.i64 (Tk.id t), AV.int IntKind.i64 (Tk.e t), AV.int IntKind.i64 (Tk.p t), AV.bool (Tk.sp t), AV.bool (Tk.lv t), AV.bool (Tk.wt t), AV.bool (Tk.ac t), AV.int IntKind.i64 (Tk.rl t), AV.int IntKind.i64 (Tk.gt t), AV.bool (Tk.dn t), AV.int IntKind.i64 (Tk.ct t)]))) <| .a <| .y (show 0 < (↑(j + 1) : Int) by omega) <| .n (@wrap_to ((↑(j + 1) : Int) - 1) ((↑(j + 1) : Int) - 1) (by omega) (by omega) (by omega)) <| .v ia2 <| .v fa2 <| .v ld2 <| .a <| .q (@hat_nn H3 (AObj.row 51 11 [AV.int IntKind.i64 (Tk.id t), AV.int IntKind.i64 (Tk.e t), AV.int IntKind.i64 (Tk.p t), AV.bool (Tk.sp t), AV.bool (Tk.lv t), AV.bool (Tk.wt t), AV.bool (Tk.ac t), AV.int IntKind.i64 (Tk.rl t), AV.int IntKind.i64 (Tk.gt t), AV.bool (Tk.dn t), AV.int IntKind.i64 (Tk.ct t)])) <| .y (show Tk.id t' = Tk.id t by omega) <| .e [(44, AV.bool true)] (hnew H3 (AObj.row 51 11 [AV.int IntKind.i64 (Tk.id t), AV.int IntKind.i64 (Tk.e t), AV.int IntKind.i64 (Tk.p t), AV.bool (Tk.sp t), AV.bool (Tk.lv t), AV.bool (Tk.wt t), AV.bool (Tk.ac t), AV.int IntKind.i64 (Tk.rl t), AV.int IntKind.i64 (Tk.gt t), AV.bool (Tk.dn t), AV.int IntKind.i64 (Tk.ct t)]))) (by kernel_rfl) (D.ct (by kernel_rfl) (D.sq (D.ks (.e [(7, AV.int IntKind.i64 2), (6, AV.nilslice)] (hnew H3 (AObj.row 51 11 [AV.int IntKind.i64 (Tk.id t), AV.int IntKind.i64 (Tk.e t), AV.int IntKind.i64 (Tk.p t), AV.bool (Tk.sp t), AV.bool (Tk.lv t), AV.bool (Tk.wt t), AV.bool (Tk.ac t), AV.int IntKind.i64 (Tk.rl t), AV.int IntKind.i64 (Tk.gt t), AV.bool (Tk.dn t), AV.int IntKind.i64 (Tk.ct t)]))) (by kernel_rfl) (D.ret (Kb_r' (Ks_r' (Kl_r' (Kb_r' (Ks_r' (Kf_by (AV.tuple [AV.nilslice, AV.int IntKind.i64 2]) (.r (AV.tuple [AV.nilslice, AV.int IntKind.i64 2])) (by kernel_rfl) ?_)))))))))))))))))))))
    exact ⟨rfl, (k3.trans hk3).trans (Keep.new _ _)⟩
  · have hik := hg2 h2
    simp only [encT] at p3 ld ld2 ia2 fa2
    refine D.sq (D.ks (.y (show (↑(j + 1) : Int) < (↑(List.length s) : Int) by omega) <| .e [(23, AV.bool true)] H3) (by kernel_rfl) (D.sq (D.ct (by kernel_rfl) (D.skip (Ks_n' (D.sq (D.bl (D.sq (D.ks (.v ia <| .v ld <| .h (st_top (H := H3) (t := 51) (e := 11) (cs := [AV.int IntKind.i64 0, AV.int IntKind.i64 0, AV.int IntKind.i64 0, AV.bool false, AV.bool false, AV.bool false, AV.bool false, AV.int IntKind.i64 0, AV.int IntKind.i64 0, AV.bool false, AV.int IntKind.i64 0]) (off := 0) (vs := [AV.int IntKind.i64 (Tk.id t), AV.int IntKind.i64 (Tk.e t), AV.int IntKind.i64 (Tk.p t), AV.bool (Tk.sp t), AV.bool (Tk.lv t), AV.bool (Tk.wt t), AV.bool (Tk.ac t), AV.int IntKind.i64 (Tk.rl t), AV.int IntKind.i64 (Tk.gt t), AV.bool (Tk.dn t), AV.int IntKind.i64 (Tk.ct t)]) (cs' := [AV.int IntKind.i64 (Tk.id t), AV.int IntKind.i64 (Tk.e t), AV.int IntKind.i64 (Tk.p t), AV.bool (Tk.sp t), AV.bool (Tk.lv t), AV.bool (Tk.wt t), AV.bool (Tk.ac t), AV.int IntKind.i64 (Tk.rl t), AV.int IntKind.i64 (Tk.gt t), AV.bool (Tk.dn t), AV.int IntKind.i64 (Tk.ct t)]) rfl rfl rfl) <| .e [(9, AV.int IntKind.i64 (↑(j + 1) : Int)), (10, AV.ptr (Loc.own (List.length H3)) 0)] (hnew H3 (AObj.row 51 11 [AV.int IntKind.i64 (Tk.id t), AV.int IntKind.i64 (Tk.e t), AV.int IntKind.i64 (Tk.p t), AV.bool (Tk.sp t), AV.bool (Tk.lv t), AV.bool (Tk.wt t), AV.bool (Tk.ac t), AV.int IntKind.i64 (Tk.rl t), AV.int IntKind.i64 (Tk.gt t), AV.bool (Tk.dn t), AV.int IntKind.i64 (Tk.ct t)]))) (by kernel_rfl) (D.sq (D.kcs [20] (.q (@hat_nn H3 (AObj.row 51 11 [AV.int IntKind.i64 (Tk.id t), AV.int IntKind.i64 (Tk.e t), AV.int IntKind.i64 (Tk.p t), AV.bool (Tk.sp t), AV.bool (Tk.lv t), AV.bool (Tk.wt t), AV.bool (Tk.ac t), AV.int IntKind.i64 (Tk.rl t), AV.int IntKind.i64 (Tk.gt t), AV.bool (Tk.dn t), AV.int IntKind.i64 (Tk.ct t)])) <| .f (@p3 (hnew H3 (AObj.row 51 11 [AV.int IntKind.i64 (Tk.id t), AV.int IntKind.i64 (Tk.e t), AV.int IntKind.i64 (Tk.p t), AV.bool (Tk.sp t), AV.bool (Tk.lv t), AV.bool (Tk.wt t), AV.bool (Tk.ac t), AV.int IntKind.i64 (Tk.rl t), AV.int IntKind.i64 (Tk.gt t), AV.bool (Tk.dn t), AV.int IntKind.i64 (Tk.ct t)]))) <| .a <| .y (show 0 < (↑(j + 1) : Int) by omega) <| .n (@wrap_to ((↑(j + 1) : Int) - 1) ((↑(j + 1) : Int) - 1) (by omega) (by omega) (by omega)) <| .v ia2 <| .v fa2 <| .v ld2 <| .a <| .q (@hat_nn H3 (AObj.row 51 11 [AV.int IntKind.i64 (Tk.id t), AV.int IntKind.i64 (Tk.e t), AV.int IntKind.i64 (Tk.p t), AV.bool (Tk.sp t), AV.bool (Tk.lv t), AV.bool (Tk.wt t), AV.bool (Tk.ac t), AV.int IntKind.i64 (Tk.rl t), AV.int IntKind.i64 (Tk.gt t), AV.bool (Tk.dn t), AV.int IntKind.i64 (Tk.ct t)])) <| .o (show ¬ (Tk.id t' = Tk.id t) by omega) <| .e [(44, AV.bool false)] (hnew H3 (AObj.row 51 11 [AV.int IntKind.i64 (Tk.id t), AV.int IntKind.i64 (Tk.e t), AV.int IntKind.i64 (Tk.p t), AV.bool (Tk.sp t), AV.bool (Tk.lv t), AV.bool (Tk.wt t), AV.bool (Tk.ac t), AV.int IntKind.i64 (Tk.rl t), AV.int IntKind.i64 (Tk.gt t), AV.bool (Tk.dn t), AV.int IntKind.i64 (Tk.ct t)]))) (by kernel_rfl) (D.cf (by kernel_rfl) (D.skip (Kb_n' (Ks_n' (D.kr (.n (@wrap_to ((↑(j + 1) : Int) + 1) ((↑(j + 1 + 1) : Int)) (by omega) (by omega) (by omega)) <| .e [(22, AV.int IntKind.i64 (↑(j + 1 + 1) : Int))] (hnew H3 (AObj.row 51 11 [AV.int IntKind.i64 (Tk.id t), AV.int IntKind.i64 (Tk.e t), AV.int IntKind.i64 (Tk.p t), AV.bool (Tk.sp t), AV.bool (Tk.lv t), AV.bool (Tk.wt t), AV.bool (Tk.ac t), AV.int IntKind.i64 (Tk.rl t), AV.int IntKind.i64 (Tk.gt t), AV.bool (Tk.dn t), AV.int IntKind.i64 (Tk.ct t)]))) (by kernel_rfl) ?_))))))))))))))))
    exact ⟨s.length - (j + 1 + 1), by omega, j + 1 + 1, (by first | exact rfl | exact True.intro), by omega, k4, by exact E_le (by decide) (E_size _ _) (by simp only [List.forall_mem_cons, List.not_mem_nil, false_implies, implies_true, and_true, List.cons_append, List.nil_append, Nat.zero_add, Nat.reduceAdd, E_get, Nat.reduceEqDiff, Nat.reduceLT, Nat.reduceLeDiff, if_true, if_false, and_self, true_and] <;> first | rfl | exact ⟨rfl, rfl⟩)⟩
end Go.Proofs.Ytcbholgcbjddjaa.sy

/- share.All over tasks that may be (own work). -/
namespace Go.Proofs.Ytcbholgcbjddjaa.sy
open Go.AM Go.AM.Jb
set_option linter.unusedSimpArgs false
set_option linter.unusedVariables false
variable {G : List Nat → Option (List AV)} {base : Nat} {w0 : World}
set_option maxRecDepth 100000
set_option maxHeartbeats 8000000
variable {H : AHeap}
/-- a task's share of n ticks -/
def lowN (n e p : Nat) : Nat × Nat :=
  (n * (e / Nat.gcd e p) / Nat.gcd (n * (e / Nat.gcd e p)) (p / Nat.gcd e p), (p / Nat.gcd e p) / Nat.gcd (n * (e / Nat.gcd e p)) (p / Nat.gcd e p))
def shOf (n : Nat) (t : Tk) : Sh := ⟨t.id, (lowN n t.e.toNat t.p.toNat).1, (lowN n t.e.toNat t.p.toNat).2, t.dn⟩
def shs (n : Nat) (l : List Tk) : List Sh := (l.filter (·.ac)).map (shOf n)
theorem shs_take {n : Nat} {l : List Tk} {i : Nat} (h : i < l.length) : shs n (l.take (i + 1)) = if l[i].ac then shs n (l.take i) ++ [shOf n l[i]] else shs n (l.take i) := by
  rw [List.take_succ_eq_append_getElem h, shs, List.filter_append, List.map_append]
  by_cases hc : l[i].ac = true
  · rw [if_pos hc]; simp [shs, hc]
  · rw [if_neg hc]; simp [shs, hc]
theorem shs_len {n : Nat} {l : List Tk} : (shs n l).length ≤ l.length := by
  unfold shs; rw [List.length_map]; exact List.length_filter_le _ _
/-- the second loop's body -/
theorem all_ok {srt : List Tk → List Tk} (hS : SortSpec (kn G base w0) srt) {v : AV} {l : List Tk} (ho : OwnF H wT v 51 l) (hl : l.length ≤ 1000) (hn : v ≠ .nilslice → l ≠ []) (a b : Nat) (hab : a < b) (hbb : b < 1048576) (hg : ∀ i (h : i < (srt l).length), gdAt (srt l) i h) :
    ∃ r H', Pt (kn G base w0) 8 [v, .int .i64 a, .int .i64 b] H r H' ∧ ∃ u, r = .tuple [u, .int .i64 0] ∧ OwnF H' wSh u 42 (shs (b - a) (srt l)) ∧ Keep H H' (fun _ => False) ∧ ∀ b, u.at? = some b → H.length ≤ b := by
  refine Pt.fn (n := 79) (rs := [.tmp 6, .tmp 7]) Try.func8 (b := _) rfl rfl rfl (by decide) ?_
  simp only [numbered]
  obtain ⟨u, K1, p1, o1, k1, u1⟩ := clone_ok (G := G) (base := base) (w0 := w0) ho hl hn
  obtain ⟨K2, p2, o2, k2⟩ := hS.2 o1 hl
  have k3 : Keep H K2 (fun _ => False) := k1.trans' k2 fun j hj e => by have := u1 j e; omega
  have hlen := (hS.1 l).1
  rw [← hlen] at hl
  have e0 := (o2.sl (c := (kn G base w0).c)).len Try.underlying34
  generalize srt l = s at *
  refine D.sq (D.ks (.e [(7, AV.int IntKind.i64 0), (6, AV.nilslice)] H) (by kernel_rfl) (D.sq (D.ks (.c p1 <| .e [(8, u)] K1) (by kernel_rfl) (D.sq (D.ks (.c p2 <| .e [] K2) (by kernel_rfl) (D.sq (D.sq (D.ks (.v e0 <| .e [(22, AV.int IntKind.i64 0), (21, AV.int IntKind.i64 (↑(List.length s) : Int)), (20, u)] K2) (by kernel_rfl) (D.bl ?_)))))))))
  refine D.lp (fun m env H' => ∃ i : Nat, m = s.length - i ∧ i ≤ s.length ∧ Keep K2 H' (fun _ => False) ∧ ELe (E 79 [(22, .int .i64 i), (21, .int .i64 s.length), (20, u), (8, u), (7, .int .i64 0), (6, .nilslice), (2, .int .i64 b), (1, .int .i64 a)]) env) s.length
    ⟨0, by omega, by omega, Keep.refl _, by exact E_le (by decide) (E_size _ _) (by simp only [List.forall_mem_cons, List.not_mem_nil, false_implies, implies_true, and_true, List.cons_append, List.nil_append, Nat.zero_add, Nat.reduceAdd, E_get, Nat.reduceEqDiff, Nat.reduceLT, Nat.reduceLeDiff, if_true, if_false, and_self, true_and] <;> first | rfl | exact ⟨rfl, rfl⟩)⟩ ?_
  clear p1 p2 o1 k1 k2 ho hn u1
  rintro m env H3 ⟨i, rfl, hi, hk3, he⟩
  refine D.forget he ?_
  clear he
  by_cases hin : i < s.length
  · have k4 : Keep K2 (hnew H3 (.row 51 11 (encT s[i]))) (fun _ => False) := hk3.trans (Keep.new _ _)
    have s3 := (o2.keep fun b hb => hk3.2 b (o2.lt hb) id).sl (c := (kn G base w0).c)
    have s4 := (o2.keep fun b hb => k4.2 b (o2.lt hb) id).sl (c := (kn G base w0).c)
    have ia := s3.ia (t := 34) Try.underlying34 sz51 hin .i64
    have ld : aload (kn G base w0).c H3 51 (ptrF wT u i) = some (.agg (encT s[i])) := s3.ldA (c := (kn G base w0).c) hin ag51 sz51
    have p3 := fun H => may20_p (G := G) (base := base) (w0 := w0) (H := H) s[i]
    have hgi := hg i hin
    rw [decide_eq_true hgi.1] at p3
    by_cases h0 : i = 0
    · clear hgi
      generalize s[i] = t at *
      simp only [encT] at p3 ld
      refine D.sq (D.ks (.y (show (↑i : Int) < (↑(List.length s) : Int) by omega) <| .e [(23, AV.bool true)] H3) (by kernel_rfl) (D.sq (D.ct (by kernel_rfl) (D.skip (Ks_n' (D.sq (D.bl (D.sq (D.ks (.v ia <| .v ld <| .h (st_top (H := H3) (t := 51) (e := 11) (cs := [AV.int IntKind.i64 0, AV.int IntKind.i64 0, AV.int IntKind.i64 0, AV.bool false, AV.bool false, AV.bool false, AV.bool false, AV.int IntKind.i64 0, AV.int IntKind.i64 0, AV.bool false, AV.int IntKind.i64 0]) (off := 0) (vs := [AV.int IntKind.i64 (Tk.id t), AV.int IntKind.i64 (Tk.e t), AV.int IntKind.i64 (Tk.p t), AV.bool (Tk.sp t), AV.bool (Tk.lv t), AV.bool (Tk.wt t), AV.bool (Tk.ac t), AV.int IntKind.i64 (Tk.rl t), AV.int IntKind.i64 (Tk.gt t), AV.bool (Tk.dn t), AV.int IntKind.i64 (Tk.ct t)]) (cs' := [AV.int IntKind.i64 (Tk.id t), AV.int IntKind.i64 (Tk.e t), AV.int IntKind.i64 (Tk.p t), AV.bool (Tk.sp t), AV.bool (Tk.lv t), AV.bool (Tk.wt t), AV.bool (Tk.ac t), AV.int IntKind.i64 (Tk.rl t), AV.int IntKind.i64 (Tk.gt t), AV.bool (Tk.dn t), AV.int IntKind.i64 (Tk.ct t)]) rfl rfl rfl) <| .e [(9, AV.int IntKind.i64 (↑i : Int)), (10, AV.ptr (Loc.own (List.length H3)) 0)] (hnew H3 (AObj.row 51 11 [AV.int IntKind.i64 (Tk.id t), AV.int IntKind.i64 (Tk.e t), AV.int IntKind.i64 (Tk.p t), AV.bool (Tk.sp t), AV.bool (Tk.lv t), AV.bool (Tk.wt t), AV.bool (Tk.ac t), AV.int IntKind.i64 (Tk.rl t), AV.int IntKind.i64 (Tk.gt t), AV.bool (Tk.dn t), AV.int IntKind.i64 (Tk.ct t)]))) (by kernel_rfl) (D.sq (D.kcs [20] (.q (@hat_nn H3 (AObj.row 51 11 [AV.int IntKind.i64 (Tk.id t), AV.int IntKind.i64 (Tk.e t), AV.int IntKind.i64 (Tk.p t), AV.bool (Tk.sp t), AV.bool (Tk.lv t), AV.bool (Tk.wt t), AV.bool (Tk.ac t), AV.int IntKind.i64 (Tk.rl t), AV.int IntKind.i64 (Tk.gt t), AV.bool (Tk.dn t), AV.int IntKind.i64 (Tk.ct t)])) <| .f (@p3 (hnew H3 (AObj.row 51 11 [AV.int IntKind.i64 (Tk.id t), AV.int IntKind.i64 (Tk.e t), AV.int IntKind.i64 (Tk.p t), AV.bool (Tk.sp t), AV.bool (Tk.lv t), AV.bool (Tk.wt t), AV.bool (Tk.ac t), AV.int IntKind.i64 (Tk.rl t), AV.int IntKind.i64 (Tk.gt t), AV.bool (Tk.dn t), AV.int IntKind.i64 (Tk.ct t)]))) <| .a <| .o (show ¬ (0 < (↑i : Int)) by omega) <| .e [(44, AV.bool false)] (hnew H3 (AObj.row 51 11 [AV.int IntKind.i64 (Tk.id t), AV.int IntKind.i64 (Tk.e t), AV.int IntKind.i64 (Tk.p t), AV.bool (Tk.sp t), AV.bool (Tk.lv t), AV.bool (Tk.wt t), AV.bool (Tk.ac t), AV.int IntKind.i64 (Tk.rl t), AV.int IntKind.i64 (Tk.gt t), AV.bool (Tk.dn t), AV.int IntKind.i64 (Tk.ct t)]))) (by kernel_rfl) (D.cf (by kernel_rfl) (D.skip (Kb_n' (Ks_n' (D.kr (.n (@wrap_to ((↑i : Int) + 1) ((↑(i + 1) : Int)) (by omega) (by omega) (by omega)) <| .e [(22, AV.int IntKind.i64 (↑(i + 1) : Int))] (hnew H3 (AObj.row 51 11 [AV.int IntKind.i64 (Tk.id t), AV.int IntKind.i64 (Tk.e t), AV.int IntKind.i64 (Tk.p t), AV.bool (Tk.sp t), AV.bool (Tk.lv t), AV.bool (Tk.wt t), AV.bool (Tk.ac t), AV.int IntKind.i64 (Tk.rl t), AV.int IntKind.i64 (Tk.gt t), AV.bool (Tk.dn t), AV.int IntKind.i64 (Tk.ct t)]))) (by kernel_rfl) ?_))))))))))))))))
      exact ⟨s.length - (i + 1), by omega, i + 1, (by first | exact rfl | exact True.intro), by omega, k4, by exact E_le (by decide) (E_size _ _) (by simp only [List.forall_mem_cons, List.not_mem_nil, false_implies, implies_true, and_true, List.cons_append, List.nil_append, Nat.zero_add, Nat.reduceAdd, E_get, Nat.reduceEqDiff, Nat.reduceLT, Nat.reduceLeDiff, if_true, if_false, and_self, true_and] <;> first | rfl | exact ⟨rfl, rfl⟩)⟩
    obtain ⟨j, rfl⟩ : ∃ j, i = j + 1 := ⟨i - 1, by omega⟩
    have hjn : j < s.length := by omega
    have ia2 : aindexAddr (kn G base w0).c 34 u (.int .i64 (((j + 1 : Nat) : Int) - 1)) = some (ptrF wT u j) := by
      rw [show ((j + 1 : Nat) : Int) - 1 = (j : Int) by omega]
      exact s4.ia (t := 34) Try.underlying34 sz51 hjn .i64
    have fa2 : afieldAddr (kn G base w0).c 51 (ptrF wT u j) 0 = some (ptrJ wT u j 0) := s4.fa (c := (kn G base w0).c) hjn (s := 51) Try.underlying51 (f := 0) rfl sz3 (by decide)
    have ld2 := s4.ld (c := (kn G base w0).c) hjn (j := 0) (by decide) (t := 3) (u := .int .i64 s[j].id) rfl ag3
    have h2 : s[j].id ≠ s[j + 1].id := hgi.2 (by omega)
    clear hgi
    generalize s[j + 1] = t at *
    generalize s[j] = t' at *
    simp only [encT] at p3 ld ld2 ia2 fa2
    refine D.sq (D.ks (.y (show (↑(j + 1) : Int) < (↑(List.length s) : Int) by omega) <| .e [(23, AV.bool true)] H3) (by kernel_rfl) (D.sq (D.ct (by kernel_rfl) (D.skip (Ks_n' (D.sq (D.bl (D.sq (D.ks (.v ia <| .v ld <| .h (st_top (H := H3) (t := 51) (e := 11) (cs := [AV.int IntKind.i64 0, AV.int IntKind.i64 0, AV.int IntKind.i64 0, AV.bool false, AV.bool false, AV.bool false, AV.bool false, AV.int IntKind.i64 0, AV.int IntKind.i64 0, AV.bool false, AV.int IntKind.i64 0]) (off := 0) (vs := [AV.int IntKind.i64 (Tk.id t), AV.int IntKind.i64 (Tk.e t), AV.int IntKind.i64 (Tk.p t), AV.bool (Tk.sp t), AV.bool (Tk.lv t), AV.bool (Tk.wt t), AV.bool (Tk.ac t), AV.int IntKind.i64 (Tk.rl t), AV.int IntKind.i64 (Tk.gt t), AV.bool (Tk.dn t), AV.int IntKind.i64 (Tk.ct t)]) (cs' := [AV.int IntKind.i64 (Tk.id t), AV.int IntKind.i64 (Tk.e t), AV.int IntKind.i64 (Tk.p t), AV.bool (Tk.sp t), AV.bool (Tk.lv t), AV.bool (Tk.wt t), AV.bool (Tk.ac t), AV.int IntKind.i64 (Tk.rl t), AV.int IntKind.i64 (Tk.gt t), AV.bool (Tk.dn t), AV.int IntKind.i64 (Tk.ct t)]) rfl rfl rfl) <| .e [(9, AV.int IntKind.i64 (↑(j + 1) : Int)), (10, AV.ptr (Loc.own (List.length H3)) 0)] (hnew H3 (AObj.row 51 11 [AV.int IntKind.i64 (Tk.id t), AV.int IntKind.i64 (Tk.e t), AV.int IntKind.i64 (Tk.p t), AV.bool (Tk.sp t), AV.bool (Tk.lv t), AV.bool (Tk.wt t), AV.bool (Tk.ac t), AV.int IntKind.i64 (Tk.rl t), AV.int IntKind.i64 (Tk.gt t), AV.bool (Tk.dn t), AV.int IntKind.i64 (Tk.ct t)]))) (by kernel_rfl) (D.sq (D.kcs [20] (.q (@hat_nn H3 (AObj.row 51 11 [AV.int IntKind.i64 (Tk.id t), AV.int IntKind.i64 (Tk.e t), AV.int IntKind.i64 (Tk.p t), AV.bool (Tk.sp t), AV.bool (Tk.lv t), AV.bool (Tk.wt t), AV.bool (Tk.ac t), AV.int IntKind.i64 (Tk.rl t), AV.int IntKind.i64 (Tk.gt t), AV.bool (Tk.dn t), AV.int IntKind.i64 (Tk.ct t)])) <| .f (@p3 (hnew H3 (AObj.row 51 11 [AV.int IntKind.i64 (Tk.id t), AV.int IntKind.i64 (Tk.e t), AV.int IntKind.i64 (Tk.p t), AV.bool (Tk.sp t), AV.bool (Tk.lv t), AV.bool (Tk.wt t), AV.bool (Tk.ac t), AV.int IntKind.i64 (Tk.rl t), AV.int IntKind.i64 (Tk.gt t), AV.bool (Tk.dn t), AV.int IntKind.i64 (Tk.ct t)]))) <| .a <| .y (show 0 < (↑(j + 1) : Int) by omega) <| .n (@wrap_to ((↑(j + 1) : Int) - 1) ((↑(j + 1) : Int) - 1) (by omega) (by omega) (by omega)) <| .v ia2 <| .v fa2 <| .v ld2 <| .a <| .q (@hat_nn H3 (AObj.row 51 11 [AV.int IntKind.i64 (Tk.id t), AV.int IntKind.i64 (Tk.e t), AV.int IntKind.i64 (Tk.p t), AV.bool (Tk.sp t), AV.bool (Tk.lv t), AV.bool (Tk.wt t), AV.bool (Tk.ac t), AV.int IntKind.i64 (Tk.rl t), AV.int IntKind.i64 (Tk.gt t), AV.bool (Tk.dn t), AV.int IntKind.i64 (Tk.ct t)])) <| .o (show ¬ (Tk.id t' = Tk.id t) by omega) <| .e [(44, AV.bool false)] (hnew H3 (AObj.row 51 11 [AV.int IntKind.i64 (Tk.id t), AV.int IntKind.i64 (Tk.e t), AV.int IntKind.i64 (Tk.p t), AV.bool (Tk.sp t), AV.bool (Tk.lv t), AV.bool (Tk.wt t), AV.bool (Tk.ac t), AV.int IntKind.i64 (Tk.rl t), AV.int IntKind.i64 (Tk.gt t), AV.bool (Tk.dn t), AV.int IntKind.i64 (Tk.ct t)]))) (by kernel_rfl) (D.cf (by kernel_rfl) (D.skip (Kb_n' (Ks_n' (D.kr (.n (@wrap_to ((↑(j + 1) : Int) + 1) ((↑(j + 1 + 1) : Int)) (by omega) (by omega) (by omega)) <| .e [(22, AV.int IntKind.i64 (↑(j + 1 + 1) : Int))] (hnew H3 (AObj.row 51 11 [AV.int IntKind.i64 (Tk.id t), AV.int IntKind.i64 (Tk.e t), AV.int IntKind.i64 (Tk.p t), AV.bool (Tk.sp t), AV.bool (Tk.lv t), AV.bool (Tk.wt t), AV.bool (Tk.ac t), AV.int IntKind.i64 (Tk.rl t), AV.int IntKind.i64 (Tk.gt t), AV.bool (Tk.dn t), AV.int IntKind.i64 (Tk.ct t)]))) (by kernel_rfl) ?_))))))))))))))))
    exact ⟨s.length - (j + 1 + 1), by omega, j + 1 + 1, (by first | exact rfl | exact True.intro), by omega, k4, by exact E_le (by decide) (E_size _ _) (by simp only [List.forall_mem_cons, List.not_mem_nil, false_implies, implies_true, and_true, List.cons_append, List.nil_append, Nat.zero_add, Nat.reduceAdd, E_get, Nat.reduceEqDiff, Nat.reduceLT, Nat.reduceLeDiff, if_true, if_false, and_self, true_and] <;> first | rfl | exact ⟨rfl, rfl⟩)⟩
  obtain rfl : i = s.length := by omega
  have e1 := (o2.keep fun b hb => hk3.2 b (o2.lt hb) id).sl (c := (kn G base w0).c) |>.len Try.underlying34
  refine D.sq (D.ks (.o (show ¬ ((↑(List.length s) : Int) < (↑(List.length s) : Int)) by omega) <| .e [(23, AV.bool false)] H3) (by kernel_rfl) (D.sq (D.cf (by kernel_rfl) (D.exit (Ks_e' (Kl_e' (Kb_e' (Ks_n' (D.sq (D.sq (D.ks (.o (show ¬ ((↑b : Int) ≤ (↑a : Int)) by omega) <| .e [(48, AV.bool false)] H3) (by kernel_rfl) (D.cf (by kernel_rfl) (D.skip (Ks_n' (D.sq (D.ks (.e [(11, AV.nilslice)] H3) (by kernel_rfl) (D.sq (D.sq (D.ks (.v e1 <| .e [(51, AV.int IntKind.i64 0), (50, AV.int IntKind.i64 (↑(List.length s) : Int)), (49, u)] H3) (by kernel_rfl) (D.bl ?_))))))))))))))))))))
  have k5 : Keep H H3 (fun _ => False) := k3.trans hk3
  have o5 := o2.keep fun b hb => hk3.2 b (o2.lt hb) id
  clear e1 e0 hk3 k3 o2 hin hi
  refine D.lp (fun m env H' => ∃ (i : Nat) (w : AV), m = s.length - i ∧ i ≤ s.length ∧ OwnF H' wSh w 42 (shs (b - a) (s.take i)) ∧ (∀ b, w.at? = some b → H3.length ≤ b) ∧ Keep H3 H' (fun _ => False) ∧ ELe (E 79 [(51, .int .i64 i), (50, .int .i64 s.length), (49, u), (11, w), (7, .int .i64 0), (6, .nilslice), (2, .int .i64 b), (1, .int .i64 a)]) env) s.length
    ⟨0, .nilslice, by omega, by omega, by rw [List.take_zero]; exact OwnF.nil, by simp [AV.at?], Keep.refl _, by exact E_le (by decide) (E_size _ _) (by simp only [List.forall_mem_cons, List.not_mem_nil, false_implies, implies_true, and_true, List.cons_append, List.nil_append, Nat.zero_add, Nat.reduceAdd, E_get, Nat.reduceEqDiff, Nat.reduceLT, Nat.reduceLeDiff, if_true, if_false, and_self, true_and] <;> first | rfl | exact ⟨rfl, rfl⟩)⟩ ?_
  rintro m env H4 ⟨i, w, rfl, hi, ow, hw, hk, he⟩
  refine D.forget he ?_
  clear he
  by_cases hin : i < s.length
  rotate_left
  · obtain rfl : i = s.length := by omega
    rw [List.take_length] at ow
    refine D.sq (D.ks (.o (show ¬ ((↑(List.length s) : Int) < (↑(List.length s) : Int)) by omega) <| .e [(52, AV.bool false)] H4) (by kernel_rfl) (D.sq (D.cf (by kernel_rfl) (D.exit (Ks_e' (Kl_e' (Kb_e' (Ks_n' (D.sq (D.ks (.e [(7, AV.int IntKind.i64 0), (6, w)] H4) (by kernel_rfl) (D.ret (Kf_by (AV.tuple [w, AV.int IntKind.i64 0]) (.r (AV.tuple [w, AV.int IntKind.i64 0])) (by kernel_rfl) ?_))))))))))))
    exact ⟨w, rfl, ow, k5.trans hk, fun b hb => Nat.le_trans k5.1 (hw b hb)⟩
  have s3 := (o5.keep fun b hb => hk.2 b (o5.lt hb) id).sl (c := (kn G base w0).c)
  have ia := s3.ia (t := 34) Try.underlying34 sz51 hin .i64
  have ld : aload (kn G base w0).c H4 51 (ptrF wT u i) = some (.agg (encT s[i])) := s3.ldA (c := (kn G base w0).c) hin ag51 sz51
  have ht := shs_take (n := b - a) hin
  have hm : tmay s[i] := (hg i hin).1
  have hwl : (shs (b - a) (s.take i)).length ≤ 1000 := Nat.le_trans shs_len (by rw [List.length_take]; omega)
  clear hg
  generalize s[i] = t at *
  by_cases hac : t.ac = true
  rotate_left
  · rw [if_neg hac] at ht
    have hac : t.ac = false := by simpa using hac
    simp only [encT, hac] at ld
    refine D.sq (D.ks (.y (show (↑i : Int) < (↑(List.length s) : Int) by omega) <| .e [(52, AV.bool true)] H4) (by kernel_rfl) (D.sq (D.ct (by kernel_rfl) (D.skip (Ks_n' (D.sq (D.bl (D.sq (D.ks (.v ia <| .v ld <| .h (st_top (H := H4) (t := 51) (e := 11) (cs := [AV.int IntKind.i64 0, AV.int IntKind.i64 0, AV.int IntKind.i64 0, AV.bool false, AV.bool false, AV.bool false, AV.bool false, AV.int IntKind.i64 0, AV.int IntKind.i64 0, AV.bool false, AV.int IntKind.i64 0]) (off := 0) (vs := [AV.int IntKind.i64 (Tk.id t), AV.int IntKind.i64 (Tk.e t), AV.int IntKind.i64 (Tk.p t), AV.bool (Tk.sp t), AV.bool (Tk.lv t), AV.bool (Tk.wt t), AV.bool false, AV.int IntKind.i64 (Tk.rl t), AV.int IntKind.i64 (Tk.gt t), AV.bool (Tk.dn t), AV.int IntKind.i64 (Tk.ct t)]) (cs' := [AV.int IntKind.i64 (Tk.id t), AV.int IntKind.i64 (Tk.e t), AV.int IntKind.i64 (Tk.p t), AV.bool (Tk.sp t), AV.bool (Tk.lv t), AV.bool (Tk.wt t), AV.bool false, AV.int IntKind.i64 (Tk.rl t), AV.int IntKind.i64 (Tk.gt t), AV.bool (Tk.dn t), AV.int IntKind.i64 (Tk.ct t)]) rfl rfl rfl) <| .e [(13, AV.ptr (Loc.own (List.length H4)) 0)] (hnew H4 (AObj.row 51 11 [AV.int IntKind.i64 (Tk.id t), AV.int IntKind.i64 (Tk.e t), AV.int IntKind.i64 (Tk.p t), AV.bool (Tk.sp t), AV.bool (Tk.lv t), AV.bool (Tk.wt t), AV.bool false, AV.int IntKind.i64 (Tk.rl t), AV.int IntKind.i64 (Tk.gt t), AV.bool (Tk.dn t), AV.int IntKind.i64 (Tk.ct t)]))) (by kernel_rfl) (D.sq (D.sq (D.ks (.a <| .q (@hat_nn H4 (AObj.row 51 11 [AV.int IntKind.i64 (Tk.id t), AV.int IntKind.i64 (Tk.e t), AV.int IntKind.i64 (Tk.p t), AV.bool (Tk.sp t), AV.bool (Tk.lv t), AV.bool (Tk.wt t), AV.bool false, AV.int IntKind.i64 (Tk.rl t), AV.int IntKind.i64 (Tk.gt t), AV.bool (Tk.dn t), AV.int IntKind.i64 (Tk.ct t)])) <| .a <| .e [(57, AV.bool true)] (hnew H4 (AObj.row 51 11 [AV.int IntKind.i64 (Tk.id t), AV.int IntKind.i64 (Tk.e t), AV.int IntKind.i64 (Tk.p t), AV.bool (Tk.sp t), AV.bool (Tk.lv t), AV.bool (Tk.wt t), AV.bool false, AV.int IntKind.i64 (Tk.rl t), AV.int IntKind.i64 (Tk.gt t), AV.bool (Tk.dn t), AV.int IntKind.i64 (Tk.ct t)]))) (by kernel_rfl) (D.ct (by kernel_rfl) (D.exit (Ks_e' (Kb_e' (Ks_n' (D.kr (.n (@wrap_to ((↑i : Int) + 1) ((↑(i + 1) : Int)) (by omega) (by omega) (by omega)) <| .e [(51, AV.int IntKind.i64 (↑(i + 1) : Int))] (hnew H4 (AObj.row 51 11 [AV.int IntKind.i64 (Tk.id t), AV.int IntKind.i64 (Tk.e t), AV.int IntKind.i64 (Tk.p t), AV.bool (Tk.sp t), AV.bool (Tk.lv t), AV.bool (Tk.wt t), AV.bool false, AV.int IntKind.i64 (Tk.rl t), AV.int IntKind.i64 (Tk.gt t), AV.bool (Tk.dn t), AV.int IntKind.i64 (Tk.ct t)]))) (by kernel_rfl) ?_))))))))))))))))))
    refine ⟨s.length - (i + 1), by omega, i + 1, w, (by first | exact rfl | exact True.intro), by omega, ?_, hw, hk.trans (Keep.new _ _), by exact E_le (by decide) (E_size _ _) (by simp only [List.forall_mem_cons, List.not_mem_nil, false_implies, implies_true, and_true, List.cons_append, List.nil_append, Nat.zero_add, Nat.reduceAdd, E_get, Nat.reduceEqDiff, Nat.reduceLT, Nat.reduceLeDiff, if_true, if_false, and_self, true_and] <;> first | rfl | exact ⟨rfl, rfl⟩)⟩
    rw [ht]
    exact ow.keep fun b hb => (show Keep H4 _ (fun _ => False) from Keep.new _ _).2 b (ow.lt hb) id
  rw [if_pos hac] at ht
  obtain ⟨m1, m2, m3⟩ := hm
  obtain ⟨e, hE⟩ : ∃ e : Nat, t.e = e := ⟨t.e.toNat, by omega⟩
  obtain ⟨p, hP⟩ : ∃ p : Nat, t.p = p := ⟨t.p.toNat, by omega⟩
  have p3 := fun H => length_p (G := G) (base := base) (w0 := w0) (H := H) t e p hE hP (by omega) (by omega) (by omega) a b (by omega) (by omega)
  have hsh : encS (shOf (b - a) t) = [.int .i64 t.id, .int .i64 (lowN (b - a) e p).1, .int .i64 (lowN (b - a) e p).2, .bool t.dn] := by
    simp only [encS, shOf, hE, hP, Int.toNat_natCast]
  replace p3 : ∀ H, Pt (kn G base w0) 21 [.agg (encT t), .int .i64 a, .int .i64 b] H (.tuple [rt (lowN (b - a) e p).1 (lowN (b - a) e p).2, .int .i64 0]) H := p3
  have kA : ∀ n d : Nat, Keep H4 (hnew (hnew (hnew H4 (.row 51 11 (encT t))) (.row 37 2 [.int .i64 n, .int .i64 d])) (.row 42 4 (encS (shOf (b - a) t)))) (fun _ => False) := fun n d => ((Keep.new _ _).trans (Keep.new _ _)).trans (Keep.new _ _)
  generalize lowN (b - a) e p = q at *
  obtain ⟨N, M⟩ := q
  obtain ⟨v', K3, f2, o3, kB, a3, l3⟩ := (ow.keep fun b hb => (kA N M).2 b (ow.lt hb) id).app (c := (kn G base w0).c) (t := 30) Try.underlying30 in42 zc42 rfl (by decide) (SlF.single (H := hnew (hnew H4 (.row 51 11 (encT t))) (.row 37 2 [.int .i64 N, .int .i64 M])) (w := wSh) (x := shOf (b - a) t) (e := 42)) (by simp) (by simp; omega)
  rw [hsh] at f2
  replace f2 : aappend (kn G base w0).c (hnew (hnew (hnew H4 (.row 51 11 (encT t))) (.row 37 2 [.int .i64 N, .int .i64 M])) (.row 42 4 [.int .i64 t.id, .int .i64 N, .int .i64 M, .bool t.dn])) 30 w (.slice (.own (hnew (hnew H4 (.row 51 11 (encT t))) (.row 37 2 [.int .i64 N, .int .i64 M])).length) 4 0 1) = some (v', K3) := f2
  have k6 : Keep H3 K3 (fun _ => False) := (hk.trans (kA N M)).trans' kB fun j hj e => by have := hw j e; omega
  have w6 : ∀ b, v'.at? = some b → H3.length ≤ b := by
    intro b hb
    rw [a3] at hb
    have hb := Option.some.inj hb
    have h1 := hk.1
    have h2 := (kA N M).1
    omega
  rw [← ht] at o3
  simp only [encT, hac] at ld p3 f2
  clear kA kB a3 l3 ow hsh
  refine D.sq (D.ks (.y (show (↑i : Int) < (↑(List.length s) : Int) by omega) <| .e [(52, AV.bool true)] H4) (by kernel_rfl) (D.sq (D.ct (by kernel_rfl) (D.skip (Ks_n' (D.sq (D.bl (D.sq (D.ks (.v ia <| .v ld <| .h (st_top (H := H4) (t := 51) (e := 11) (cs := [AV.int IntKind.i64 0, AV.int IntKind.i64 0, AV.int IntKind.i64 0, AV.bool false, AV.bool false, AV.bool false, AV.bool false, AV.int IntKind.i64 0, AV.int IntKind.i64 0, AV.bool false, AV.int IntKind.i64 0]) (off := 0) (vs := [AV.int IntKind.i64 (Tk.id t), AV.int IntKind.i64 (Tk.e t), AV.int IntKind.i64 (Tk.p t), AV.bool (Tk.sp t), AV.bool (Tk.lv t), AV.bool (Tk.wt t), AV.bool true, AV.int IntKind.i64 (Tk.rl t), AV.int IntKind.i64 (Tk.gt t), AV.bool (Tk.dn t), AV.int IntKind.i64 (Tk.ct t)]) (cs' := [AV.int IntKind.i64 (Tk.id t), AV.int IntKind.i64 (Tk.e t), AV.int IntKind.i64 (Tk.p t), AV.bool (Tk.sp t), AV.bool (Tk.lv t), AV.bool (Tk.wt t), AV.bool true, AV.int IntKind.i64 (Tk.rl t), AV.int IntKind.i64 (Tk.gt t), AV.bool (Tk.dn t), AV.int IntKind.i64 (Tk.ct t)]) rfl rfl rfl) <| .e [(13, AV.ptr (Loc.own (List.length H4)) 0)] (hnew H4 (AObj.row 51 11 [AV.int IntKind.i64 (Tk.id t), AV.int IntKind.i64 (Tk.e t), AV.int IntKind.i64 (Tk.p t), AV.bool (Tk.sp t), AV.bool (Tk.lv t), AV.bool (Tk.wt t), AV.bool true, AV.int IntKind.i64 (Tk.rl t), AV.int IntKind.i64 (Tk.gt t), AV.bool (Tk.dn t), AV.int IntKind.i64 (Tk.ct t)]))) (by kernel_rfl) (D.sq (D.sq (D.ks (.a <| .q (@hat_nn H4 (AObj.row 51 11 [AV.int IntKind.i64 (Tk.id t), AV.int IntKind.i64 (Tk.e t), AV.int IntKind.i64 (Tk.p t), AV.bool (Tk.sp t), AV.bool (Tk.lv t), AV.bool (Tk.wt t), AV.bool true, AV.int IntKind.i64 (Tk.rl t), AV.int IntKind.i64 (Tk.gt t), AV.bool (Tk.dn t), AV.int IntKind.i64 (Tk.ct t)])) <| .a <| .e [(57, AV.bool false)] (hnew H4 (AObj.row 51 11 [AV.int IntKind.i64 (Tk.id t), AV.int IntKind.i64 (Tk.e t), AV.int IntKind.i64 (Tk.p t), AV.bool (Tk.sp t), AV.bool (Tk.lv t), AV.bool (Tk.wt t), AV.bool true, AV.int IntKind.i64 (Tk.rl t), AV.int IntKind.i64 (Tk.gt t), AV.bool (Tk.dn t), AV.int IntKind.i64 (Tk.ct t)]))) (by kernel_rfl) (D.cf (by kernel_rfl) (D.skip (Ks_n' (D.sq (D.ks (.q (@hat_nn H4 (AObj.row 51 11 [AV.int IntKind.i64 (Tk.id t), AV.int IntKind.i64 (Tk.e t), AV.int IntKind.i64 (Tk.p t), AV.bool (Tk.sp t), AV.bool (Tk.lv t), AV.bool (Tk.wt t), AV.bool true, AV.int IntKind.i64 (Tk.rl t), AV.int IntKind.i64 (Tk.gt t), AV.bool (Tk.dn t), AV.int IntKind.i64 (Tk.ct t)])) <| .c (@p3 (hnew H4 (AObj.row 51 11 [AV.int IntKind.i64 (Tk.id t), AV.int IntKind.i64 (Tk.e t), AV.int IntKind.i64 (Tk.p t), AV.bool (Tk.sp t), AV.bool (Tk.lv t), AV.bool (Tk.wt t), AV.bool true, AV.int IntKind.i64 (Tk.rl t), AV.int IntKind.i64 (Tk.gt t), AV.bool (Tk.dn t), AV.int IntKind.i64 (Tk.ct t)]))) <| .h (st_top (H := hnew H4 (AObj.row 51 11 [AV.int IntKind.i64 (Tk.id t), AV.int IntKind.i64 (Tk.e t), AV.int IntKind.i64 (Tk.p t), AV.bool (Tk.sp t), AV.bool (Tk.lv t), AV.bool (Tk.wt t), AV.bool true, AV.int IntKind.i64 (Tk.rl t), AV.int IntKind.i64 (Tk.gt t), AV.bool (Tk.dn t), AV.int IntKind.i64 (Tk.ct t)])) (t := 37) (e := 2) (cs := [AV.int IntKind.i64 0, AV.int IntKind.i64 0]) (off := 0) (vs := [AV.int IntKind.i64 (↑N : Int), AV.int IntKind.i64 (↑M : Int)]) (cs' := [AV.int IntKind.i64 (↑N : Int), AV.int IntKind.i64 (↑M : Int)]) rfl rfl rfl) <| .e [(15, AV.int IntKind.i64 0), (14, AV.ptr (Loc.own (List.length (hnew H4 (AObj.row 51 11 [AV.int IntKind.i64 (Tk.id t), AV.int IntKind.i64 (Tk.e t), AV.int IntKind.i64 (Tk.p t), AV.bool (Tk.sp t), AV.bool (Tk.lv t), AV.bool (Tk.wt t), AV.bool true, AV.int IntKind.i64 (Tk.rl t), AV.int IntKind.i64 (Tk.gt t), AV.bool (Tk.dn t), AV.int IntKind.i64 (Tk.ct t)])))) 0)] (hnew (hnew H4 (AObj.row 51 11 [AV.int IntKind.i64 (Tk.id t), AV.int IntKind.i64 (Tk.e t), AV.int IntKind.i64 (Tk.p t), AV.bool (Tk.sp t), AV.bool (Tk.lv t), AV.bool (Tk.wt t), AV.bool true, AV.int IntKind.i64 (Tk.rl t), AV.int IntKind.i64 (Tk.gt t), AV.bool (Tk.dn t), AV.int IntKind.i64 (Tk.ct t)])) (AObj.row 37 2 [AV.int IntKind.i64 (↑N : Int), AV.int IntKind.i64 (↑M : Int)]))) (by kernel_rfl) (D.sq (D.sq (D.ks (.a <| .e [(66, AV.bool false)] (hnew (hnew H4 (AObj.row 51 11 [AV.int IntKind.i64 (Tk.id t), AV.int IntKind.i64 (Tk.e t), AV.int IntKind.i64 (Tk.p t), AV.bool (Tk.sp t), AV.bool (Tk.lv t), AV.bool (Tk.wt t), AV.bool true, AV.int IntKind.i64 (Tk.rl t), AV.int IntKind.i64 (Tk.gt t), AV.bool (Tk.dn t), AV.int IntKind.i64 (Tk.ct t)])) (AObj.row 37 2 [AV.int IntKind.i64 (↑N : Int), AV.int IntKind.i64 (↑M : Int)]))) (by kernel_rfl) (D.cf (by kernel_rfl) (D.skip (Ks_n' (D.kr (.a <| .q (hat_up (@hat_nn H4 (AObj.row 51 11 [AV.int IntKind.i64 (Tk.id t), AV.int IntKind.i64 (Tk.e t), AV.int IntKind.i64 (Tk.p t), AV.bool (Tk.sp t), AV.bool (Tk.lv t), AV.bool (Tk.wt t), AV.bool true, AV.int IntKind.i64 (Tk.rl t), AV.int IntKind.i64 (Tk.gt t), AV.bool (Tk.dn t), AV.int IntKind.i64 (Tk.ct t)])) (AObj.row 37 2 [AV.int IntKind.i64 (↑N : Int), AV.int IntKind.i64 (↑M : Int)])) <| .q (@hat_nn (hnew H4 (AObj.row 51 11 [AV.int IntKind.i64 (Tk.id t), AV.int IntKind.i64 (Tk.e t), AV.int IntKind.i64 (Tk.p t), AV.bool (Tk.sp t), AV.bool (Tk.lv t), AV.bool (Tk.wt t), AV.bool true, AV.int IntKind.i64 (Tk.rl t), AV.int IntKind.i64 (Tk.gt t), AV.bool (Tk.dn t), AV.int IntKind.i64 (Tk.ct t)])) (AObj.row 37 2 [AV.int IntKind.i64 (↑N : Int), AV.int IntKind.i64 (↑M : Int)])) <| .a <| .q (hat_up (@hat_nn H4 (AObj.row 51 11 [AV.int IntKind.i64 (Tk.id t), AV.int IntKind.i64 (Tk.e t), AV.int IntKind.i64 (Tk.p t), AV.bool (Tk.sp t), AV.bool (Tk.lv t), AV.bool (Tk.wt t), AV.bool true, AV.int IntKind.i64 (Tk.rl t), AV.int IntKind.i64 (Tk.gt t), AV.bool (Tk.dn t), AV.int IntKind.i64 (Tk.ct t)])) (AObj.row 37 2 [AV.int IntKind.i64 (↑N : Int), AV.int IntKind.i64 (↑M : Int)])) <| .vh f2 <| .e [(11, v')] K3) (by kernel_rfl) (Kb_n' (Ks_n' (D.kr (.n (@wrap_to ((↑i : Int) + 1) ((↑(i + 1) : Int)) (by omega) (by omega) (by omega)) <| .e [(51, AV.int IntKind.i64 (↑(i + 1) : Int))] K3) (by kernel_rfl) ?_)))))))))))))))))))))))))))
  exact ⟨s.length - (i + 1), by omega, i + 1, v', (by first | exact rfl | exact True.intro), by omega, o3, w6, k6, by exact E_le (by decide) (E_size _ _) (by simp only [List.forall_mem_cons, List.not_mem_nil, false_implies, implies_true, and_true, List.cons_append, List.nil_append, Nat.zero_add, Nat.reduceAdd, E_get, Nat.reduceEqDiff, Nat.reduceLT, Nat.reduceLeDiff, if_true, if_false, and_self, true_and] <;> first | rfl | exact ⟨rfl, rfl⟩)⟩
end Go.Proofs.Ytcbholgcbjddjaa.sy

/- law17's awake (own work). -/
namespace Go.Proofs.Ytcbholgcbjddjaa.sy
open Go.AM Go.AM.Jb
set_option linter.unusedSimpArgs false
set_option linter.unusedVariables false
variable {G : List Nat → Option (List AV)} {base : Nat} {w0 : World}
set_option maxRecDepth 100000
set_option maxHeartbeats 8000000
variable {H : AHeap}
def tkA : Tk := ⟨4, 1, 3, false, false, false, true, 0, 0, false, 0⟩
theorem awake_p {srt : List Tk → List Tk} (hS : SortSpec (kn G base w0) srt) : Pt (kn G base w0) 6 [] H (.bool true) H := by
  refine Pt.pure ?_ rfl
  refine Pt.fn (n := 44) (rs := [.tmp 0]) Try.func6 (b := _) rfl rfl rfl (by decide) ?_
  simp only [numbered]
  have k0 : Keep H (hnew H (.row 26 11 (encT tkA))) (fun _ => False) := Keep.new _ _
  obtain ⟨r, K1, p1, o1, k1, a1⟩ := rows_ok (G := G) (base := base) (w0 := w0) (l := [tkA]) (SlF.single (H := H) (w := wT) (x := tkA) (e := 26)) (by intro b hb; have hb := Option.some.inj hb; rw [len_new]; omega) (by simp)
  have hs : srt [tkA] = [tkA] := List.perm_singleton.1 (hS.1 [tkA]).2.1
  obtain ⟨r2, K2, p2, u, rfl, o2, k2, a2⟩ := all_ok (G := G) (base := base) (w0 := w0) hS o1 (by simp) (by simp) 1 3 (by omega) (by omega) (by
    rw [hs]
    intro i hi
    obtain rfl : i = 0 := by simp at hi; omega
    exact ⟨by show tmay tkA; decide, fun h => absurd h (by omega)⟩)
  rw [hs] at o2
  replace o2 : OwnF K2 wSh u 42 [⟨4, 2, 3, false⟩] := o2
  have p3 := sum_p (G := G) (base := base) (w0 := w0) (o2.sl (c := (kn G base w0).c)) (fun b hb => o2.lt hb) (by simp) (by
    refine ⟨?_, ?_⟩
    · intro s hs
      obtain rfl := List.mem_singleton.1 hs
      decide
    · intro i
      cases i with
      | zero => decide
      | succ i => rw [List.take_of_length_le (by simp)]; decide)
  replace p3 : Pt (kn G base w0) 10 [u] K2 (.tuple [rt 2 3, .int .i64 0]) K2 := p3
  have k3 : Keep H K2 (fun _ => False) := (k0.trans k1).trans k2
  replace p1 : Pt (kn G base w0) 9 [.slice (.own H.length) 11 0 1] (hnew H (.row 26 11 (encT tkA))) r K1 := p1
  have ia := (o2.sl (c := (kn G base w0).c)).ia (t := 30) Try.underlying30 sz42 (i := 0) (by simp) .i64
  rcases o2 with ⟨_, h⟩ | ⟨b, rfl, hb⟩
  · cases h
  replace hb : hat K2 b = some (.row 42 4 [.int .i64 4, .int .i64 2, .int .i64 3, .bool false]) := hb
  replace p3 : Pt (kn G base w0) 10 [.slice (.own b) 4 0 1] K2 (.tuple [rt 2 3, .int .i64 0]) K2 := p3
  replace ia : aindexAddr (kn G base w0).c 30 (.slice (.own b) 4 0 1) (.int .i64 0) = some (.ptr (.own b) 0) := ia
  clear k0 k1 k2 o1 a1 a2 hs
  simp only [encT, tkA] at p1
  have hb2 : hat (hnew K2 (.row 37 2 [.int .i64 2, .int .i64 3])) b = some (.row 42 4 [.int .i64 4, .int .i64 2, .int .i64 3, .bool false]) := hat_up hb _
  refine D.sq (D.ks (.e [(0, AV.bool false)] H) (by kernel_rfl) (D.sq (D.ks (.c p1 <| .c p2 <| .e [(2, AV.int IntKind.i64 0), (1, AV.slice (Loc.own b) 4 0 1)] K2) (by kernel_rfl) (D.sq (D.ks (.c p3 <| .h (st_top (H := K2) (t := 37) (e := 2) (cs := [AV.int IntKind.i64 0, AV.int IntKind.i64 0]) (off := 0) (vs := [AV.int IntKind.i64 2, AV.int IntKind.i64 3]) (cs' := [AV.int IntKind.i64 2, AV.int IntKind.i64 3]) rfl rfl rfl) <| .e [(4, AV.int IntKind.i64 0), (3, AV.ptr (Loc.own (List.length K2)) 0)] (hnew K2 (AObj.row 37 2 [AV.int IntKind.i64 2, AV.int IntKind.i64 3]))) (by kernel_rfl) (D.sq (D.ks (.a <| .a <| .a <| .a <| .v ia <| .a <| .q hb2 <| .a <| .q (@hat_nn K2 (AObj.row 37 2 [AV.int IntKind.i64 2, AV.int IntKind.i64 3])) <| .v ia <| .a <| .q hb2 <| .a <| .e [(0, AV.bool true)] (hnew K2 (AObj.row 37 2 [AV.int IntKind.i64 2, AV.int IntKind.i64 3]))) (by kernel_rfl) (D.ret (Kf_by (AV.bool true) (.r (AV.bool true)) (by kernel_rfl) ?_)))))))))
  exact ⟨rfl, k3.trans (Keep.new _ _)⟩
end Go.Proofs.Ytcbholgcbjddjaa.sy

/- sums of fractions in lowest terms (own work; plain law). -/
namespace Go.Proofs.Ytcbholgcbjddjaa.sy
open Go.AM Go.AM.Jb
set_option linter.unusedSimpArgs false
set_option linter.unusedVariables false
theorem qadd_eq {q : Nat × Nat} {s : Sh} {L S : Nat} (h1 : 0 < q.2) (h2 : 0 < s.d) (hd : s.d ∣ L) (h : q.1 * L = q.2 * S) : (qadd q s).1 * L = (qadd q s).2 * (S + s.n * (L / s.d)) := by
  obtain ⟨m, rfl⟩ := hd
  have hm : s.d * m / s.d = m := Nat.mul_div_cancel_left _ h2
  rw [hm]
  have hp : 0 < q.2 * s.d := Nat.mul_pos h1 h2
  have hg : 0 < Nat.gcd (q.1 * s.d + s.n * q.2) (q.2 * s.d) := Nat.gcd_pos_of_pos_right _ hp
  obtain ⟨x, hx⟩ := Nat.gcd_dvd_left (q.1 * s.d + s.n * q.2) (q.2 * s.d)
  obtain ⟨y, hy⟩ := Nat.gcd_dvd_right (q.1 * s.d + s.n * q.2) (q.2 * s.d)
  show (q.1 * s.d + s.n * q.2) / Nat.gcd (q.1 * s.d + s.n * q.2) (q.2 * s.d) * (s.d * m) = (q.2 * s.d) / Nat.gcd (q.1 * s.d + s.n * q.2) (q.2 * s.d) * (S + s.n * m)
  generalize Nat.gcd (q.1 * s.d + s.n * q.2) (q.2 * s.d) = g at *
  rw [hx, hy, Nat.mul_div_cancel_left _ hg, Nat.mul_div_cancel_left _ hg]
  apply Nat.eq_of_mul_eq_mul_left hg
  rw [← Nat.mul_assoc g x, ← Nat.mul_assoc g y, ← hx, ← hy]
  have e1 : (q.1 * s.d + s.n * q.2) * (s.d * m) = q.1 * (s.d * m) * s.d + s.n * q.2 * (s.d * m) := by rw [Nat.add_mul]; congr 1; rw [Nat.mul_right_comm]
  rw [e1, h, Nat.mul_add]
  congr 1
  · rw [Nat.mul_right_comm]
  · simp only [Nat.mul_comm, Nat.mul_left_comm, Nat.mul_assoc]
def nS (L : Nat) (l : List Sh) : Nat := l.foldl (fun n s => n + s.n * (L / s.d)) 0
theorem fold_eq {L : Nat} : ∀ {l : List Sh} {q : Nat × Nat} {S : Nat}, 0 < q.2 → (∀ s ∈ l, 0 < s.d ∧ s.d ∣ L) → q.1 * L = q.2 * S → 0 < (l.foldl qadd q).2 ∧ (l.foldl qadd q).1 * L = (l.foldl qadd q).2 * (l.foldl (fun n s => n + s.n * (L / s.d)) S)
  | [], q, S, h1, _, h => ⟨h1, h⟩
  | s :: l, q, S, h1, hs, h => by
    have hs0 := hs s (List.mem_cons_self ..)
    exact fold_eq (l := l) (qadd_low h1 hs0.1).1 (fun t ht => hs t (List.mem_cons_of_mem _ ht)) (qadd_eq h1 hs0.1 hs0.2 h)
theorem qsum_eq {L : Nat} {l : List Sh} (hs : ∀ s ∈ l, 0 < s.d ∧ s.d ∣ L) : (qsum l).1 * L = (qsum l).2 * nS L l :=
  (fold_eq (q := (0, 1)) (S := 0) Nat.one_pos hs (by simp)).2
/-- a sum's denominator goes into every common multiple -/
theorem qsum_dvd {L : Nat} {l : List Sh} (hs : ∀ s ∈ l, 0 < s.d ∧ s.d ∣ L) : (qsum l).2 ∣ L := by
  have h := qsum_eq hs
  have hl := (qsum_low (l := l) (fun s h => (hs s h).1) l.length).2
  rw [List.take_length] at hl
  have h2 : (qsum l).2 ∣ (qsum l).1 * L := ⟨_, h⟩
  exact Nat.Coprime.dvd_of_dvd_mul_left (Nat.Coprime.symm hl) h2
end Go.Proofs.Ytcbholgcbjddjaa.sy

/- sums of shares against sums of tasks (own work; plain law). -/
namespace Go.Proofs.Ytcbholgcbjddjaa.sy
open Go.AM Go.AM.Jb
set_option linter.unusedSimpArgs false
set_option linter.unusedVariables false
theorem qsum_le {L K : Nat} {l : List Sh} (hL : 0 < L) (hs : ∀ s ∈ l, 0 < s.d ∧ s.d ∣ L) (h : nS L l ≤ K * L) : (qsum l).1 ≤ (qsum l).2 * K := by
  have h1 := qsum_eq hs
  have h2 := Nat.mul_le_mul_left (qsum l).2 h
  rw [← h1, ← Nat.mul_assoc] at h2
  exact Nat.le_of_mul_le_mul_right h2 hL
theorem foldl_add {α : Type} (f : α → Nat) : ∀ (l : List α) (n : Nat), l.foldl (fun n s => n + f s) n = n + l.foldl (fun n s => n + f s) 0
  | [], n => rfl
  | a :: l, n => by
    show l.foldl _ (n + f a) = n + l.foldl _ (0 + f a)
    rw [foldl_add f l (n + f a), foldl_add f l (0 + f a)]
    omega
theorem nS_take {L : Nat} {l : List Sh} (i : Nat) : nS L (l.take i) ≤ nS L l := by
  have h : nS L l = nS L (l.take i ++ l.drop i) := by rw [List.take_append_drop]
  rw [h, nS, nS, List.foldl_append, foldl_add (fun s : Sh => s.n * (L / s.d)) (l.drop i)]
  exact Nat.le_add_right _ _
/-- a share's part of a common multiple -/
theorem lowN_part {w e p L : Nat} (he : 1 ≤ e) (hp : 0 < p) (hL : p ∣ L) : (lowN w e p).1 * (L / (lowN w e p).2) = w * (e * (L / p)) ∧ 0 < (lowN w e p).2 ∧ (lowN w e p).2 ∣ p ∧ Nat.gcd (lowN w e p).1 (lowN w e p).2 = 1 := by
  obtain ⟨m, rfl⟩ := hL
  have hg : 0 < Nat.gcd e p := Nat.gcd_pos_of_pos_right _ hp
  obtain ⟨e', he'⟩ := Nat.gcd_dvd_left e p
  obtain ⟨p', hp'⟩ := Nat.gcd_dvd_right e p
  unfold lowN
  simp only []
  generalize Nat.gcd e p = g at *
  have d1 : e / g = e' := by rw [he', Nat.mul_div_cancel_left _ hg]
  have d2 : p / g = p' := by rw [hp', Nat.mul_div_cancel_left _ hg]
  rw [d1, d2]
  have hp0 : 0 < p' := by rcases Nat.eq_zero_or_pos p' with h | h; · subst h; omega
                          · exact h
  have hh : 0 < Nat.gcd (w * e') p' := Nat.gcd_pos_of_pos_right _ hp0
  obtain ⟨a, ha⟩ := Nat.gcd_dvd_left (w * e') p'
  obtain ⟨d, hd⟩ := Nat.gcd_dvd_right (w * e') p'
  have hco : Nat.gcd (w * e' / Nat.gcd (w * e') p') (p' / Nat.gcd (w * e') p') = 1 := by
    rw [Nat.gcd_div (Nat.gcd_dvd_left _ _) (Nat.gcd_dvd_right _ _), Nat.div_self hh]
  generalize Nat.gcd (w * e') p' = h at *
  have d3 : w * e' / h = a := by rw [ha, Nat.mul_div_cancel_left _ hh]
  have d4 : p' / h = d := by rw [hd, Nat.mul_div_cancel_left _ hh]
  rw [d3, d4] at hco
  rw [d3, d4]
  have hd0 : 0 < d := by rcases Nat.eq_zero_or_pos d with h | h; · subst h; omega
                         · exact h
  have d5 : p * m / d = g * h * m := by
    rw [hp', hd, show g * (h * d) * m = d * (g * h * m) by simp only [Nat.mul_comm, Nat.mul_left_comm, Nat.mul_assoc], Nat.mul_div_cancel_left _ hd0]
  have d6 : p * m / p = m := Nat.mul_div_cancel_left _ hp
  refine ⟨?_, hd0, ⟨g * h, by rw [hp', hd]; simp only [Nat.mul_comm, Nat.mul_left_comm, Nat.mul_assoc]⟩, hco⟩
  rw [d5, d6, show a * (g * h * m) = (h * a) * (g * m) by simp only [Nat.mul_comm, Nat.mul_left_comm, Nat.mul_assoc], ← ha, he']
  simp only [Nat.mul_comm, Nat.mul_left_comm, Nat.mul_assoc]
end Go.Proofs.Ytcbholgcbjddjaa.sy

/- what Can grants (own work; plain law). -/
namespace Go.Proofs.Ytcbholgcbjddjaa.sy
open Go.AM Go.AM.Jb
set_option linter.unusedSimpArgs false
set_option linter.unusedVariables false
theorem lcmF_dvd : ∀ {l : List R3} {n : Nat}, lcmF n l ≤ 16777216 → n ∣ lcmF n l ∧ ∀ t ∈ l, t.p ∣ lcmF n l
  | [], n, _ => ⟨Nat.dvd_refl _, fun _ h => absurd h (by simp)⟩
  | t :: l, n, h => by
    simp only [lcmF] at h ⊢
    split at h
    · omega
    rename_i hc
    rw [if_neg hc]
    obtain ⟨h1, h2⟩ := lcmF_dvd h
    have h3 : t.p ∣ n / Nat.gcd n t.p * t.p := Nat.dvd_mul_left _ _
    have h4 : n ∣ n / Nat.gcd n t.p * t.p := by
      obtain ⟨q, hq⟩ := Nat.gcd_dvd_right n t.p
      have h5 : n / Nat.gcd n t.p * t.p = n / Nat.gcd n t.p * Nat.gcd n t.p * q := by rw [Nat.mul_assoc, ← hq]
      rw [h5, Nat.div_mul_cancel (Nat.gcd_dvd_left _ _)]
      exact Nat.dvd_mul_right _ _
    refine ⟨Nat.dvd_trans h4 h1, fun u hu => ?_⟩
    rcases List.mem_cons.1 hu with rfl | hu
    · exact Nat.dvd_trans h3 h1
    · exact h2 u hu
theorem canF_zero {l : List R3} {k e p : Nat} (hp : 0 < p) (hl : ∀ t ∈ l, 0 < t.p) (h : canF l k e p = 0) : lcmF 1 (l ++ [⟨0, e, p⟩]) ≤ 16777216 ∧ nF (lcmF 1 (l ++ [⟨0, e, p⟩])) (l ++ [⟨0, e, p⟩]) ≤ k * lcmF 1 (l ++ [⟨0, e, p⟩]) := by
  unfold canF at h
  simp only [] at h
  have hM : 0 < lcmF 1 (l ++ [⟨0, e, p⟩]) := lcmF_pos (by omega) fun t ht => by
    rcases List.mem_append.1 ht with ht | ht
    · exact hl t ht
    · obtain rfl := List.mem_singleton.1 ht; exact hp
  generalize lcmF 1 (l ++ [⟨0, e, p⟩]) = M at *
  generalize nF M (l ++ [⟨0, e, p⟩]) = N at *
  split at h
  · omega
  split at h
  · omega
  rename_i h1 h2
  refine ⟨by omega, ?_⟩
  have h3 := Nat.mul_le_mul_right (Nat.gcd N M) (Nat.le_of_not_lt h2)
  rw [Nat.mul_assoc, Nat.div_mul_cancel (Nat.gcd_dvd_left _ _), Nat.div_mul_cancel (Nat.gcd_dvd_right _ _)] at h3
  exact h3
end Go.Proofs.Ytcbholgcbjddjaa.sy

/- a part of a cell in a row of structs (own work). -/
namespace Go.AM
open Go.RowKit
set_option linter.unusedSimpArgs false
set_option linter.unusedVariables false
variable {c : Ctx} {H : AHeap} {α : Type} {w : Wd α}
theorem SlF.ldP {v : AV} {xs : List α} (h : SlF c H w v xs) {i j n : Nat} (hi : i < xs.length) {t : TypeId} (ha : isAggT c.P t = some true) (hs : szOf c.P t = some n) (hj : j + n ≤ w.W) : aload c H t (ptrJ w v i j) = some (.agg (((w.enc xs[i]).drop j).take n)) := by
  obtain ⟨l, st, cs, rfl, hr, hc, hl⟩ := h.at (by intro e; rw [e] at hi; simp at hi)
  have hlt : i * w.W + w.W ≤ xs.length * w.W := by
    have := Nat.mul_le_mul_right w.W (show i + 1 ≤ xs.length by omega)
    rw [Nat.succ_mul] at this; exact this
  have hle : (st + i) * w.W + j + n ≤ cs.length := by
    rw [Nat.add_mul]; omega
  simp only [ptrJ, aload, ha, hs, Option.bind_some, if_true, rd, hr, if_pos hle, Option.map_some]
  congr 2
  apply List.ext_getElem?
  intro k
  rw [List.getElem?_take, List.getElem?_take]
  by_cases hk : k < n
  · rw [if_pos hk, if_pos hk, List.getElem?_drop, List.getElem?_drop]
    have h2 := congrArg (fun l => l[i * w.W + (j + k)]?) hc
    simp only [List.getElem?_take, if_pos (show i * w.W + (j + k) < xs.length * w.W by omega), List.getElem?_drop, w.fl_get hi (show j + k < w.W by omega)] at h2
    rw [← h2, Nat.add_mul]; congr 1; omega
  · rw [if_neg hk, if_neg hk]
end Go.AM

/- all shares against all tasks (own work; plain law). -/
namespace Go.Proofs.Ytcbholgcbjddjaa.sy
open Go.AM Go.AM.Jb
set_option linter.unusedSimpArgs false
set_option linter.unusedVariables false
def rOf (t : Tk) : R3 := ⟨t.id, t.e.toNat, t.p.toNat⟩
theorem nS_shs {w L : Nat} : ∀ {x : List Tk}, (∀ t ∈ x, t.ac = true ∧ tmay t ∧ t.p.toNat ∣ L) → nS L (shs w x) = w * nF L (x.map rOf)
  | [], _ => rfl
  | t :: x, h => by
    obtain ⟨h1, ⟨h2, h3, h4⟩, h5⟩ := h t (List.mem_cons_self ..)
    have ih := nS_shs (w := w) (L := L) (x := x) fun u hu => h u (List.mem_cons_of_mem _ hu)
    have hp := (lowN_part (w := w) (e := t.e.toNat) (p := t.p.toNat) (L := L) (by omega) (by omega) h5).1
    have e1 : shs w (t :: x) = shOf w t :: shs w x := by simp [shs, h1]
    have e2 : nS L (shOf w t :: shs w x) = (shOf w t).n * (L / (shOf w t).d) + nS L (shs w x) := by
      show (shs w x).foldl _ (0 + _) = _
      rw [foldl_add (fun s : Sh => s.n * (L / s.d)) (shs w x)]
      rw [Nat.zero_add]; rfl
    have e3 : nF L ((t :: x).map rOf) = t.e.toNat * (L / t.p.toNat) + nF L (x.map rOf) := by
      show (x.map rOf).foldl _ (0 + _) = _
      rw [foldl_add (fun s : R3 => s.e * (L / s.p)) (x.map rOf)]
      rw [Nat.zero_add]; rfl
    rw [e1, e2, e3, ih, Nat.mul_add]
    congr 1
theorem shs_good {w L : Nat} {x : List Tk} (h : ∀ t ∈ x, t.ac = true ∧ tmay t ∧ t.p.toNat ∣ L) : ∀ s ∈ shs w x, (0 < s.d ∧ s.d ∣ L) ∧ Nat.gcd s.n s.d = 1 := by
  intro s hs
  obtain ⟨t, ht, rfl⟩ := List.mem_map.1 hs
  obtain ⟨h1, ⟨h2, h3, h4⟩, h5⟩ := h t (List.mem_filter.1 ht).1
  obtain ⟨_, a2, a3, a4⟩ := lowN_part (w := w) (e := t.e.toNat) (p := t.p.toNat) (L := L) (by omega) (by omega) h5
  exact ⟨⟨a2, Nat.dvd_trans a3 h5⟩, a4⟩
end Go.Proofs.Ytcbholgcbjddjaa.sy

/- the sums stay small (own work; plain law). -/
namespace Go.Proofs.Ytcbholgcbjddjaa.sy
open Go.AM Go.AM.Jb
set_option linter.unusedSimpArgs false
set_option linter.unusedVariables false
theorem nS_mem {L : Nat} : ∀ {l : List Sh} {s : Sh}, s ∈ l → s.n * (L / s.d) ≤ nS L l
  | a :: l, s, h => by
    have e2 : nS L (a :: l) = a.n * (L / a.d) + nS L l := by
      show l.foldl _ (0 + _) = _
      rw [foldl_add (fun s : Sh => s.n * (L / s.d)) l]
      rw [Nat.zero_add]; rfl
    rw [e2]
    rcases List.mem_cons.1 h with rfl | h
    · omega
    · have := nS_mem (L := L) h
      omega
theorem small_of {L K : Nat} {l : List Sh} (hL : 0 < L) (hL2 : L ≤ 16777216) (hK : K ≤ 180) (hs : ∀ s ∈ l, (0 < s.d ∧ s.d ∣ L) ∧ Nat.gcd s.n s.d = 1) (h : nS L l ≤ K * L) : QSmall l := by
  have hb : ∀ d n : Nat, d ≤ 16777216 → n ≤ d * K → n < 4294967296 := fun d n h1 h2 => by
    have := Nat.mul_le_mul h1 hK; omega
  refine ⟨fun s hm => ?_, fun i => ?_⟩
  · obtain ⟨⟨h1, h2⟩, h3⟩ := hs s hm
    have h4 : s.d ≤ L := Nat.le_of_dvd hL h2
    have h5 := Nat.le_trans (nS_mem (L := L) hm) h
    have h6 : s.n ≤ s.d * K := by
      have h7 := Nat.mul_le_mul_right s.d h5
      rw [Nat.mul_assoc, Nat.div_mul_cancel h2, Nat.mul_right_comm, Nat.mul_comm K] at h7
      exact Nat.le_of_mul_le_mul_right h7 hL
    exact ⟨hb _ _ (by omega) h6, by omega, h1, h3⟩
  · have hs' : ∀ s ∈ l.take i, 0 < s.d ∧ s.d ∣ L := fun s hm => (hs s (List.mem_of_mem_take hm)).1
    have h1 := qsum_le hL hs' (Nat.le_trans (nS_take i) h)
    have h2 := Nat.le_of_dvd hL (qsum_dvd hs')
    exact ⟨hb _ _ (by omega) h1, by omega⟩
end Go.Proofs.Ytcbholgcbjddjaa.sy

/- two spans' shares make the whole span's (own work; plain law for ShareSplits). -/
namespace Go.Proofs.Ytcbholgcbjddjaa.sy
open Go.AM Go.AM.Jb
set_option linter.unusedSimpArgs false
set_option linter.unusedVariables false
theorem low_uniq {a b c d : Nat} (hb : 0 < b) (h : a * d = c * b) (g1 : Nat.gcd a b = 1) (g2 : Nat.gcd c d = 1) : a = c ∧ b = d := by
  have h1 : b ∣ d := Nat.Coprime.dvd_of_dvd_mul_left (Nat.Coprime.symm g1) ⟨c, by rw [h, Nat.mul_comm]⟩
  have h2 : d ∣ b := Nat.Coprime.dvd_of_dvd_mul_left (Nat.Coprime.symm g2) ⟨a, by rw [← h, Nat.mul_comm]⟩
  have h3 := Nat.dvd_antisymm h1 h2
  subst h3
  exact ⟨Nat.eq_of_mul_eq_mul_right hb h, rfl⟩
/-- ref1.Plus of two fractions -/
def fplus (q r : Nat × Nat) : Nat × Nat :=
  ((q.1 * (r.2 / Nat.gcd q.2 r.2) + r.1 * (q.2 / Nat.gcd q.2 r.2)) / Nat.gcd (q.1 * (r.2 / Nat.gcd q.2 r.2) + r.1 * (q.2 / Nat.gcd q.2 r.2)) (q.2 / Nat.gcd q.2 r.2 * r.2), (q.2 / Nat.gcd q.2 r.2 * r.2) / Nat.gcd (q.1 * (r.2 / Nat.gcd q.2 r.2) + r.1 * (q.2 / Nat.gcd q.2 r.2)) (q.2 / Nat.gcd q.2 r.2 * r.2))
theorem fplus_low {x y e p : Nat} (he : 1 ≤ e) (hp : 0 < p) : fplus (lowN x e p) (lowN y e p) = lowN (x + y) e p := by
  obtain ⟨a1, a2, ⟨k1, a3⟩, a4⟩ := lowN_part (w := x) (L := p) he hp (Nat.dvd_refl _)
  obtain ⟨b1, b2, ⟨k2, b3⟩, b4⟩ := lowN_part (w := y) (L := p) he hp (Nat.dvd_refl _)
  obtain ⟨c1, c2, ⟨k3, c3⟩, c4⟩ := lowN_part (w := x + y) (L := p) he hp (Nat.dvd_refl _)
  rw [Nat.div_self hp, Nat.mul_one] at a1 b1 c1
  generalize lowN x e p = q at *
  generalize lowN y e p = r at *
  generalize lowN (x + y) e p = z at *
  have a5 : p / q.2 = k1 := by rw [a3, Nat.mul_div_cancel_left _ a2]
  have b5 : p / r.2 = k2 := by rw [b3, Nat.mul_div_cancel_left _ b2]
  have c5 : p / z.2 = k3 := by rw [c3, Nat.mul_div_cancel_left _ c2]
  rw [a5] at a1
  rw [b5] at b1
  rw [c5] at c1
  unfold fplus
  obtain ⟨u, hu⟩ := Nat.gcd_dvd_left q.2 r.2
  obtain ⟨v, hv⟩ := Nat.gcd_dvd_right q.2 r.2
  have hg : 0 < Nat.gcd q.2 r.2 := Nat.gcd_pos_of_pos_left _ a2
  generalize Nat.gcd q.2 r.2 = g at *
  have d1 : q.2 / g = u := by rw [hu, Nat.mul_div_cancel_left _ hg]
  have d2 : r.2 / g = v := by rw [hv, Nat.mul_div_cancel_left _ hg]
  rw [d1, d2]
  have hu0 : 0 < u := Nat.pos_of_ne_zero fun h => by subst h; omega
  have hM : 0 < u * r.2 := Nat.mul_pos hu0 b2
  have key : (q.1 * v + r.1 * u) * p = u * r.2 * ((x + y) * e) := by
    rw [Nat.add_mul x y e, ← a1, ← b1, Nat.add_mul, Nat.mul_add]
    congr 1
    · rw [a3, hu, hv]; simp only [Nat.mul_comm, Nat.mul_left_comm, Nat.mul_assoc]
    · rw [b3]; simp only [Nat.mul_comm, Nat.mul_left_comm, Nat.mul_assoc]
  generalize q.1 * v + r.1 * u = N at *
  generalize u * r.2 = M at *
  have hh : 0 < Nat.gcd N M := Nat.gcd_pos_of_pos_right _ hM
  have hco : Nat.gcd (N / Nat.gcd N M) (M / Nat.gcd N M) = 1 := by
    rw [Nat.gcd_div (Nat.gcd_dvd_left _ _) (Nat.gcd_dvd_right _ _), Nat.div_self hh]
  have hB : 0 < M / Nat.gcd N M := Nat.div_pos (Nat.le_of_dvd hM (Nat.gcd_dvd_right _ _)) hh
  have e1 := Nat.div_mul_cancel (Nat.gcd_dvd_left N M)
  have e2 := Nat.div_mul_cancel (Nat.gcd_dvd_right N M)
  generalize Nat.gcd N M = h at *
  generalize N / h = A at *
  generalize M / h = B at *
  subst e1 e2
  have k : A * z.2 = z.1 * B := by
    apply Nat.eq_of_mul_eq_mul_right (Nat.mul_pos hp hh)
    have h1 : A * z.2 * (p * h) = A * h * p * z.2 := by simp only [Nat.mul_comm, Nat.mul_left_comm, Nat.mul_assoc]
    rw [h1, key, ← e.mul_comm, ← Nat.mul_comm (x + y) e, ← c1, c3]
    simp only [Nat.mul_comm, Nat.mul_left_comm, Nat.mul_assoc]
  obtain ⟨r1, r2⟩ := low_uniq hB k hco c4
  exact Prod.ext r1 r2
end Go.Proofs.Ytcbholgcbjddjaa.sy

/- what the tasks that Can lets in have (own work; plain law for ShareSums). -/
namespace Go.Proofs.Ytcbholgcbjddjaa.sy
open Go.AM Go.AM.Jb
set_option linter.unusedSimpArgs false
set_option linter.unusedVariables false
theorem lcmF_app (i j : Int) (e p : Nat) : ∀ (l : List R3) (n : Nat), lcmF n (l ++ [⟨i, e, p⟩]) = lcmF n (l ++ [⟨j, e, p⟩])
  | [], n => rfl
  | t :: l, n => by simp only [List.cons_append, lcmF, lcmF_app i j e p l]
theorem nF_app (i j : Int) (e p m : Nat) (l : List R3) : nF m (l ++ [⟨i, e, p⟩]) = nF m (l ++ [⟨j, e, p⟩]) := by
  simp only [nF, List.foldl_append, List.foldl_cons, List.foldl_nil]
/-- what is known of those that were let in -/
structure Gd (k i : Nat) (xs : List Tk) : Prop where
  each : ∀ t ∈ xs, t.ac = true ∧ tmay t ∧ t.p ≤ 24 ∧ t.id < i
  rise : xs.Pairwise (fun a b => a.id < b.id)
  low : lcmF 1 (xs.map rOf) ≤ 16777216
  fits : nF (lcmF 1 (xs.map rOf)) (xs.map rOf) ≤ k * lcmF 1 (xs.map rOf)
theorem Gd.nil (k : Nat) : Gd k 0 [] := ⟨by simp, List.Pairwise.nil, by show 1 ≤ _; omega, by show 0 ≤ _; omega⟩
theorem Gd.up {k i : Nat} {xs : List Tk} (h : Gd k i xs) : Gd k (i + 1) xs := ⟨fun t ht => by have := h.each t ht; exact ⟨this.1, this.2.1, this.2.2.1, by omega⟩, h.rise, h.low, h.fits⟩
theorem Gd.step {k i : Nat} {xs : List Tk} (h : Gd k i xs) {t : Tk} (hi : t.id = i) (ha : t.ac = true) (hm : tmay t) (hp : t.p ≤ 24) (hc : canF (xs.map rOf) k t.e.toNat t.p.toNat = 0) : Gd k (i + 1) (xs ++ [t]) := by
  obtain ⟨c1, c2⟩ := canF_zero (by have := hm.1; have := hm.2; omega) (fun r hr => by
    obtain ⟨u, hu, rfl⟩ := List.mem_map.1 hr
    obtain ⟨_, ⟨a, b, c⟩, _⟩ := h.each u hu
    show 0 < u.p.toNat; omega) hc
  have e1 : lcmF 1 ((xs ++ [t]).map rOf) = lcmF 1 (xs.map rOf ++ [⟨0, t.e.toNat, t.p.toNat⟩]) := by rw [List.map_append]; exact lcmF_app _ _ _ _ _ _
  have e2 : ∀ m, nF m ((xs ++ [t]).map rOf) = nF m (xs.map rOf ++ [⟨0, t.e.toNat, t.p.toNat⟩]) := fun m => by rw [List.map_append]; exact nF_app _ _ _ _ _ _
  refine ⟨fun u hu => ?_, ?_, by rw [e1]; exact c1, by rw [e1, e2]; exact c2⟩
  · rcases List.mem_append.1 hu with hu | hu
    · exact h.up.each u hu
    · obtain rfl := List.mem_singleton.1 hu
      exact ⟨ha, hm, hp, by omega⟩
  · refine List.pairwise_append.2 ⟨h.rise, List.pairwise_singleton _ _, fun a hx b hb => ?_⟩
    obtain rfl := List.mem_singleton.1 hb
    have := (h.each a hx).2.2.2
    omega
theorem Gd.dvd {k i : Nat} {xs : List Tk} (h : Gd k i xs) : ∀ t ∈ xs, t.ac = true ∧ tmay t ∧ t.p.toNat ∣ lcmF 1 (xs.map rOf) := fun t ht =>
  ⟨(h.each t ht).1, (h.each t ht).2.1, (lcmF_dvd h.low).2 _ (List.mem_map_of_mem ht)⟩
theorem Gd.pos {k i : Nat} {xs : List Tk} (h : Gd k i xs) : 0 < lcmF 1 (xs.map rOf) := lcmF_pos (by omega) fun r hr => by
    obtain ⟨u, hu, rfl⟩ := List.mem_map.1 hr
    obtain ⟨_, ⟨a, b, c⟩, _⟩ := h.each u hu
    show 0 < u.p.toNat; omega
theorem Gd.le {k i w : Nat} {xs : List Tk} (h : Gd k i xs) : nS (lcmF 1 (xs.map rOf)) (shs w xs) ≤ (w * k) * lcmF 1 (xs.map rOf) := by
  rw [nS_shs h.dvd, Nat.mul_assoc]; exact Nat.mul_le_mul_left _ h.fits
/-- their shares may be summed -/
theorem Gd.small {k i w : Nat} {xs : List Tk} (h : Gd k i xs) (hk : k ≤ 6) (hw : w ≤ 30) : QSmall (shs w xs) :=
  small_of h.pos h.low (K := w * k) (by have := Nat.mul_le_mul hw hk; omega) (shs_good h.dvd) h.le
theorem Gd.sum {k i w : Nat} {xs : List Tk} (h : Gd k i xs) : (qsum (shs w xs)).1 ≤ (qsum (shs w xs)).2 * (w * k) :=
  qsum_le h.pos (fun s hs => (shs_good h.dvd s hs).1) h.le
theorem Gd.len {k i w : Nat} {xs : List Tk} (h : Gd k i xs) : (shs w xs).length = xs.length := by
  unfold shs
  rw [List.length_map, List.filter_eq_self.2 fun t ht => (h.each t ht).1]
theorem Gd.at {k i w : Nat} {xs : List Tk} (h : Gd k i xs) {j : Nat} (hj : j < xs.length) : (shs w xs)[j]'(by rw [h.len]; exact hj) = shOf w xs[j] := by
  have : shs w xs = xs.map (shOf w) := by unfold shs; rw [List.filter_eq_self.2 fun t ht => (h.each t ht).1]
  simp only [this, List.getElem_map]
theorem Gd.good {k i : Nat} {xs : List Tk} (h : Gd k i xs) : ∀ j (hj : j < xs.length), gdAt xs j hj := fun j hj =>
  ⟨(h.each _ (List.getElem_mem hj)).2.1, fun h0 => by
    have := List.pairwise_iff_getElem.1 h.rise (j - 1) j (by omega) hj (by omega)
    omega⟩
/-- a whole period is just the quanta -/
theorem lowN_all {e p : Nat} (h1 : 1 ≤ e) (h2 : 0 < p) : lowN p e p = (e, 1) := by
  have h3 := lowN_part (w := p) (L := p) h1 h2 (Nat.dvd_refl _)
  obtain ⟨a, b, c, d⟩ := h3
  rw [Nat.div_self h2, Nat.mul_one] at a
  have h4 := low_uniq (a := (lowN p e p).1) (b := (lowN p e p).2) (c := e) (d := 1) b (by
    obtain ⟨m, hm⟩ := c
    have hm0 : 0 < m := Nat.pos_of_ne_zero fun h => by subst h; omega
    have e1 : p / (lowN p e p).2 = m := by
      generalize (lowN p e p).2 = z at *
      rw [hm, Nat.mul_div_cancel_left _ b]
    rw [e1] at a
    apply Nat.eq_of_mul_eq_mul_right hm0
    rw [Nat.mul_one, a, Nat.mul_assoc, ← hm, Nat.mul_comm]) d (Nat.gcd_one_right _)
  exact Prod.ext h4.1 h4.2
theorem lowN_le {w e p : Nat} (h1 : 1 ≤ e) (h2 : 0 < p) (h : e ≤ p) : (lowN w e p).1 ≤ (lowN w e p).2 * w ∧ 0 < (lowN w e p).2 ∧ (lowN w e p).2 ≤ p := by
  obtain ⟨a, b, c, d⟩ := lowN_part (w := w) (L := p) h1 h2 (Nat.dvd_refl _)
  refine ⟨?_, b, Nat.le_of_dvd h2 c⟩
  rw [Nat.div_self h2, Nat.mul_one] at a
  obtain ⟨m, hm⟩ := c
  have hm0 : 0 < m := Nat.pos_of_ne_zero fun h => by subst h; omega
  have e1 : p / (lowN w e p).2 = m := by
    generalize (lowN w e p).2 = z at *
    rw [hm, Nat.mul_div_cancel_left _ b]
  rw [e1] at a
  apply Nat.le_of_mul_le_mul_right (c := m) _ hm0
  rw [a, Nat.mul_right_comm, ← hm, Nat.mul_comm]
  exact Nat.mul_le_mul_right _ h
theorem perm_rise {srt : List Tk} {xs : List Tk} (h1 : srt.Perm xs) (h2 : srt.Pairwise (fun a b => a.id ≤ b.id)) (h3 : xs.Pairwise (fun a b => a.id < b.id)) : srt = xs := by
  induction xs generalizing srt with
  | nil => exact h1.eq_nil
  | cons x xs ih =>
    cases srt with
    | nil => have := h1.length_eq; simp at this
    | cons s srt =>
      have hx : s = x := by
        have m1 : s ∈ x :: xs := h1.subset (List.mem_cons_self ..)
        have m2 : x ∈ s :: srt := h1.symm.subset (List.mem_cons_self ..)
        rcases List.mem_cons.1 m1 with e | m1
        · exact e
        rcases List.mem_cons.1 m2 with e | m2
        · exact e.symm
        have a1 := List.rel_of_pairwise_cons h3 m1
        have a2 := List.rel_of_pairwise_cons h2 m2
        omega
      subst hx
      rw [ih ((List.perm_cons _).1 h1) (List.Pairwise.of_cons h2) (List.Pairwise.of_cons h3)]
end Go.Proofs.Ytcbholgcbjddjaa.sy

/-
  WHAT CAME IN (own work): the abstract machine's view of the memory ahead of a call: each slice that came in is a row told by its address; what reads as a type is a row of the machine's values.
-/
namespace Go.AM
open Go.RowKit Go.ChangeShapes Go.WideShapes Go.Deep
set_option linter.unusedVariables false
set_option linter.unusedSimpArgs false

/-- the types of an element's cells -/
def ctys (P : Program) : Nat → TypeId → List TypeId
  | 0, t => [t]
  | k + 1, t => match P.underlying t with
    | some (.struct fs) => fs.toList.flatMap fun f => ctys P k f.type
    | _ => [t]

/-- one cell, by its type -/
def cellAV (P : Program) (t : TypeId) (x : Value) : Option AV := match P.underlying t with
  | some (.slice e) => match x with
    | .slice none 0 0 => some .nilslice
    | .slice (some a) len cap => if cap = 0 then (if len = 0 then some (.odd a) else none) else if len ≤ cap ∧ a.spot = none then some (.slice (.ext [1, a.block, a.off, cap, e]) (ctys P 8 e).length 0 len) else none
    | _ => none
  | _ => scAV x

def cellsFrom (P : Program) (w : World) (b off : Nat) (ts : List TypeId) : Nat → Nat → List AV
  | 0, _ => []
  | k + 1, j => match (w.cell? ⟨b, off + j, none⟩).bind (cellAV P (ts.getD (j % ts.length) 0)) with
    | some v => if v.one then v :: cellsFrom P w b off ts k (j + 1) else []
    | none => []

def decG (P : Program) (w : World) : List Nat → Option (List AV)
  | [1, b, off, cap, e] => if b < w.heap.size then some (cellsFrom P w b off (ctys P 8 e) (cap * (ctys P 8 e).length) 0) else none
  | _ => none

def plA : Pl := fun l => match l with
  | .ext [0, g] => some ⟨g, 0, 0⟩
  | .ext [1, b, off, cap, _] => some ⟨b, off, cap⟩
  | _ => none

theorem cellAV_VR {P : Program} {t : TypeId} {x : Value} {v : AV} (h : cellAV P t x = some v) : VR plA v x := by
  unfold cellAV at h
  split at h
  · split at h
    · cases h; rfl
    · split at h
      · split at h
        · rename_i h0 h1; cases h; subst h0; subst h1; rfl
        · cases h
      · split at h
        · rename_i a len cap hc hl
          cases h
          refine ⟨⟨a.block, a.off, cap⟩, rfl, by simpa using hl.1, ?_⟩
          obtain ⟨b, o, s⟩ := a
          simp only at hl
          rw [hl.2]
          simp
        · cases h
    · cases h
  · exact scAV_sound h

theorem cellsFrom_get {P : Program} {w : World} {b off : Nat} {ts : List TypeId} : ∀ (k j0 j : Nat) (v : AV), (cellsFrom P w b off ts k j0)[j]? = some v → ∃ x, w.cell? ⟨b, off + (j0 + j), none⟩ = some x ∧ VR plA v x ∧ v.one = true
  | 0, j0, j, v, h => by simp [cellsFrom] at h
  | k + 1, j0, j, v, h => by
    unfold cellsFrom at h
    split at h
    · rename_i u hu
      split at h
      · rename_i h1
        cases j with
        | zero =>
          simp at h; subst h
          obtain ⟨x, hx, hv⟩ := Option.bind_eq_some_iff.1 hu
          exact ⟨x, hx, cellAV_VR hv, h1⟩
        | succ j =>
          simp at h
          have := cellsFrom_get k (j0 + 1) j v h
          rw [show j0 + (j + 1) = j0 + 1 + j by omega]
          exact this
      · simp at h
    · simp at h

theorem cellsFrom_all {P : Program} {w : World} {b off : Nat} {ts : List TypeId} {vs : List AV} : ∀ (k j0 : Nat), vs.length ≤ k → (∀ j (h : j < vs.length), ∃ x, w.cell? ⟨b, off + (j0 + j), none⟩ = some x ∧ cellAV P (ts.getD ((j0 + j) % ts.length) 0) x = some vs[j] ∧ vs[j].one = true) → (cellsFrom P w b off ts k j0).take vs.length = vs := by
  induction vs with
  | nil => intro k j0 _ _; rfl
  | cons v r ih =>
    intro k j0 hk h
    cases k with
    | zero => simp at hk
    | succ k =>
      obtain ⟨x, h1, h2, h3⟩ := h 0 (by simp)
      simp only [Nat.add_zero, List.getElem_cons_zero] at h1 h2 h3
      have : cellsFrom P w b off ts (k + 1) j0 = v :: cellsFrom P w b off ts k (j0 + 1) := by
        rw [cellsFrom, h1, Option.bind_some, h2]
        simp [h3]
      rw [this]
      simp only [List.length_cons, List.take_succ_cons, List.cons.injEq, true_and]
      refine ih k (j0 + 1) (by simpa using hk) fun j hj => ?_
      have := h (j + 1) (by simp; omega)
      simp only [List.getElem_cons_succ] at this
      rw [show j0 + 1 + j = j0 + (j + 1) by omega]
      exact this

def argC (P : Program) (w : World) : Ctx := { P, G := decG P w }
theorem relA (P : Program) (w : World) : Rel (argC P w) w.heap.size w plA [] w where
  below := Below.refl _ _
  size := Nat.le_refl _
  own := fun i o h => by simp [hat] at h
  inj := fun i j o o' p q h => by simp [hat] at h
  ext := fun path cells h => by
    change decG P w path = some cells at h
    unfold decG at h
    split at h
    · rename_i b off cap e
      split at h
      · rename_i hb
        cases h
        refine ⟨⟨b, off, cap⟩, rfl, hb, fun j v hj => ?_⟩
        have := cellsFrom_get _ _ _ _ hj
        simpa using this
      · cases h
    · cases h
  glob := fun g => ⟨0, rfl⟩
theorem freshA : Fresh plA [] := fun _ _ => rfl

section
variable {H : Type} {enc : TypeId × Value → H} {P : Program} {w : World} {base : Nat} {spare : Nat → Bool} {held : Bool}

/-- what reads as the type t is these cells, and they are as told -/
def OpA (enc : TypeId × Value → H) (P : Program) (w : World) (base : Nat) (spare : Nat → Bool) (held : Bool) (t : TypeId) (Good : List AV → Prop) : Prop :=
  ∀ fuel cs x, DataW.trod enc P w base spare held fuel t cs = some x → ∃ vs, vs.length = (ctys P 8 t).length ∧ cs.length = (ctys P 8 t).length ∧ Good vs ∧
    ∀ j (h : j < vs.length), ∃ y, cs[j]? = some y ∧ cellAV P ((ctys P 8 t).getD j 0) y = some vs[j] ∧ vs[j].one = true

theorem ctys_one {t : TypeId} {d : TypeDesc} (ht : P.underlying t = some d) (hn : ∀ fs, d ≠ .struct fs) : ctys P 8 t = [t] := by
  unfold ctys
  rw [ht]
  cases d <;> first | rfl | exact absurd rfl (hn _)

theorem opA_int {t : TypeId} {k : IntKind} (ht : P.underlying t = some (.int k)) : OpA enc P w base spare held t (fun vs => ∃ n, vs = [.int k n] ∧ (Lit.int k n).wf = true) := by
  intro fuel cs x h
  obtain ⟨n, rfl, _, hw⟩ := DataW.trod_int ht h
  rw [ctys_one ht (by simp)]
  refine ⟨[.int k n], rfl, rfl, ⟨n, rfl, hw⟩, fun j hj => ?_⟩
  obtain rfl : j = 0 := by simp at hj; omega
  exact ⟨_, rfl, by simp [cellAV, ht, scAV], rfl⟩
theorem opA_bool {t : TypeId} (ht : P.underlying t = some .bool) : OpA enc P w base spare held t (fun vs => ∃ b, vs = [.bool b]) := by
  intro fuel cs x h
  obtain ⟨n, rfl, _⟩ := DataW.trod_bool ht h
  rw [ctys_one ht (by simp)]
  refine ⟨[.bool n], rfl, rfl, ⟨n, rfl⟩, fun j hj => ?_⟩
  obtain rfl : j = 0 := by simp at hj; omega
  exact ⟨_, rfl, by simp [cellAV, ht, scAV], rfl⟩

/-- a slice that came in: its elements -/
def SlG (P : Program) (w : World) (v : AV) (k n : Nat) (Good : List AV → Prop) : Prop :=
  ((v = .nilslice ∨ ∃ a, v = .odd a) ∧ n = 0) ∨ ∃ path cs, v = .slice (.ext path) k 0 n ∧ decG P w path = some cs ∧ n * k ≤ cs.length ∧ ∀ i, i < n → Good ((cs.drop (i * k)).take k)

theorem opA_slice {t e : TypeId} {GoodE : List AV → Prop} (ht : P.underlying t = some (.slice e)) (hc : P.cellsOf e = (ctys P 8 e).length) (hk : 0 < (ctys P 8 e).length) (hsp : ∀ k, spare k = true) (he : OpA enc P w base spare held e GoodE) :
    OpA enc P w base spare held t (fun vs => ∃ v n, vs = [v] ∧ SlG P w v (ctys P 8 e).length n GoodE) := by
  intro fuel cs x h
  rw [ctys_one ht (by simp)]
  rcases open_slice ht h with ⟨rfl, _⟩ | ⟨a, len, cap, m, n, D, Pl, rfl, hb, hl, hm, hmm, hx, hi⟩
  · refine ⟨[.nilslice], rfl, rfl, ⟨_, 0, rfl, .inl ⟨.inl rfl, rfl⟩⟩, fun j hj => ?_⟩
    obtain rfl : j = 0 := by simp at hj; omega
    exact ⟨_, rfl, by simp [cellAV, ht], rfl⟩
  · rw [hsp, if_pos rfl] at hmm
    subst hmm
    rcases Nat.eq_zero_or_pos m with h0 | h0
    · subst h0
      obtain rfl : len = 0 := by omega
      refine ⟨[.odd a], rfl, rfl, ⟨_, 0, rfl, .inl ⟨.inr ⟨a, rfl⟩, rfl⟩⟩, fun j hj => ?_⟩
      obtain rfl : j = 0 := by simp at hj; omega
      exact ⟨_, rfl, by simp [cellAV, ht], rfl⟩
    · rw [hc] at hi
      generalize hK : (ctys P 8 e).length = K at hk hi he
      have hel : ∀ i, i < m → ∃ vs : List AV, vs.length = K ∧ GoodE vs ∧ ∀ j (h : j < vs.length), ∃ y, w.cell? (a.add (i * K + j)) = some y ∧ cellAV P ((ctys P 8 e).getD j 0) y = some vs[j] ∧ vs[j].one = true := by
        intro i him
        obtain ⟨cs', hcs, ht'⟩ := hi i him
        obtain ⟨_, hcl, hat⟩ := World.cells?_some hcs
        obtain ⟨vs, g1, g2, g3, g4⟩ := he _ _ _ ht'
        rw [hK] at g1 g2
        refine ⟨vs, g1, g3, fun j hj => ?_⟩
        obtain ⟨y, hy, hcy, ho⟩ := g4 j hj
        exact ⟨y, by rw [← Go.Deep.add_add, hat j (by omega), hy], hcy, ho⟩
      have hspot : a.spot = none ∧ a.block < w.heap.size := by
        obtain ⟨vs, g1, _, g4⟩ := hel 0 h0
        obtain ⟨y, hy, _⟩ := g4 0 (by omega)
        have hy' : w.cell? a = some y := by simpa [Addr.add] using hy
        have hlt := World.block_lt_of_cell? w a hy'
        refine ⟨?_, hlt⟩
        cases hs : a.spot with
        | none => rfl
        | some s =>
          unfold World.cell? at hy'
          split at hy'
          · simp [hs] at hy'
          · cases hy'
      obtain ⟨ab, ao, asp⟩ := a
      simp only at hspot
      obtain ⟨rfl, hblt⟩ := hspot
      have hadd : ∀ k, (⟨ab, ao, none⟩ : Addr).add k = ⟨ab, ao + k, none⟩ := by
        intro k
        unfold Addr.add
        split
        · rename_i hk0; subst hk0; rfl
        · rfl
      have hall : ∀ q, q ≤ m → ∃ vs : List AV, vs.length = q * K ∧ (∀ i, i < q → GoodE ((vs.drop (i * K)).take K)) ∧ ∀ j (h : j < vs.length), ∃ y, w.cell? ⟨ab, ao + j, none⟩ = some y ∧ cellAV P ((ctys P 8 e).getD (j % K) 0) y = some vs[j] ∧ vs[j].one = true := by
        intro q
        induction q with
        | zero => intro _; exact ⟨[], by simp, fun i h => by omega, fun j h => by simp at h⟩
        | succ q ih =>
          intro hq
          obtain ⟨vs, v1, v2, v3⟩ := ih (by omega)
          obtain ⟨us, u1, u2, u3⟩ := hel q (by omega)
          refine ⟨vs ++ us, by rw [List.length_append, v1, u1, Nat.succ_mul], fun i hi => ?_, fun j hj => ?_⟩
          · rcases Nat.lt_or_ge i q with h | h
            · have h2 : i * K + K ≤ q * K := by rw [← Nat.succ_mul]; exact Nat.mul_le_mul_right _ h
              rw [List.drop_append_of_le_length (by omega), List.take_append_of_le_length (by simp; omega)]
              exact v2 i h
            · obtain rfl : i = q := by omega
              rw [List.drop_append, ← v1]
              simp only [List.drop_length, Nat.sub_self, List.nil_append, List.drop_zero]
              rw [← u1, List.take_length]
              exact u2
          · rcases Nat.lt_or_ge j vs.length with h | h
            · obtain ⟨y, y1, y2, y3⟩ := v3 j h
              refine ⟨y, y1, ?_, ?_⟩
              · rw [List.getElem_append_left h]; exact y2
              · rw [List.getElem_append_left h]; exact y3
            · have hjl : j - vs.length < us.length := by simp at hj; omega
              obtain ⟨y, y1, y2, y3⟩ := u3 (j - vs.length) hjl
              rw [hadd] at y1
              have e1 : q * K + (j - vs.length) = j := by omega
              rw [e1] at y1
              have e2 : j % K = j - vs.length := by
                have e3 : (q * K + (j - vs.length)) % K = j - vs.length := by rw [Nat.mul_comm, Nat.mul_add_mod, Nat.mod_eq_of_lt (by omega)]
                rwa [e1] at e3
              refine ⟨y, y1, ?_, ?_⟩
              · rw [List.getElem_append_right h, e2]; exact y2
              · rw [List.getElem_append_right h]; exact y3
      obtain ⟨vs, v1, v2, v3⟩ := hall len hl
      refine ⟨[.slice (.ext [1, ab, ao, m, e]) K 0 len], rfl, rfl, ⟨_, len, rfl, .inr ⟨_, _, rfl, by simp only [decG]; rw [if_pos hblt], ?_, ?_⟩⟩, fun j hj => ?_⟩
      · have ht' := cellsFrom_all (P := P) (w := w) (b := ab) (off := ao) (ts := ctys P 8 e) (vs := vs) (m * K) 0 (by rw [v1]; exact Nat.mul_le_mul_right _ hl) (fun j h => by
          obtain ⟨y, y1, y2, y3⟩ := v3 j h
          rw [hK]
          simp only [Nat.zero_add]
          exact ⟨y, y1, y2, y3⟩)
        have := congrArg List.length ht'
        rw [List.length_take, v1] at this
        rw [hK]
        omega
      · intro i hi'
        have ht' := cellsFrom_all (P := P) (w := w) (b := ab) (off := ao) (ts := ctys P 8 e) (vs := vs) (m * K) 0 (by rw [v1]; exact Nat.mul_le_mul_right _ hl) (fun j h => by
          obtain ⟨y, y1, y2, y3⟩ := v3 j h
          rw [hK]
          simp only [Nat.zero_add]
          exact ⟨y, y1, y2, y3⟩)
        have h3 := v2 i hi'
        rw [hK]
        rw [← ht', v1, List.drop_take, List.take_take] at h3
        have h2 : i * K + K ≤ len * K := by rw [← Nat.succ_mul]; exact Nat.mul_le_mul_right _ hi'
        rw [Nat.min_eq_left (by omega)] at h3
        exact h3
      · obtain rfl : j = 0 := by simp at hj; omega
        refine ⟨_, rfl, ?_, rfl⟩
        simp only [List.getD_cons_zero, cellAV, ht]
        rw [if_neg (by omega), if_pos ⟨hl, by trivial⟩, hK]
        rfl

/-- a slice that came in, as a list of its elements' values (one cell each) -/
theorem SlG.sl {v : AV} {n : Nat} {Good : List AV → Prop} (h : SlG P w v 1 n Good) : ∃ xs : List AV, xs.length = n ∧ v.at? = none ∧ (∀ K : AHeap, Sl (argC P w) K v xs) ∧ ∀ x ∈ xs, Good [x] := by
  rcases h with ⟨hv, rfl⟩ | ⟨path, cs, rfl, hG, hl, hg⟩
  · refine ⟨[], rfl, ?_, fun K => .inl ⟨hv, rfl⟩, by simp⟩
    rcases hv with rfl | ⟨a, rfl⟩ <;> rfl
  · refine ⟨cs.take n, by simp; omega, rfl, fun K => .inr ⟨.ext path, 0, by simp; omega, fun _ => ⟨cs, hG, by simp⟩⟩, fun x hx => ?_⟩
    obtain ⟨i, hi, rfl⟩ := List.getElem_of_mem hx
    have hin : i < n := by simp at hi; omega
    have := hg i hin
    have e : (cs.drop i).take 1 = [cs[i]] := by rw [List.drop_eq_getElem_cons (by omega)]; rfl
    rw [Nat.mul_one, e] at this
    simpa using this
theorem SlG.ints {v : AV} {n : Nat} {k : IntKind} {ok : Int → Prop} (h : SlG P w v 1 n (fun vs => ∃ n, vs = [AV.int k n] ∧ ok n)) : ∃ zs : List Int, zs.length = n ∧ v.at? = none ∧ (∀ K : AHeap, Sl (argC P w) K v (zs.map (AV.int k))) ∧ ∀ z ∈ zs, ok z := by
  obtain ⟨xs, h1, h2, h3, h4⟩ := h.sl
  have : ∃ zs : List Int, xs = zs.map (AV.int k) ∧ ∀ z ∈ zs, ok z := by
    clear h1 h3
    induction xs with
    | nil => exact ⟨[], rfl, by simp⟩
    | cons x r ih =>
      obtain ⟨zs, rfl, hz⟩ := ih (fun y hy => h4 y (by simp [hy]))
      obtain ⟨n, hn, hok⟩ := h4 x (by simp)
      simp at hn
      exact ⟨n :: zs, by simp [hn], by intro z hz'; rcases List.mem_cons.1 hz' with rfl | e; exact hok; exact hz z e⟩
  obtain ⟨zs, rfl, hz⟩ := this
  exact ⟨zs, by simpa using h1, h2, h3, hz⟩

/-- an argument of one cell -/
theorem argA {t : TypeId} {Good : List AV → Prop} (ho : OpA enc P w base spare held t Good) (h1 : ctys P 8 t = [t]) {v : Value} {dd : DataW H} {ps : List MemPlace} (h : DataW.Trod enc P w base spare held t v dd ps) (hc : v.cells = #[v]) : ∃ u, VR plA u v ∧ Good [u] := by
  obtain ⟨fuel, hf⟩ := h
  obtain ⟨vs, g1, g2, g3, g4⟩ := ho _ _ _ hf
  rw [h1] at g1
  match vs, g1 with
  | [u], _ =>
    obtain ⟨y, hy, hcy, _⟩ := g4 0 (by simp)
    rw [hc] at hy
    simp at hy
    subst hy
    exact ⟨u, cellAV_VR hcy, g3⟩
end
end Go.AM

/-
  WHAT CAME IN, MORE (own work): structs of fields of any kinds, and slices of them.
-/
namespace Go.AM
open Go.RowKit Go.ChangeShapes Go.WideShapes Go.Deep
set_option linter.unusedVariables false
set_option linter.unusedSimpArgs false
section
variable {H : Type} {enc : TypeId × Value → H} {P : Program} {w : World} {base : Nat} {spare : Nat → Bool} {held : Bool}
/-- cells told field by field -/
def GoodL : List (List AV → Prop) → List AV → Prop
  | [], vs => vs = []
  | G :: Gs, vs => ∃ a b, vs = a ++ b ∧ G a ∧ GoodL Gs b
theorem GoodL.snoc {G : List AV → Prop} {a : List AV} (ha : G a) : ∀ {Gs : List (List AV → Prop)} {vs : List AV}, GoodL Gs vs → GoodL (Gs ++ [G]) (vs ++ a)
  | [], vs, h => by simp only [GoodL] at h; subst h; exact ⟨a, [], by simp, ha, rfl⟩
  | G' :: Gs, vs, h => by
    obtain ⟨x, y, rfl, hx, hy⟩ := h
    exact ⟨x, y ++ a, by simp, hx, GoodL.snoc ha hy⟩
theorem opA_struct {t : TypeId} {fs : List Field} {fa : Array Field} (ht : P.underlying t = some (.struct fa)) (hfa : fa.toList = fs) (hct : ctys P 8 t = fs.flatMap fun f => ctys P 8 f.type)
    (hc : P.cellsOf t = (ctys P 8 t).length) (Gs : List (List AV → Prop)) (hl : Gs.length = fs.length)
    (ho : ∀ i f G, fs[i]? = some f → Gs[i]? = some G → f.offset = ((fs.take i).flatMap fun f => ctys P 8 f.type).length ∧ P.cellsOf f.type = (ctys P 8 f.type).length ∧ OpA enc P w base spare held f.type G) :
    OpA enc P w base spare held t (GoodL Gs) := by
  intro fuel cs x h
  obtain ⟨l⟩ := fa
  have hfa' : fs = l := hfa.symm
  subst hfa'
  obtain ⟨xs, m, _, hx, hlen, hn, hel⟩ := DataW.trod_struct ht h
  have key : ∀ k, k ≤ fs.length → ∃ vs : List AV, vs.length = ((fs.take k).flatMap fun f => ctys P 8 f.type).length ∧ GoodL (Gs.take k) vs ∧
      ∀ j (h : j < vs.length), ∃ y, cs[j]? = some y ∧ cellAV P (((fs.take k).flatMap fun f => ctys P 8 f.type).getD j 0) y = some vs[j] ∧ vs[j].one = true := by
    intro k
    induction k with
    | zero => intro _; exact ⟨[], by simp, by simp [GoodL], fun j hj => by simp at hj⟩
    | succ k ih =>
      intro hk
      obtain ⟨vs, v1, v2, v3⟩ := ih (by omega)
      have hfk : fs[k]? = some fs[k] := List.getElem?_eq_getElem (by omega)
      have hGk : Gs[k]? = some Gs[k] := List.getElem?_eq_getElem (by omega)
      obtain ⟨o1, o2, o3⟩ := ho k _ _ hfk hGk
      have hxk : k < xs.length := by have : xs.length = fs.length := by simpa using hn
                                     omega
      have hg := hel k fs[k] (by simp)
      rw [List.getElem?_eq_getElem hxk] at hg
      obtain ⟨us, u1, u2, u3, u4⟩ := o3 _ _ _ (by first | exact hg | simpa using hg)
      rw [List.take_succ_eq_append_getElem (show k < fs.length by omega), List.take_succ_eq_append_getElem (show k < Gs.length by omega), List.flatMap_append]
      have e1 : List.flatMap (fun f : Field => ctys P 8 f.type) [fs[k]] = ctys P 8 fs[k].type := by simp
      rw [e1]
      refine ⟨vs ++ us, by simp [v1, u1], GoodL.snoc u3 v2, fun j hj => ?_⟩
      by_cases hjv : j < vs.length
      · obtain ⟨y, y1, y2, y3⟩ := v3 j hjv
        rw [List.getElem_append_left hjv]
        refine ⟨y, y1, ?_, y3⟩
        rw [List.getD_eq_getElem?_getD, List.getElem?_append_left (by omega), ← List.getD_eq_getElem?_getD]
        exact y2
      · have hju : j - vs.length < us.length := by simp at hj; omega
        obtain ⟨y, y1, y2, y3⟩ := u4 (j - vs.length) hju
        rw [List.getElem_append_right (by omega)]
        refine ⟨y, ?_, ?_, y3⟩
        · rw [List.getElem?_take, if_pos (by rw [u1] at hju; omega), List.getElem?_drop, o1, ← v1] at y1
          rw [← y1]; congr 1; omega
        · rw [List.getD_eq_getElem?_getD, List.getElem?_append_right (by omega), ← v1, ← List.getD_eq_getElem?_getD]
          exact y2
  obtain ⟨vs, v1, v2, v3⟩ := key fs.length (Nat.le_refl _)
  rw [List.take_length, ← hct] at v1
  rw [← hl, List.take_length] at v2
  refine ⟨vs, v1, by rw [← hc]; exact hlen, v2, fun j hj => ?_⟩
  obtain ⟨y, y1, y2, y3⟩ := v3 j hj
  rw [List.take_length, ← hct] at y2
  exact ⟨y, y1, y2, y3⟩
/-- what its fields read as -/
def OpAs (enc : TypeId × Value → H) (P : Program) (w : World) (base : Nat) (spare : Nat → Bool) (held : Bool) : List Field → List TypeId → List (List AV → Prop) → Prop
  | [], _, [] => True
  | f :: fs, done, G :: Gs => (f.offset = done.length ∧ P.cellsOf f.type = (ctys P 8 f.type).length) ∧ OpA enc P w base spare held f.type G ∧ OpAs enc P w base spare held fs (done ++ ctys P 8 f.type) Gs
  | _, _, _ => False
theorem OpAs.nil {done : List TypeId} : OpAs enc P w base spare held [] done [] := trivial
theorem OpAs.cons {f : Field} {fs : List Field} {done : List TypeId} {G : List AV → Prop} {Gs : List (List AV → Prop)} (h1 : f.offset = done.length) (h2 : P.cellsOf f.type = (ctys P 8 f.type).length) (h3 : OpA enc P w base spare held f.type G)
    (h4 : OpAs enc P w base spare held fs (done ++ ctys P 8 f.type) Gs) : OpAs enc P w base spare held (f :: fs) done (G :: Gs) := ⟨⟨h1, h2⟩, h3, h4⟩
theorem OpAs.at : ∀ {fs : List Field} {done : List TypeId} {Gs : List (List AV → Prop)}, OpAs enc P w base spare held fs done Gs → Gs.length = fs.length ∧ ∀ i f G, fs[i]? = some f → Gs[i]? = some G → f.offset = (done ++ (fs.take i).flatMap fun f => ctys P 8 f.type).length ∧ P.cellsOf f.type = (ctys P 8 f.type).length ∧ OpA enc P w base spare held f.type G
  | [], _, [], _ => ⟨rfl, fun i f G h => by simp at h⟩
  | f :: fs, done, G :: Gs, h => by
    obtain ⟨⟨h1, h2⟩, h3, h4⟩ := h
    obtain ⟨k1, k2⟩ := OpAs.at h4
    refine ⟨by simp [k1], fun i f' G' hf hG => ?_⟩
    cases i with
    | zero =>
      simp only [List.getElem?_cons_zero, Option.some.injEq] at hf hG
      subst hf hG
      exact ⟨by simp [h1], h2, h3⟩
    | succ i =>
      simp only [List.getElem?_cons_succ] at hf hG
      obtain ⟨a, b⟩ := k2 i f' G' hf hG
      exact ⟨by rw [a]; simp [List.take_succ_cons], b⟩
theorem opA_fields {t : TypeId} {fa : Array Field} (ht : P.underlying t = some (.struct fa)) {cts : List TypeId} (hcts : ctys P 8 t = cts) (hct : (fa.toList.flatMap fun f => ctys P 8 f.type) = cts)
    (hc : P.cellsOf t = cts.length) {Gs : List (List AV → Prop)} (ho : OpAs enc P w base spare held fa.toList [] Gs) : OpA enc P w base spare held t (GoodL Gs) := by
  obtain ⟨h1, h2⟩ := ho.at
  exact opA_struct ht rfl (hcts.trans hct.symm) (by rw [hc, hcts]) Gs h1 (fun i f G hf hG => by simpa using h2 i f G hf hG)
end
end Go.AM

/- how tasks come in; rows of none (own work). -/
namespace Go.Proofs.Ytcbholgcbjddjaa.sy
open Go.AM Go.AM.Jb Go.RowKit
set_option linter.unusedSimpArgs false
set_option linter.unusedVariables false
variable {G : List Nat → Option (List AV)} {base : Nat} {w0 : World}
set_option maxRecDepth 100000
set_option maxHeartbeats 8000000
variable {H : AHeap}
abbrev gI : List AV → Prop := fun vs => ∃ n, vs = [AV.int .i64 n] ∧ (Lit.int .i64 n).wf = true
abbrev gB : List AV → Prop := fun vs => ∃ b, vs = [AV.bool b]
theorem opT {H : Type} {enc : TypeId × Value → H} {w : World} {base : Nat} {spare : Nat → Bool} {held : Bool} (hsp : ∀ k, spare k = true) :
    OpA enc Try.prog w base spare held 22 (fun vs => ∃ v n, vs = [v] ∧ SlG Try.prog w v 11 n (GoodL [gI, gI, gI, gB, gB, gB, gB, gI, gI, gB, gI])) := by
  have c26 : ctys Try.prog 8 26 = [3, 3, 3, 4, 4, 4, 4, 3, 3, 4, 3] := by kernel_rfl
  have h3 : OpA enc Try.prog w base spare held 3 gI := opA_int Try.underlying3
  have h4 : OpA enc Try.prog w base spare held 4 gB := opA_bool Try.underlying4
  have h26 := opA_fields (enc := enc) (w := w) (base := base) (spare := spare) (held := held) Try.underlying26 c26 (by kernel_rfl) (by kernel_rfl) (.cons (by kernel_rfl) (by kernel_rfl) h3 (.cons (by kernel_rfl) (by kernel_rfl) h3 (.cons (by kernel_rfl) (by kernel_rfl) h3 (.cons (by kernel_rfl) (by kernel_rfl) h4 (.cons (by kernel_rfl) (by kernel_rfl) h4 (.cons (by kernel_rfl) (by kernel_rfl) h4 (.cons (by kernel_rfl) (by kernel_rfl) h4 (.cons (by kernel_rfl) (by kernel_rfl) h3 (.cons (by kernel_rfl) (by kernel_rfl) h3 (.cons (by kernel_rfl) (by kernel_rfl) h4 (.cons (by kernel_rfl) (by kernel_rfl) h3 .nil)))))))))))
  have := opA_slice (enc := enc) (w := w) (base := base) (held := held) Try.underlying22 (by kernel_rfl) (by rw [c26]; decide) hsp h26
  rw [c26] at this
  exact this
theorem fl_of {α : Type} {w : Wd α} {Good : List AV → Prop} {ok : α → Prop} (hg : ∀ vs, Good vs → ∃ d, vs = w.enc d ∧ ok d) {cs : List AV} : ∀ n, n * w.W ≤ cs.length → (∀ i, i < n → Good ((cs.drop (i * w.W)).take w.W)) → ∃ ds : List α, ds.length = n ∧ w.fl ds = cs.take (n * w.W) ∧ ∀ d ∈ ds, ok d
  | 0, _, _ => ⟨[], rfl, by simp [Wd.fl], by simp⟩
  | n + 1, hl, h => by
    rw [Nat.succ_mul] at hl
    obtain ⟨ds, h1, h2, h3⟩ := fl_of hg n (by omega) (fun i hi => h i (by omega))
    obtain ⟨d, hd, hok⟩ := hg _ (h n (by omega))
    refine ⟨ds ++ [d], by simp [h1], ?_, fun x hx => ?_⟩
    · rw [Wd.fl_app, h2, Nat.succ_mul, List.take_add]
      congr 1
      rw [hd]; simp [Wd.fl]
    · rcases List.mem_append.1 hx with hx | hx
      · exact h3 x hx
      · simp at hx; subst hx; exact hok
abbrev Tk1 := Tk
structure Tks (G : List Nat → Option (List AV)) (base : Nat) (w0 : World) (v : AV) (l : List Tk) : Prop where
  out : ∀ H, SlF (kn G base w0).c H wT v l
  ext : v.at? = none
  each : ∀ t ∈ l, (Lit.int .i64 t.e).wf = true ∧ (Lit.int .i64 t.p).wf = true
theorem tks_of {W : World} {u : AV} (g : ∃ v n, [u] = [v] ∧ SlG Try.prog W v 11 n (GoodL [gI, gI, gI, gB, gB, gB, gB, gI, gI, gB, gI])) : ∃ l, Tks (decG Try.prog W) base w0 u l := by
  obtain ⟨v, n, hv, h⟩ := g
  simp at hv
  subst hv
  rcases h with ⟨h, rfl⟩ | ⟨path, cs, rfl, hG, hl, hi⟩
  · refine ⟨[], fun H => .inl ⟨h, rfl⟩, ?_, by simp⟩
    rcases h with rfl | ⟨a, rfl⟩ <;> rfl
  · obtain ⟨ds, h1, h2, h3⟩ := fl_of (w := wT) (ok := fun t => (Lit.int .i64 t.e).wf = true ∧ (Lit.int .i64 t.p).wf = true) (fun vs hq => by
      obtain ⟨_, _, rfl, ⟨a, rfl, _⟩, _, _, rfl, ⟨b, rfl, hb⟩, _, _, rfl, ⟨c, rfl, hc⟩, _, _, rfl, ⟨d, rfl⟩, _, _, rfl, ⟨e, rfl⟩, _, _, rfl, ⟨f, rfl⟩, _, _, rfl, ⟨g, rfl⟩, _, _, rfl, ⟨h, rfl, _⟩, _, _, rfl, ⟨i, rfl, _⟩, _, _, rfl, ⟨j, rfl⟩, _, _, rfl, ⟨k, rfl, _⟩, rfl⟩ := hq
      exact ⟨⟨a, b, c, d, e, f, g, h, i, j, k⟩, rfl, hb, hc⟩) n hl hi
    exact ⟨ds, fun H => .inr ⟨.ext path, 0, by rw [h1]; rfl, fun _ => ⟨cs, hG, by rw [Nat.zero_mul, List.drop_zero, h1, h2]⟩⟩, rfl, h3⟩
theorem rows_nil {v : AV} (hv : SlF (kn G base w0).c H wT v []) : Pt (kn G base w0) 9 [v] H .nilslice H := by
  refine Pt.pure ?_ rfl
  refine Pt.fn (n := 20) (rs := [.tmp 2]) Try.func9 (b := _) rfl rfl rfl (by decide) ?_
  simp only [numbered]
  refine D.sq (D.ks (.e [(2, AV.nilslice)] H) (by kernel_rfl) (D.sq (D.ks (.e [(3, AV.nilslice)] H) (by kernel_rfl) (D.sq (D.sq (D.ks (.e [(4, AV.int IntKind.i64 0)] H) (by kernel_rfl) (D.bl ?_)))))))
  have e0 := hv.len (c := (kn G base w0).c) Try.underlying22
  replace e0 : alen (kn G base w0).c H 22 v = some (.int .i64 0) := e0
  refine D.lp (fun m env H' => m = 0 ∧ H = H' ∧ ELe (E 20 [(4, .int .i64 0), (3, .nilslice), (2, .nilslice), (0, v)]) env) 0
    ⟨rfl, rfl, by exact E_le (by decide) (E_size _ _) (by simp only [List.forall_mem_cons, List.not_mem_nil, false_implies, implies_true, and_true, List.cons_append, List.nil_append, Nat.zero_add, Nat.reduceAdd, E_get, Nat.reduceEqDiff, Nat.reduceLT, Nat.reduceLeDiff, if_true, if_false, and_self, true_and] <;> first | rfl | exact ⟨rfl, rfl⟩)⟩ ?_
  rintro m env H3 ⟨rfl, rfl, he⟩
  refine D.forget he ?_
  clear he
  refine D.sq (D.sq (D.ks (.v e0 <| .a <| .e [(8, AV.bool false)] H) (by kernel_rfl) (D.cf (by kernel_rfl) (D.exit (Ks_e' (Kl_e' (Kb_e' (Ks_n' (D.sq (D.ks (.e [(2, AV.nilslice)] H) (by kernel_rfl) (D.ret (Kf_by AV.nilslice (.r AV.nilslice) (by kernel_rfl) ?_))))))))))))
  exact ⟨rfl, Keep.refl _⟩
theorem rows_all {v : AV} {l : List Tk} (hv : SlF (kn G base w0).c H wT v l) (hva : ∀ b, v.at? = some b → b < H.length) (hl : l.length ≤ 1000) : ∃ r H', Pt (kn G base w0) 9 [v] H r H' ∧ OwnF H' wT r 51 l ∧ Keep H H' (fun _ => False) ∧ (r ≠ .nilslice → l ≠ []) := by
  by_cases h0 : l = []
  · subst h0
    exact ⟨_, _, rows_nil hv, OwnF.nil, Keep.refl _, fun h => absurd rfl h⟩
  · obtain ⟨r, H', a, b, c, d⟩ := rows_ok (G := G) (base := base) (w0 := w0) hv hva hl
    exact ⟨r, H', a, b, c, fun _ => h0⟩
theorem eqR (a b c d : Int) : aeqT (kn G base w0).c 9 37 (.agg [.int .i64 a, .int .i64 b]) (.agg [.int .i64 c, .int .i64 d]) = if (a == c) = true then (if (b == d) = true then some true else some false) else some false := by kernel_rfl
theorem neqR (a b c d : Int) : abin (kn G base w0).c .neq 37 (.agg [.int .i64 a, .int .i64 b]) (.agg [.int .i64 c, .int .i64 d]) = some (.bool (!((a == c) && (b == d)))) := by
  have h : (kn G base w0).c.P.eqGuardType (kn G base w0).c.P.depth 37 = false := by kernel_rfl
  simp only [abin, h, Bool.false_eq_true, if_false, eqR]
  cases (a == c) <;> cases (b == d) <;> rfl
theorem eqlR (a b c d : Int) : abin (kn G base w0).c .eql 37 (.agg [.int .i64 a, .int .i64 b]) (.agg [.int .i64 c, .int .i64 d]) = some (.bool ((a == c) && (b == d))) := by
  have h : (kn G base w0).c.P.eqGuardType (kn G base w0).c.P.depth 37 = false := by kernel_rfl
  simp only [abin, h, Bool.false_eq_true, if_false, eqR]
  cases (a == c) <;> cases (b == d) <;> rfl
end Go.Proofs.Ytcbholgcbjddjaa.sy

/-
  REGIONS THAT DRAW THEIR ORDER, run by the kernel (own work): movers in a row, calls among them; looks anywhere beside them, asked at each heap that they may meet.
-/
namespace Go.AM
open Go.RowKit
set_option linter.unusedSimpArgs false
set_option linter.unusedVariables false

/-! ### 'before' is transitive -/
theorem foldl_bits_up {acc : Array Nat} {i : Nat} : ∀ (l : List Edge) (s : Nat), (s.testBit i = true ∨ ∃ e ∈ l, Region.binds .any e = true ∧ (e.on = i ∨ (acc.getD e.on 0).testBit i = true)) →
    (l.foldl (fun s e => if Region.binds .any e then s ||| 2 ^ e.on ||| acc.getD e.on 0 else s) s).testBit i = true
  | [], s, h => by
    rcases h with h | ⟨e, he, _⟩
    · exact h
    · cases he
  | e :: l, s, h => by
    rw [List.foldl_cons]
    refine foldl_bits_up l _ ?_
    rcases h with h | ⟨e', he, hb, hq⟩
    · left
      split
      · simp only [Nat.testBit_or, h, Bool.true_or]
      · exact h
    · rcases List.mem_cons.1 he with rfl | he
      · left
        rw [if_pos hb]
        simp only [Nat.testBit_or, Bool.or_eq_true]
        rcases hq with rfl | hq
        · exact .inl (.inr (by rw [Nat.testBit_two_pow_self]))
        · exact .inr hq
      · exact .inr ⟨e', he, hb, hq⟩
theorem before_up {ops : List Oper} {j i : Nat} (hj : j < ops.length) (hedge : edgesOk ops = true) {e : Edge} (he : e ∈ (opsOf ops j).after.toList) (hb : Region.binds .any e = true) (hq : e.on = i ∨ ((Region.before ops.toArray).getD e.on 0).testBit i = true) :
    ((Region.before ops.toArray).getD j 0).testBit i = true := by
  have hlt : e.on < j := by
    have := List.all_eq_true.1 (List.all_eq_true.1 hedge j (List.mem_range.2 hj)) e he
    rw [hb] at this
    simpa using this
  rw [before_get (opsOf_get hj), beforeF, ← Array.foldl_toList]
  refine foldl_bits_up _ _ (.inr ⟨e, he, hb, ?_⟩)
  rcases hq with hq | hq
  · exact .inl hq
  · exact .inr (by rw [before_take hlt (by omega)]; exact hq)
theorem before_trans {ops : List Oper} (hedge : edgesOk ops = true) {m q : Nat} : ∀ j, j < ops.length → ((Region.before ops.toArray).getD j 0).testBit q = true → ((Region.before ops.toArray).getD q 0).testBit m = true → ((Region.before ops.toArray).getD j 0).testBit m = true := by
  intro j
  induction j using Nat.strongRecOn with
  | ind j ih =>
    intro hj h1 h2
    have hedge' : ∀ e ∈ (opsOf ops j).after.toList, Region.binds .any e = true → e.on < j := by
      intro e hej hb
      have := List.all_eq_true.1 (List.all_eq_true.1 hedge j (List.mem_range.2 hj)) e hej
      rw [hb] at this
      simpa using this
    obtain ⟨e, he, hb, hq⟩ := before_bits (opsOf_get hj) hedge' h1
    have hlt := hedge' e he hb
    refine before_up hj hedge he hb (.inr ?_)
    rcases hq with hq | hq
    · rw [hq]; exact h2
    · exact ih e.on hlt (by omega) hq h2

/-! ### movers in a row, looks anywhere -/
/-- may the look j meet the heap behind the mover i (of the movers ks)? -/
def metK (b : Array Nat) (ks : List Nat) (i j : Nat) : Prop := (b.getD i 0).testBit j = false ∧ ∀ q ∈ ks, i < q → (b.getD j 0).testBit q = false
def met0 (b : Array Nat) (ks : List Nat) (j : Nat) : Prop := ∀ q ∈ ks, (b.getD j 0).testBit q = false
variable {κ : Kn} {env : AEnv} {H : AHeap} {K : AExit → AEnv → AHeap → Prop}
theorem D.rowG {id : Nat} {ops : Array Oper} {env' : AEnv} {H' : AHeap} {call : Callee} (hc : CallOK κ.c κ.base κ.w0 call) (F : List Nat) (ks : List (Nat × AHeap)) (hs : rowOk ops.toList F (ks.map (·.1)) = true)
    (hkF : ∀ p ∈ ks, p.1 < ops.toList.length ∧ isP (opsOf ops.toList p.1).op = false ∧ p.1 ∉ F)
    (h : asteps κ.c call ops.toList ops.toList env H = some (env', H'))
    (hk : ∀ p ∈ ks, ∃ e, asteps κ.c call ops.toList (ops.toList.take (p.1 + 1)) env H = some (e, p.2))
    (hF : ∀ j ∈ F, ∃ v, (met0 (Region.before ops.toList.toArray) (ks.map (·.1)) j → stepV κ.c call ops.toList (opsOf ops.toList j) env' H = some (v, H)) ∧
      ∀ p ∈ ks, metK (Region.before ops.toList.toArray) (ks.map (·.1)) p.1 j → stepV κ.c call ops.toList (opsOf ops.toList j) env' p.2 = some (v, p.2))
    (k : K .normal env' H') : D κ (.region id ops true) env H K := by
  refine ⟨.normal, env', H', k, fun ρ w a hr hf he => ?_⟩
  obtain ⟨t, ht⟩ := trace_of_steps h
  refine order_sound κ.mixed _ hc id ops env env' H H' ?_ h ρ w a hr hf he
  simp only [drawOk, ht]
  generalize ops.toList = os at *
  simp only [rowOk, Bool.and_eq_true, List.all_eq_true, List.mem_range] at hs
  obtain ⟨h1, h2, h3, h4⟩ := hs
  obtain ⟨f1, f2, f3⟩ := trace_facts ht
  have hE : envK (fun i => (os.getD i default).dst) (fun i => (t.getD i dft).1) (fun _ => true) env os.length = env' := by
    rw [f3, Option.some.injEq, Prod.mk.injEq] at h; exact h.1
  have hheap := heap_trace ht
  have hat : ∀ j, j < os.length → os[j]? = some (opsOf os j) := fun j hj => opsOf_get hj
  have hkh : ∀ p ∈ ks, heapsOf H t (p.1 + 1) = p.2 := by
    intro p hp
    obtain ⟨e, hpre⟩ := hk p hp
    obtain ⟨e2, hpre2⟩ := take_trace ht (p.1 + 1) (hkF p hp).1
    rw [hpre, Option.some.injEq, Prod.mk.injEq] at hpre2
    exact hpre2.2.symm
  -- what a look tells at a heap that it may meet
  have hlk : ∀ j, j < os.length → j ∈ F → ∃ v, (met0 (Region.before os.toArray) (ks.map (·.1)) j → stepV κ.c call os (opsOf os j) (envK (fun i => (os.getD i default).dst) (fun i => (t.getD i dft).1) (fun _ => true) env j) H = some (v, H)) ∧
      ∀ p ∈ ks, metK (Region.before os.toArray) (ks.map (·.1)) p.1 j → stepV κ.c call os (opsOf os j) (envK (fun i => (os.getD i default).dst) (fun i => (t.getD i dft).1) (fun _ => true) env j) p.2 = some (v, p.2) := by
    intro j hj hjF
    obtain ⟨v, hv1, hv2⟩ := hF j hjF
    refine ⟨v, fun hm => ?_, fun p hp hm => ?_⟩
    · rw [← fixJ_env hj (h3 j hjF) H, hE]; exact hv1 hm
    · rw [← fixJ_env hj (h3 j hjF) p.2, hE]; exact hv2 p hp hm
  -- the heap ahead of m: that behind the last mover ahead of m
  have hlook : ∀ j, j < os.length → j ∈ F → ((∀ p ∈ ks, ¬ p.1 < j) ∧ heapsOf H t j = H ∨ ∃ p ∈ ks, p.1 < j ∧ (∀ q ∈ ks, q.1 < j → q.1 ≤ p.1) ∧ heapsOf H t j = p.2) →
      ∃ v, t.getD j dft = (v, heapsOf H t j) ∧ (met0 (Region.before os.toArray) (ks.map (·.1)) j → stepV κ.c call os (opsOf os j) (envK (fun i => (os.getD i default).dst) (fun i => (t.getD i dft).1) (fun _ => true) env j) H = some (v, H)) ∧
      ∀ p ∈ ks, metK (Region.before os.toArray) (ks.map (·.1)) p.1 j → stepV κ.c call os (opsOf os j) (envK (fun i => (os.getD i default).dst) (fun i => (t.getD i dft).1) (fun _ => true) env j) p.2 = some (v, p.2) := by
    intro j hj hjF hin
    obtain ⟨v, hv1, hv2⟩ := hlk j hj hjF
    refine ⟨v, ?_, hv1, hv2⟩
    have hst := f1 j _ (hat j hj)
    rw [hheap j (by omega)] at hst
    rcases hin with ⟨hno, e⟩ | ⟨p, hp, hlt, hmx, e⟩
    · have hm : met0 (Region.before os.toArray) (ks.map (·.1)) j := by
        intro q hq
        obtain ⟨p, hp, rfl⟩ := List.mem_map.1 hq
        cases hb : ((Region.before os.toArray).getD j 0).testBit p.1 with
        | false => rfl
        | true => exact absurd (before_lt h1 p.1 j hj hb) (hno p hp)
      rw [e, hv1 hm] at hst
      rw [e]; exact (Option.some.inj hst).symm
    · have hm : metK (Region.before os.toArray) (ks.map (·.1)) p.1 j := by
        refine ⟨?_, fun q hq hpq => ?_⟩
        · cases hb : ((Region.before os.toArray).getD p.1 0).testBit j with
          | false => rfl
          | true => have := before_lt h1 j p.1 (by omega) hb; omega
        · obtain ⟨q', hq', rfl⟩ := List.mem_map.1 hq
          cases hb : ((Region.before os.toArray).getD j 0).testBit q'.1 with
          | false => rfl
          | true => have := hmx q' hq' (before_lt h1 q'.1 j hj hb); omega
      rw [e, hv2 p hp hm] at hst
      rw [e]; exact (Option.some.inj hst).symm
  have hin : ∀ m, m ≤ os.length → (∀ p ∈ ks, ¬ p.1 < m) ∧ heapsOf H t m = H ∨ ∃ p ∈ ks, p.1 < m ∧ (∀ q ∈ ks, q.1 < m → q.1 ≤ p.1) ∧ heapsOf H t m = p.2 := by
    intro m
    induction m with
    | zero => intro _; exact .inl ⟨fun p _ => by omega, rfl⟩
    | succ m ih =>
      intro hm
      by_cases hmk : ∃ p ∈ ks, p.1 = m
      · obtain ⟨p, hp, rfl⟩ := hmk
        exact .inr ⟨p, hp, by omega, fun q _ hq => by omega, hkh p hp⟩
      have up : heapsOf H t (m + 1) = heapsOf H t m → ((∀ p ∈ ks, ¬ p.1 < m + 1) ∧ heapsOf H t (m + 1) = H ∨ ∃ p ∈ ks, p.1 < m + 1 ∧ (∀ q ∈ ks, q.1 < m + 1 → q.1 ≤ p.1) ∧ heapsOf H t (m + 1) = p.2) := fun e1 => by
        rcases ih (by omega) with ⟨hno, e⟩ | ⟨p, hp, hlt, hmx, e⟩
        · exact .inl ⟨fun p hp hlt => by
            by_cases e' : p.1 = m
            · exact hmk ⟨p, hp, e'⟩
            · exact hno p hp (by omega), e1.trans e⟩
        · exact .inr ⟨p, hp, by omega, fun q hq hlt => by
            by_cases e' : q.1 = m
            · exact absurd ⟨q, hq, e'⟩ hmk
            · exact hmx q hq (by omega), e1.trans e⟩
      refine up ?_
      cases hq : quiet (opsOf os m).op with
      | true =>
        have hst := f1 m _ (hat m (by omega))
        rw [hheap m (by omega)] at hst
        have : mvOf (opsOf os m).op (heapsOf H t m) (t.getD m dft).2 = false := by simp [mvOf, hq]
        exact mvOf_same this hst
      | false =>
        have hq4 := h4 m (by omega)
        simp only [Bool.or_eq_true, Bool.and_eq_true, hq, Bool.false_eq_true, false_or] at hq4
        rcases hq4 with hq4 | hq4
        · obtain ⟨v, e, _⟩ := hlook m (by omega) (by simpa using hq4) (ih (by omega))
          exact congrArg Prod.snd e
        · have hq' : m ∈ ks.map (·.1) := by simpa using hq4.1
          obtain ⟨p, hp, e⟩ := List.mem_map.1 hq'
          exact absurd ⟨p, hp, e⟩ hmk
  have hmvF : ∀ j, j < os.length → j ∈ F → (moves os H t).getD j false = false := by
    intro j hj hjF
    obtain ⟨v, e, _⟩ := hlook j hj hjF (hin j (by omega))
    rw [f2 j hj, hheap j (by omega), e]
    exact mvOf_self _ _
  -- who moves is one of ks
  have hmvk : ∀ m, m < os.length → (moves os H t).getD m false = true → ∃ p ∈ ks, p.1 = m := by
    intro m hm hmm
    have hqm : quiet (opsOf os m).op = false := by
      cases hq : quiet (opsOf os m).op with
      | false => rfl
      | true => rw [moves_quiet os H t m hq] at hmm; cases hmm
    have hmnF : m ∉ F := fun e => by rw [hmvF m hm e] at hmm; cases hmm
    have hq4 := h4 m hm
    simp only [Bool.or_eq_true, Bool.and_eq_true, hqm, Bool.false_eq_true, false_or] at hq4
    rcases hq4 with hq4 | hq4
    · exact absurd (by simpa using hq4) hmnF
    · have hq' : m ∈ ks.map (·.1) := by simpa using hq4.1
      obtain ⟨p, hp, e⟩ := List.mem_map.1 hq'
      exact ⟨p, hp, e⟩
  have hsame : ∀ m, m < os.length → (moves os H t).getD m false = false → heapsOf H t (m + 1) = heapsOf H t m := by
    intro m hm hmm
    have hst := f1 m _ (hat m hm)
    rw [hheap m (by omega)] at hst
    rw [f2 m hm, hheap m (by omega)] at hmm
    exact mvOf_same hmm hst
  simp only [regOk, Bool.and_eq_true]
  refine ⟨h1, h2, List.all_eq_true.2 fun i hi => ?_⟩
  rw [List.mem_range] at hi
  have hq := h4 i hi
  simp only [Bool.or_eq_true, Bool.and_eq_true] at hq ⊢
  rcases hq with hq | hq | ⟨_, hq⟩
  · exact .inl (by rw [moves_quiet os H t i hq]; rfl)
  · exact .inl (by rw [hmvF i hi (by simpa using hq)]; rfl)
  · refine .inr (List.all_eq_true.2 fun j hj => ?_)
    have hj' := List.mem_range.1 hj
    have hq := List.all_eq_true.1 hq j hj
    simp only [Bool.or_eq_true] at hq ⊢
    rcases hq with e | e | e | e
    · exact .inl e
    · exact .inr (.inl e)
    · refine .inr (.inr ?_)
      simp only [still, moves_quiet os H t j (isP_quiet e), e, Bool.not_false, Bool.true_or, Bool.true_and]
    · refine .inr (.inr ?_)
      have hjF : j ∈ F := by simpa using e
      obtain ⟨v, hst, hv1, hv2⟩ := hlook j hj' hjF (hin j (by omega))
      have hmv := hmvF j hj' hjF
      simp only [still, hmv, Bool.not_false, Bool.true_and]
      rw [Bool.or_eq_true]
      refine .inr (List.all_eq_true.2 fun k hk' => ?_)
      rw [List.mem_range] at hk'
      have hsm : sameStep (some (v, heapsOf H t k)) v (heapsOf H t k) = true := by cases v <;> simp [sameStep, AV.beq_refl]
      rw [Bool.or_eq_true, Bool.or_eq_true]
      cases hmk : (k == 0 || (moves os H t).getD (k - 1) false) with
      | false => exact .inl (.inl rfl)
      | true =>
        cases hps : possible os (Region.before os.toArray) (moves os H t) k j with
        | false => exact .inl (.inr rfl)
        | true =>
          refine .inr ?_
          rw [hheap k (by omega)]
          have hp1 : ∀ i, i < os.length → (moves os H t).getD i false = true → (((Region.before os.toArray).getD j 0).testBit i = true → i < k) ∧ (((Region.before os.toArray).getD i 0).testBit j = true → k ≤ i) := by
            intro i hi hm
            have := List.all_eq_true.1 hps i (List.mem_range.2 hi)
            simp only [hm, Bool.not_true, Bool.false_or, Bool.and_eq_true, Bool.or_eq_true, Bool.not_eq_true', decide_eq_true_eq] at this
            refine ⟨fun hb => ?_, fun hb => ?_⟩
            · rcases this.1 with h' | h'
              · rw [hb] at h'; cases h'
              · exact h'
            · rcases this.2 with h' | h'
              · rw [hb] at h'; cases h'
              · exact h'
          have key : stepV κ.c call os (opsOf os j) (envK (fun i => (os.getD i default).dst) (fun i => (t.getD i dft).1) (fun _ => true) env j) (heapsOf H t k) = some (v, heapsOf H t k) := by
            -- the last mover that must be ahead of j and is not ahead of k
            by_cases hA : ∃ n, ∃ p ∈ ks, p.1 = n ∧ k ≤ n ∧ ((Region.before os.toArray).getD j 0).testBit n = true
            · have hmx : ∃ p ∈ ks, k ≤ p.1 ∧ ((Region.before os.toArray).getD j 0).testBit p.1 = true ∧ ∀ q ∈ ks, p.1 < q.1 → ((Region.before os.toArray).getD j 0).testBit q.1 = false := by
                have : ∀ d n, os.length - n ≤ d → (∃ p ∈ ks, p.1 = n ∧ k ≤ n ∧ ((Region.before os.toArray).getD j 0).testBit n = true) → ∃ p ∈ ks, k ≤ p.1 ∧ ((Region.before os.toArray).getD j 0).testBit p.1 = true ∧ ∀ q ∈ ks, p.1 < q.1 → ((Region.before os.toArray).getD j 0).testBit q.1 = false := by
                  intro d
                  induction d with
                  | zero =>
                    rintro n hd ⟨p, hp, rfl, _⟩
                    have := (hkF p hp).1; omega
                  | succ d ihd =>
                    rintro n hd ⟨p, hp, rfl, hkn, hb⟩
                    by_cases hq : ∃ q ∈ ks, p.1 < q.1 ∧ ((Region.before os.toArray).getD j 0).testBit q.1 = true
                    · obtain ⟨q, hq, hlt, hbq⟩ := hq
                      exact ihd q.1 (by omega) ⟨q, hq, rfl, by omega, hbq⟩
                    · refine ⟨p, hp, hkn, hb, fun q hq' hlt => ?_⟩
                      cases hbq : ((Region.before os.toArray).getD j 0).testBit q.1 with
                      | false => rfl
                      | true => exact absurd ⟨q, hq', hlt, hbq⟩ hq
                obtain ⟨n, hn⟩ := hA
                exact this _ n (Nat.le_refl _) hn
              obtain ⟨q, hq, hkq, hbq, hlast⟩ := hmx
              have hqj := before_lt h1 q.1 j hj' hbq
              have hstay : ∀ d m, m + d = q.1 + 1 → k ≤ m → heapsOf H t m = heapsOf H t (q.1 + 1) := by
                intro d
                induction d with
                | zero => intro m e _; rw [show m = q.1 + 1 by omega]
                | succ d ihd =>
                  intro m e hkm
                  rw [← ihd (m + 1) (by omega) (by omega)]
                  refine (hsame m (by omega) ?_).symm
                  cases hmm : (moves os H t).getD m false with
                  | false => rfl
                  | true =>
                    exfalso
                    have hnb : ¬ ((Region.before os.toArray).getD j 0).testBit m = true := fun hb => by have := (hp1 m (by omega) hmm).1 hb; omega
                    by_cases hmq : m = q.1
                    · rw [hmq] at hnb; exact hnb hbq
                    · have hqm := h4 m (by omega)
                      have hquiet : quiet (opsOf os m).op = false := by
                        cases hq : quiet (opsOf os m).op with
                        | false => rfl
                        | true => rw [moves_quiet os H t m hq] at hmm; cases hmm
                      have hmnF : m ∉ F := fun e => by rw [hmvF m (by omega) e] at hmm; cases hmm
                      simp only [Bool.or_eq_true, Bool.and_eq_true, hquiet, Bool.false_eq_true, false_or] at hqm
                      rcases hqm with hqm | ⟨_, hqm⟩
                      · exact hmnF (by simpa using hqm)
                      · have := List.all_eq_true.1 hqm q.1 (List.mem_range.2 (by omega))
                        obtain ⟨g1, g2, g3⟩ := hkF q hq
                        simp only [Bool.or_eq_true, g2, Bool.false_eq_true, false_or] at this
                        rcases this with h' | h' | h'
                        · exact hmq (Nat.eq_of_beq_eq_true h')
                        · have hblt : Nat.blt m q.1 = true := by rw [Nat.blt_eq]; omega
                          rw [inOrder, if_pos hblt] at h'
                          exact hnb (before_trans h1 j hj' hbq h')
                        · exact g3 (by simpa using h')
              rw [hstay (q.1 + 1 - k) k (by omega) (Nat.le_refl _), hkh q hq]
              refine hv2 q hq ⟨?_, fun z hz hlt => ?_⟩
              · cases hb : ((Region.before os.toArray).getD q.1 0).testBit j with
                | false => rfl
                | true => have := before_lt h1 j q.1 (by omega) hb; omega
              · obtain ⟨z', hz', rfl⟩ := List.mem_map.1 hz
                exact hlast z' hz' hlt
            · cases k with
              | zero =>
                refine hv1 fun q hq => ?_
                obtain ⟨p, hp, rfl⟩ := List.mem_map.1 hq
                cases hb : ((Region.before os.toArray).getD j 0).testBit p.1 with
                | false => rfl
                | true => exact absurd ⟨p.1, p, hp, rfl, by omega, hb⟩ hA
              | succ m =>
                have hmm : (moves os H t).getD m false = true := by simpa using hmk
                obtain ⟨p, hp, rfl⟩ := hmvk m (by omega) hmm
                rw [hkh p hp]
                refine hv2 p hp ⟨?_, fun z hz hlt => ?_⟩
                · cases hb : ((Region.before os.toArray).getD p.1 0).testBit j with
                  | false => rfl
                  | true => have := (hp1 p.1 (by omega) hmm).2 hb; omega
                · obtain ⟨z', hz', rfl⟩ := List.mem_map.1 hz
                  cases hb : ((Region.before os.toArray).getD j 0).testBit z'.1 with
                  | false => rfl
                  | true => exact absurd ⟨z'.1, z', hz', rfl, by omega, hb⟩ hA
          rw [key, hst]
          exact hsm

/-! ### run by the kernel -/
abbrev EntM := FuncId × List AV × AHeap × AV × AHeap
/-- a look that was made: where, what, what it told -/
structure Lk where
  j : Nat
  o : Oper
  env : AEnv
  v : AV
  an : An
  ent : Option (FuncId × List AV)
variable {T : FuncId → Spec} {fs0 : List Nat}
def kbuilt (κ : Kn) (env : AEnv) (H : AHeap) (cl : Call) (an : An) (k : AV → Prop) : Prop :=
  match cl.callee, an with
  | .builtin b, .v x => match b, cl.argTypes.toList, avals env cl.args.toList with
    | .len, t :: _, some [y] => alen κ.c H t y = some x ∧ k x
    | .max, _, some l => aminmax true l = some x ∧ k x
    | .min, _, some l => aminmax false l = some x ∧ k x
    | _, _, _ => False
  | .builtin .len, .a => match cl.argTypes.toList, avals env cl.args.toList with
    | t :: _, some [y] => match alen κ.c H t y with
      | some x => k x
      | none => False
    | _, _ => False
  | .value q, .v x => match aval env q, avals env cl.args.toList with
    | some (.func (.func f) first captured), some args => match hasBody κ.c.P f with
      | false => aext κ.c.P f (first ++ args ++ captured) = some x ∧ k x
      | true => False
    | _, _ => False
  | _, _ => False
theorem kbuilt_sound {cl : Call} {an : An} {k : AV → Prop} (h : kbuilt κ env H cl an k) : ∃ v, k v ∧ aop κ.c env (.call cl) H = some (.val v, H) := by
  unfold kbuilt at h
  split at h
  · split at h
    · exact ⟨_, h.2, by simp only [aop, acallee, abuiltin, *, Option.bind_some, Option.map_some]⟩
    · exact ⟨_, h.2, by simp only [aop, acallee, abuiltin, *, Option.bind_some, Option.map_some]⟩
    · exact ⟨_, h.2, by simp only [aop, acallee, abuiltin, *, Option.bind_some, Option.map_some]⟩
    · exact h.elim
  · split at h
    · split at h
      · exact ⟨_, h, by simp only [aop, acallee, abuiltin, *, Option.bind_some, Option.map_some]⟩
      · exact h.elim
    · exact h.elim
  · split at h
    · split at h
      · exact ⟨_, h.2, by simp only [aop, acallee, *, Option.bind_some, Option.map_some, Bool.false_eq_true, if_false]⟩
      · exact h.elim
    · exact h.elim
  · exact h.elim
/-- a call that leaves the heap -/
def kcalmX (κ : Kn) (T : FuncId → Spec) (fs0 : List Nat) (env : AEnv) (H : AHeap) (cl : Call) (an : An) (k : AV → An → Option (FuncId × List AV) → Prop) : Prop :=
  match an with
  | .f x => match acallee κ.c H env cl with
    | some (.call f args, _) => (∀ X, Pt κ f args X x X) ∧ k x (.f x) (some (f, args))
    | _ => False
  | .vh x X => match acallee κ.c H env cl with
    | some (.call f args, _) => match fs0.contains f with
      | true => False
      | false => callT κ T f args H = some (x, H) ∧ k x (.vh x X) none
    | _ => False
  | an => kbuilt κ env H cl an fun v => k v (.v v) none
/-- the same at another heap -/
def ksame (κ : Kn) (T : FuncId → Spec) (fs0 : List Nat) (X : AHeap) (l : Lk) (Q : Prop) : Prop :=
  match l.o.op with
  | .call cl => match l.an with
    | .f _ => match acallee κ.c X l.env cl with
      | some (.call f args, _) => l.ent = some (f, args) ∧ Q
      | _ => False
    | .vh _ _ => match acallee κ.c X l.env cl with
      | some (.call f args, _) => match fs0.contains f with
        | true => False
        | false => callT κ T f args X = some (l.v, X) ∧ Q
      | _ => False
    | _ => kbuilt κ l.env X cl (.v l.v) fun v => v = l.v ∧ Q
  | op => match quiet op with
    | true => kop κ l.env X false op [.v l.v] fun v _ _ => v = l.v ∧ Q
    | false => False
def kback (κ : Kn) (T : FuncId → Spec) (fs0 : List Nat) (b : Array Nat) (j : Nat) (l : Lk) : List (Nat × AHeap) → AHeap → Prop → Prop
  | [], _, Q => Q
  | (i, _) :: rest, H0, Q => match (b.getD j 0).testBit i with
    | true => Q
    | false => ksame κ T fs0 (match rest with | [] => H0 | (_, X) :: _ => X) l (kback κ T fs0 b j l rest H0 Q)
def kpend (κ : Kn) (T : FuncId → Spec) (fs0 : List Nat) (b : Array Nat) (i : Nat) (X : AHeap) : List Lk → Prop → Prop
  | [], Q => Q
  | l :: ls, Q => match (b.getD i 0).testBit l.j with
    | true => kpend κ T fs0 b i X ls Q
    | false => ksame κ T fs0 X l (kpend κ T fs0 b i X ls Q)
def kmove (κ : Kn) (env : AEnv) (H : AHeap) (op : Op) (as_ : List An) (fs : List Nat) (k : AV → AHeap → List An → List Nat → Prop) : Prop :=
  match op with
  | .call cl => match cl.callee with
    | .builtin _ => kop κ env H false (.call cl) as_ fun v H' as' => k v H' as' fs
    | _ => match acallee κ.c H env cl, as_, fs with
      | some (.call f args, _), .vh x H' :: as', f0 :: fs' => match Nat.beq f f0 with
        | true => Pt κ f args H x H' ∧ k x H' as' fs'
        | false => False
      | _, _, _ => False
  | op => kop κ env H false op as_ fun v H' as' => k v H' as' fs
def kregX (κ : Kn) (T : FuncId → Spec) (fs0 : List Nat) (b : Array Nat) (ops : List Oper) (cm : List Nat) (H0 : AHeap) : List Oper → Nat → AEnv → AHeap → List (Nat × AHeap) → List Lk → List Nat → List An → (AEnv → AHeap → List Nat → Prop) → Prop
  | [], _, env, H, _, _, fs, _, k => k env H fs
  | o :: r, i, env, H, ms, ls, fs, as_, k => match awanted ops env o with
    | some false => match moveI ops cm i with
      | false => kregX κ T fs0 b ops cm H0 r (i + 1) (eput env o.dst (some .undef)) H ms ls fs as_ k
      | true => kpend κ T fs0 b i H ls (kregX κ T fs0 b ops cm H0 r (i + 1) (eput env o.dst (some .undef)) H ((i, H) :: ms) ls fs as_ k)
    | some true => match isP o.op with
      | true => kop κ env H false o.op as_ fun v _ as' => kregX κ T fs0 b ops cm H0 r (i + 1) (eput env o.dst (some v)) H ms ls fs as' k
      | false => match quiet o.op with
        | true => kop κ env H false o.op as_ fun v _ as' => kback κ T fs0 b i ⟨i, o, env, v, .v v, none⟩ ms H0 (kregX κ T fs0 b ops cm H0 r (i + 1) (eput env o.dst (some v)) H ms (⟨i, o, env, v, .v v, none⟩ :: ls) fs as' k)
        | false => match cm.contains i with
          | true => match o.op, as_ with
            | .call cl, an :: as' => kcalmX κ T fs0 env H cl an fun v an' ent => match ent, fs with
              | none, fs => kback κ T fs0 b i ⟨i, o, env, v, an', none⟩ ms H0 (kregX κ T fs0 b ops cm H0 r (i + 1) (eput env o.dst (some v)) H ms (⟨i, o, env, v, an', none⟩ :: ls) fs as' k)
              | some e, f0 :: fs' => match Nat.beq e.1 f0 with
                | true => kback κ T fs0 b i ⟨i, o, env, v, an', some e⟩ ms H0 (kregX κ T fs0 b ops cm H0 r (i + 1) (eput env o.dst (some v)) H ms (⟨i, o, env, v, an', some e⟩ :: ls) fs' as' k)
                | false => False
              | some _, [] => False
            | _, _ => False
          | false => kmove κ env H o.op as_ fs fun v H' as' fs' => kpend κ T fs0 b i H' ls (kregX κ T fs0 b ops cm H0 r (i + 1) (eput env o.dst (some v)) H' ((i, H') :: ms) ls fs' as' k)
    | none => False

def Knows (κ : Kn) (T : FuncId → Spec) (fs0 : List Nat) (call : Callee) (L : List EntM) (Lp : List Ent) : Prop :=
  (∀ e ∈ L, call e.1 e.2.1 e.2.2.1 = some (e.2.2.2.1, e.2.2.2.2)) ∧ (∀ e ∈ Lp, ∀ X, call e.1 e.2.1 X = some (e.2.2, X)) ∧ ∀ f args X r, fs0.contains f = false → callT κ T f args X = some r → call f args X = some r
theorem Knows.right {call : Callee} {L L' : List EntM} {Lp Lp' : List Ent} (h : Knows κ T fs0 call (L' ++ L) (Lp' ++ Lp)) : Knows κ T fs0 call L Lp :=
  ⟨fun e he => h.1 e (List.mem_append_right _ he), fun e he => h.2.1 e (List.mem_append_right _ he), h.2.2⟩
/-- a look that stands -/
def okL (ops : List Oper) (call : Callee) (l : Lk) : Prop := awanted ops l.env l.o = some true ∧ ∀ e, l.ent = some e → ∀ X, call e.1 e.2 X = some (l.v, X)
def St (κ : Kn) (ops : List Oper) (call : Callee) (l : Lk) (X : AHeap) : Prop := stepV κ.c call ops l.o l.env X = some (some l.v, X)
theorem stp_still {o : Op} {v : AV} {H1 : AHeap} (hq : quiet o = true) (hs : Stp κ false env H o v H1) : H1 = H ∧ aop κ.c env o H = some (.val v, H) := by
  rcases hs with e | ⟨rfl, e⟩ | ⟨e, _⟩
  · obtain ⟨rfl, _⟩ := quiet_same hq e
    exact ⟨rfl, e⟩
  · obtain ⟨_, _, e'⟩ := quiet_same hq e
    cases e'
  · cases e
theorem ksame_sound {ops : List Oper} {X : AHeap} {l : Lk} {Q : Prop} (h : ksame κ T fs0 X l Q) : Q ∧ ∀ call, (∀ f args X r, fs0.contains f = false → callT κ T f args X = some r → call f args X = some r) → okL ops call l → St κ ops call l X := by
  unfold ksame at h
  split at h
  · rename_i cl hop
    split at h
    · split at h
      · rename_i f args H1 hc
        obtain ⟨he, hq⟩ := h
        refine ⟨hq, fun call hT hok => ?_⟩
        have := acallee_heap hc
        subst this
        have h2 := hok.2 _ he H1
        simp only at h2
        simp only [St, stepV, hok.1, Option.bind_some, if_true, hop, aop, hc, h2]
      · exact h.elim
    · split at h
      · rename_i f args H1 hc
        split at h
        · exact h.elim
        · rename_i hf
          obtain ⟨he, hq⟩ := h
          refine ⟨hq, fun call hT hok => ?_⟩
          have := acallee_heap hc
          subst this
          have h2 := hT f args H1 _ hf he
          simp only [St, stepV, hok.1, Option.bind_some, if_true, hop, aop, hc, h2]
      · exact h.elim
    · obtain ⟨v, ⟨rfl, hq⟩, e⟩ := kbuilt_sound h
      exact ⟨hq, fun call hT hok => by simp only [St, stepV, hok.1, Option.bind_some, if_true, hop, e]⟩
  · split at h
    · rename_i hq
      obtain ⟨v, H1, as', hs, rfl, hQ⟩ := kop_sound h
      obtain ⟨_, e⟩ := stp_still hq hs
      exact ⟨hQ, fun call hT hok => by simp only [St, stepV, hok.1, Option.bind_some, if_true, e]⟩
    · exact h.elim
theorem kback_sound {ops : List Oper} {b : Array Nat} {j : Nat} {l : Lk} {H0 : AHeap} {Q : Prop} : ∀ {ms : List (Nat × AHeap)}, kback κ T fs0 b j l ms H0 Q → Q ∧ ∀ call, (∀ f args X r, fs0.contains f = false → callT κ T f args X = some r → call f args X = some r) → okL ops call l →
    (∀ pre p post, ms = pre ++ p :: post → pre ≠ [] → (∀ q ∈ pre, (b.getD j 0).testBit q.1 = false) → St κ ops call l p.2) ∧ (ms ≠ [] → (∀ q ∈ ms, (b.getD j 0).testBit q.1 = false) → St κ ops call l H0)
  | [], h => ⟨h, fun call hT hok => ⟨fun pre p post e => by simp at e, fun h => absurd rfl h⟩⟩
  | (i, Y) :: rest, h => by
    simp only [kback] at h
    split at h
    · rename_i hb
      refine ⟨h, fun call hT hok => ⟨fun pre p post e hn hq => ?_, fun _ hq => ?_⟩⟩
      · cases pre with
        | nil => exact absurd rfl hn
        | cons x pre =>
          have e := List.cons.inj e
          have := hq x (by simp)
          rw [← e.1] at this
          simp only at this
          rw [hb] at this; cases this
      · have := hq (i, Y) (by simp)
        simp only at this
        rw [hb] at this; cases this
    · rename_i hb
      obtain ⟨h1, h2⟩ := ksame_sound (ops := ops) h
      obtain ⟨h3, h4⟩ := kback_sound (ops := ops) h1
      refine ⟨h3, fun call hT hok => ⟨fun pre p post e hn hq => ?_, fun _ hq => ?_⟩⟩
      · cases pre with
        | nil => exact absurd rfl hn
        | cons x pre =>
          have e := (List.cons.inj e).2
          cases pre with
          | nil =>
            have h5 := h2 call hT hok
            rw [e] at h5
            exact h5
          | cons y pre => exact (h4 call hT hok).1 (y :: pre) p post e (by simp) fun q hq' => hq q (by simp at hq' ⊢; right; exact hq')
      · cases rest with
        | nil => exact h2 call hT hok
        | cons y rest => exact (h4 call hT hok).2 (by simp) fun q hq' => hq q (by simp at hq' ⊢; right; exact hq')
theorem kpend_sound {ops : List Oper} {b : Array Nat} {i : Nat} {X : AHeap} {Q : Prop} : ∀ {ls : List Lk}, kpend κ T fs0 b i X ls Q → Q ∧ ∀ call, (∀ f args X r, fs0.contains f = false → callT κ T f args X = some r → call f args X = some r) → ∀ l ∈ ls, okL ops call l → (b.getD i 0).testBit l.j = false → St κ ops call l X
  | [], h => ⟨h, fun call hT l hl => by cases hl⟩
  | l :: ls, h => by
    simp only [kpend] at h
    split at h
    · rename_i hb
      obtain ⟨h1, h2⟩ := kpend_sound (ops := ops) h
      refine ⟨h1, fun call hT l' hl' hok hb' => ?_⟩
      rcases List.mem_cons.1 hl' with rfl | hl'
      · rw [hb] at hb'; cases hb'
      · exact h2 call hT l' hl' hok hb'
    · rename_i hb
      obtain ⟨h1, h2⟩ := ksame_sound (ops := ops) h
      obtain ⟨h3, h4⟩ := kpend_sound (ops := ops) h1
      refine ⟨h3, fun call hT l' hl' hok hb' => ?_⟩
      rcases List.mem_cons.1 hl' with rfl | hl'
      · exact h2 call hT hok
      · exact h4 call hT l' hl' hok hb'

def hd0 (H0 : AHeap) : List (Nat × AHeap) → AHeap
  | [] => H0
  | (_, X) :: _ => X
/-- what a run comes to, for every callee that knows the calls -/
def Rx (κ : Kn) (T : FuncId → Spec) (fs0 : List Nat) (b : Array Nat) (ops : List Oper) (cm : List Nat) (H0 : AHeap) (r : List Oper) (i : Nat) (env : AEnv) (H : AHeap) (ms : List (Nat × AHeap)) (ls : List Lk) (fs : List Nat) (k : AEnv → AHeap → List Nat → Prop) : Prop :=
  ∃ (env' : AEnv) (H' : AHeap) (ks : List (Nat × AHeap)) (L : List EntM) (Lp : List Ent) (fs' FL : List Nat), k env' H' fs' ∧ Fr r env env' ∧ (∀ e ∈ L, Pt κ e.1 e.2.1 e.2.2.1 e.2.2.2.1 e.2.2.2.2) ∧ (∀ e ∈ Lp, ∀ X, Pt κ e.1 e.2.1 X e.2.2 X) ∧
    FL ++ fs' = fs ∧ FL.Perm (L.map (·.1) ++ Lp.map (·.1)) ∧ ks.map (·.1) = (List.range' i r.length).filter (moveI ops cm) ∧
    ∀ call, Knows κ T fs0 call L Lp →
      asteps κ.c call ops r env H = some (env', H') ∧
      (∀ p ∈ ks, ∃ e, asteps κ.c call ops (r.take (p.1 + 1 - i)) env H = some (e, p.2)) ∧
      (∀ l ∈ ls, okL ops call l → ∀ p ∈ ks, (b.getD p.1 0).testBit l.j = false → St κ ops call l p.2) ∧
      ∀ j, i ≤ j → j < i + r.length → lookI ops cm j = true → ∃ v env1, Fr (ops.drop j) env1 env' ∧
        ((∀ q ∈ ms ++ ks, (b.getD j 0).testBit q.1 = false) → stepV κ.c call ops (opsOf ops j) env1 H0 = some (v, H0)) ∧
        ∀ p ∈ ms ++ ks, (b.getD p.1 0).testBit j = false → (∀ q ∈ ms ++ ks, p.1 < q.1 → (b.getD j 0).testBit q.1 = false) → stepV κ.c call ops (opsOf ops j) env1 p.2 = some (v, p.2)
def KT (κ : Kn) (T : FuncId → Spec) (fs0 : List Nat) (call : Callee) : Prop := ∀ f args X r, fs0.contains f = false → callT κ T f args X = some r → call f args X = some r
/-- one step ahead of a run -/
theorem Rx.cons {b : Array Nat} {ops : List Oper} {cm : List Nat} {H0 : AHeap} {r : List Oper} {o : Oper} {i : Nat} {ms ms1 : List (Nat × AHeap)} {ls ls1 : List Lk} {fs fs1 : List Nat} {k : AEnv → AHeap → List Nat → Prop} {u : AV} {H1 : AHeap} {La : List EntM} {Lpa : List Ent} {FLa : List Nat}
    (hdr : ops.drop i = o :: r) (hH : H = hd0 H0 ms) (hms : ∀ p ∈ ms, p.1 < i) (hpw : ms.Pairwise (fun a b => b.1 < a.1))
    (hst : ∀ call, Knows κ T fs0 call La Lpa → stepV κ.c call ops o env H = some (some u, H1))
    (hm : (moveI ops cm i = true ∧ ms1 = (i, H1) :: ms) ∨ (moveI ops cm i = false ∧ ms1 = ms))
    (hpd : moveI ops cm i = true → ∀ call, KT κ T fs0 call → ∀ l ∈ ls, okL ops call l → (b.getD i 0).testBit l.j = false → St κ ops call l H1)
    (hls : ∀ l ∈ ls, l ∈ ls1)
    (hlk : lookI ops cm i = true → (∀ call X, stepV κ.c call ops o env X = some (some u, X)) ∨ ∃ l ∈ ls1, l.j = i ∧ l.o = o ∧ l.env = env ∧ l.v = u ∧ H1 = H ∧ (∀ call, Knows κ T fs0 call La Lpa → okL ops call l) ∧
      ∀ call, KT κ T fs0 call → okL ops call l → (∀ pre p post, ms = pre ++ p :: post → pre ≠ [] → (∀ q ∈ pre, (b.getD i 0).testBit q.1 = false) → St κ ops call l p.2) ∧ (ms ≠ [] → (∀ q ∈ ms, (b.getD i 0).testBit q.1 = false) → St κ ops call l H0))
    (hL : ∀ e ∈ La, Pt κ e.1 e.2.1 e.2.2.1 e.2.2.2.1 e.2.2.2.2) (hLp : ∀ e ∈ Lpa, ∀ X, Pt κ e.1 e.2.1 X e.2.2 X) (hfs : FLa ++ fs1 = fs) (hFL : FLa.Perm (La.map (·.1) ++ Lpa.map (·.1)))
    (h : Rx κ T fs0 b ops cm H0 r (i + 1) (eput env o.dst (some u)) H1 ms1 ls1 fs1 k) : Rx κ T fs0 b ops cm H0 (o :: r) i env H ms ls fs k := by
  obtain ⟨env', H', ks, L, Lp, fs', FL, h1, h2, h3, h4, h5, h6, h7, h8⟩ := h
  have ho : ops[i]? = some o := by
    have := congrArg (fun l => l[0]?) hdr
    simpa using this
  have hop : opsOf ops i = o := by simp [opsOf, List.getD_eq_getElem?_getD, ho]
  have hksi : ∀ p ∈ ks, i + 1 ≤ p.1 := by
    intro p hp
    have : p.1 ∈ (List.range' (i + 1) r.length).filter (moveI ops cm) := by rw [← h7]; exact List.mem_map.2 ⟨p, hp, rfl⟩
    have := (List.mem_range'_1.1 (List.mem_filter.1 this).1).1
    omega
  refine ⟨env', H', if moveI ops cm i then (i, H1) :: ks else ks, La ++ L, Lpa ++ Lp, fs', FLa ++ FL, h1, h2.cons, ?_, ?_, ?_, ?_, ?_, fun call hK => ?_⟩
  · intro e he
    rcases List.mem_append.1 he with he | he
    · exact hL e he
    · exact h3 e he
  · intro e he
    rcases List.mem_append.1 he with he | he
    · exact hLp e he
    · exact h4 e he
  · rw [List.append_assoc, h5, hfs]
  · rw [List.map_append, List.map_append]
    refine (hFL.append h6).trans ?_
    rw [List.append_assoc, List.append_assoc]
    refine List.Perm.append_left _ ?_
    rw [← List.append_assoc, ← List.append_assoc]
    exact List.Perm.append_right _ List.perm_append_comm
  · rw [List.length_cons, List.range'_succ, List.filter_cons]
    split
    · rw [List.map_cons, h7]
    · exact h7
  · have hKa : Knows κ T fs0 call La Lpa := ⟨fun e he => hK.1 e (List.mem_append_left _ he), fun e he => hK.2.1 e (List.mem_append_left _ he), hK.2.2⟩
    obtain ⟨g1, g2, g3, g4⟩ := h8 call hK.right
    have hstep : astep κ.c call ops o env H = some (eput env o.dst (some u), H1) := by rw [astep_stepV, hst call hKa]; rfl
    have hmk : ∀ p, p ∈ ms ++ (if moveI ops cm i then (i, H1) :: ks else ks) ↔ p ∈ ms1 ++ ks := by
      intro p
      rcases hm with ⟨hm, rfl⟩ | ⟨hm, rfl⟩
      · rw [hm, if_pos rfl]; simp only [List.mem_append, List.mem_cons]; constructor; (rintro (h' | h' | h') <;> simp [h']); (rintro ((h' | h') | h') <;> simp [h'])
      · rw [hm]; simp
    refine ⟨by simp only [asteps, hstep, Option.bind_some]; exact g1, fun p hp => ?_, fun l hl hok p hp hb => ?_, fun j hj1 hj2 hlj => ?_⟩
    · have key : ∀ p ∈ ks, ∃ e, asteps κ.c call ops ((o :: r).take (p.1 + 1 - i)) env H = some (e, p.2) := by
        intro p hp
        obtain ⟨e, he⟩ := g2 p hp
        have := hksi p hp
        refine ⟨e, ?_⟩
        rw [show p.1 + 1 - i = (p.1 + 1 - (i + 1)) + 1 by omega, List.take_succ_cons]
        simp only [asteps, hstep, Option.bind_some]
        exact he
      split at hp
      · rcases List.mem_cons.1 hp with rfl | hp
        · refine ⟨eput env o.dst (some u), ?_⟩
          rw [show i + 1 - i = 0 + 1 by omega, List.take_succ_cons]
          simp only [asteps, hstep, Option.bind_some, List.take_zero]
        · exact key p hp
      · exact key p hp
    · split at hp
      · rename_i hmi
        rcases List.mem_cons.1 hp with rfl | hp
        · exact hpd hmi call hK.2.2 l hl hok hb
        · exact g3 l (hls l hl) hok p hp hb
      · exact g3 l (hls l hl) hok p hp hb
    · by_cases hji : j = i
      · subst hji
        refine ⟨some u, env, by rw [hdr]; exact h2.cons, ?_⟩
        rw [hop]
        have hnm : moveI ops cm j = false := by
          simp only [lookI, Bool.and_eq_true] at hlj
          simp only [moveI, hlj.2, Bool.not_true]
        rw [hnm]
        simp only [Bool.false_eq_true, if_false]
        rcases hlk hlj with hun | ⟨l, hl1, rfl, rfl, rfl, rfl, rfl, hok, hbk⟩
        · exact ⟨fun _ => hun call H0, fun p _ _ _ => hun call p.2⟩
        · obtain ⟨b1, b2⟩ := hbk call hK.2.2 (hok call hKa)
          refine ⟨fun hq => ?_, fun p hp hb hq => ?_⟩
          · by_cases hn : ms = []
            · subst hn
              have := hst call hKa
              rw [hH] at this
              exact this
            · exact b2 hn fun q hq' => hq q (List.mem_append_left _ hq')
          · rcases List.mem_append.1 hp with hp | hp
            · obtain ⟨pre, post, e⟩ := List.append_of_mem hp
              by_cases hn : pre = []
              · subst hn
                have := hst call hKa
                rw [hH, e] at this
                exact this
              · refine b1 pre p post e hn fun q hq' => hq q (List.mem_append_left _ (by rw [e]; exact List.mem_append_left _ hq')) ?_
                rw [e] at hpw
                exact (List.pairwise_append.1 hpw).2.2 q hq' p (by simp)
            · exact g3 l hl1 (hok call hKa) p hp hb
      · obtain ⟨v, env1, c1, c2, c3⟩ := g4 j (by omega) (by simp at hj2; omega) hlj
        refine ⟨v, env1, c1, fun hq => c2 fun q hq' => hq q ((hmk q).2 hq'), fun p hp hb hq => c3 p ((hmk p).1 hp) hb fun q hq' hlt => hq q ((hmk q).2 hq') hlt⟩

theorem kregX_sound {b : Array Nat} {ops : List Oper} {cm : List Nat} {H0 : AHeap} {k : AEnv → AHeap → List Nat → Prop} : ∀ (r : List Oper) (i : Nat) {env : AEnv} {H : AHeap} {ms : List (Nat × AHeap)} {ls : List Lk} {fs : List Nat} {as_ : List An}, ops.drop i = r → H = hd0 H0 ms → (∀ p ∈ ms, p.1 < i) → ms.Pairwise (fun a b => b.1 < a.1) →
    kregX κ T fs0 b ops cm H0 r i env H ms ls fs as_ k → Rx κ T fs0 b ops cm H0 r i env H ms ls fs k
  | [], i, env, H, ms, ls, fs, as_, hdr, hH, hms, hpw, h => ⟨env, H, [], [], [], fs, [], h, Fr.nil, by simp, by simp, rfl, .nil, rfl, fun call _ => ⟨rfl, by simp, by simp, fun j h1 h2 => by simp at h2; omega⟩⟩
  | o :: r, i, env, H, ms, ls, fs, as_, hdr, hH, hms, hpw, h => by
    have ho : ops[i]? = some o := by
      have := congrArg (fun l => l[0]?) hdr
      simpa using this
    have hdr' : ops.drop (i + 1) = r := by rw [← List.drop_drop, hdr]; rfl
    have hop : opsOf ops i = o := by simp [opsOf, List.getD_eq_getElem?_getD, ho]
    have hms' : ∀ p ∈ ms, p.1 < i + 1 := fun p hp => by have := hms p hp; omega
    have hmc : ∀ X : AHeap, (∀ p ∈ (i, X) :: ms, p.1 < i + 1) ∧ ((i, X) :: ms).Pairwise (fun a b => b.1 < a.1) := fun X =>
      ⟨fun p hp => by
        rcases List.mem_cons.1 hp with rfl | hp
        · simp
        · exact hms' p hp, List.pairwise_cons.2 ⟨fun p hp => hms p hp, hpw⟩⟩
    simp only [kregX] at h
    split at h
    · rename_i hw
      have hun : ∀ call X, stepV κ.c call ops o env X = some (some .undef, X) := fun call X => by simp only [stepV, hw, Option.bind_some, Bool.false_eq_true, if_false]
      split at h
      · rename_i hm
        exact Rx.cons (La := []) (Lpa := []) (FLa := []) hdr hH hms hpw (fun call _ => hun call H) (.inr ⟨hm, rfl⟩) (fun hm' => by rw [hm] at hm'; cases hm') (fun l hl => hl) (fun _ => .inl hun) (by simp) (by simp) rfl .nil
          (kregX_sound r (i + 1) hdr' hH hms' hpw h)
      · rename_i hm
        obtain ⟨h1, h2⟩ := kpend_sound (ops := ops) h
        exact Rx.cons (La := []) (Lpa := []) (FLa := []) hdr hH hms hpw (fun call _ => hun call H) (.inl ⟨hm, rfl⟩) (fun _ call hT l hl hok hb => h2 call hT l hl hok hb) (fun l hl => hl) (fun _ => .inl hun) (by simp) (by simp) rfl .nil
          (kregX_sound r (i + 1) hdr' rfl (hmc H).1 (hmc H).2 h1)
    · rename_i hw
      have val : ∀ {call : Callee} {v : AV} {H1 : AHeap}, Stp κ false env H o.op v H1 → stepV κ.c call ops o env H = some (some v, H1) := by
        intro call v H1 hs
        rcases hs with e | ⟨rfl, e⟩ | ⟨e, _⟩
        · simp only [stepV, hw, Option.bind_some, if_true, e]
        · simp only [stepV, hw, Option.bind_some, if_true, e]
        · cases e
      split at h
      · -- a plain value
        rename_i hp
        obtain ⟨v, H1, as', hs, h⟩ := kop_sound h
        have hq := isP_quiet hp
        obtain ⟨rfl, e⟩ := stp_still hq hs
        have hmi : moveI ops cm i = false := by simp [moveI, hop, hq]
        have hli : lookI ops cm i = false := by simp [lookI, hop, hp]
        exact Rx.cons (La := []) (Lpa := []) (FLa := []) hdr hH hms hpw (fun call _ => val hs) (.inr ⟨hmi, rfl⟩) (fun hm' => by rw [hmi] at hm'; cases hm') (fun l hl => hl) (fun hl => by rw [hli] at hl; cases hl) (by simp) (by simp) rfl .nil
          (kregX_sound r (i + 1) hdr' hH hms' hpw h)
      · rename_i hp
        split at h
        · -- a look
          rename_i hq
          obtain ⟨v, H1, as', hs, h⟩ := kop_sound h
          obtain ⟨rfl, e⟩ := stp_still hq hs
          obtain ⟨h1, h2⟩ := kback_sound (ops := ops) h
          have hmi : moveI ops cm i = false := by simp [moveI, hop, hq]
          exact Rx.cons (La := []) (Lpa := []) (FLa := []) hdr hH hms hpw (fun call _ => val hs) (.inr ⟨hmi, rfl⟩) (fun hm' => by rw [hmi] at hm'; cases hm') (fun l hl => List.mem_cons_of_mem _ hl)
            (fun _ => .inr ⟨_, List.mem_cons_self .., rfl, rfl, rfl, rfl, rfl, fun call _ => ⟨hw, fun e he => by cases he⟩, fun call hT hok => h2 call hT hok⟩) (by simp) (by simp) rfl .nil
            (kregX_sound r (i + 1) hdr' hH hms' hpw h1)
        · rename_i hq
          split at h
          · -- a call that leaves the heap
            rename_i hcm
            have hmi : moveI ops cm i = false := by simp only [moveI, hcm, Bool.or_true, Bool.not_true]
            split at h
            · rename_i cl an as' hcl
              -- by the kind of answer
              unfold kcalmX at h
              split at h
              · -- a function that tells the same at every heap
                rename_i x
                split at h
                · rename_i f args H1 hc
                  have := acallee_heap hc
                  subst this
                  obtain ⟨hpt, h⟩ := h
                  split at h
                  · rename_i e; cases e
                  · rename_i e f0 fs' he
                    split at h
                    · rename_i hb
                      cases he
                      have hb := Nat.eq_of_beq_eq_true hb
                      simp only at hb
                      subst hb
                      obtain ⟨h1, h2⟩ := kback_sound (ops := ops) h
                      have hk1 : ∀ call, Knows κ T fs0 call [] [(f, args, x)] → ∀ X, call f args X = some (x, X) := fun call hK X => hK.2.1 (f, args, x) (by simp) X
                      refine Rx.cons (La := []) (Lpa := [(f, args, x)]) (FLa := [f]) (H1 := H1) (u := x) hdr hH hms hpw (fun call hK => ?_) (.inr ⟨hmi, rfl⟩) (fun hm' => by rw [hmi] at hm'; cases hm') (fun l hl => List.mem_cons_of_mem _ hl)
                        (fun _ => .inr ⟨_, List.mem_cons_self .., rfl, rfl, rfl, rfl, rfl, fun call hK => ⟨hw, fun e he X => ?_⟩, fun call hT hok => h2 call hT hok⟩) (by simp) (fun e he X => ?_) rfl (.refl _)
                        (kregX_sound r (i + 1) hdr' hH hms' hpw h1)
                      · have := hk1 call hK H1
                        simp only [stepV, hw, Option.bind_some, if_true, hcl, aop, hc, this]
                      · cases he; exact hk1 call hK X
                      · have he := List.mem_singleton.1 he
                        subst he; exact hpt X
                    · exact h.elim
                  · exact h.elim
                · exact h.elim
              · split at h
                · rename_i x X _ f args H1 hc
                  split at h
                  · exact h.elim
                  · rename_i hf
                    have := acallee_heap hc
                    subst this
                    obtain ⟨hT0, h⟩ := h
                    simp only at h
                    obtain ⟨h1, h2⟩ := kback_sound (ops := ops) h
                    refine Rx.cons (La := []) (Lpa := []) (FLa := []) (H1 := H1) (u := x) hdr hH hms hpw (fun call hK => ?_) (.inr ⟨hmi, rfl⟩) (fun hm' => by rw [hmi] at hm'; cases hm') (fun l hl => List.mem_cons_of_mem _ hl)
                      (fun _ => .inr ⟨_, List.mem_cons_self .., rfl, rfl, rfl, rfl, rfl, fun call hK => ⟨hw, fun e he X => by cases he⟩, fun call hT hok => h2 call hT hok⟩) (by simp) (by simp) rfl .nil
                      (kregX_sound r (i + 1) hdr' hH hms' hpw h1)
                    have := hK.2.2 f args H1 _ hf hT0
                    simp only [stepV, hw, Option.bind_some, if_true, hcl, aop, hc, this]
                · exact h.elim
              · obtain ⟨v, h, e⟩ := kbuilt_sound h
                simp only at h
                obtain ⟨h1, h2⟩ := kback_sound (ops := ops) h
                exact Rx.cons (La := []) (Lpa := []) (FLa := []) (H1 := H) (u := v) hdr hH hms hpw (fun call hK => by simp only [stepV, hw, Option.bind_some, if_true, hcl, e]) (.inr ⟨hmi, rfl⟩) (fun hm' => by rw [hmi] at hm'; cases hm') (fun l hl => List.mem_cons_of_mem _ hl)
                  (fun _ => .inr ⟨_, List.mem_cons_self .., rfl, rfl, rfl, rfl, rfl, fun call hK => ⟨hw, fun e he X => by cases he⟩, fun call hT hok => h2 call hT hok⟩) (by simp) (by simp) rfl .nil
                  (kregX_sound r (i + 1) hdr' hH hms' hpw h1)
            · exact h.elim
          · -- one that moves
            rename_i hcm
            have hmi : moveI ops cm i = true := by simp only [moveI, hop, hq, hcm, Bool.or_self, Bool.not_false]
            have hli : lookI ops cm i = false := by simp only [lookI, hop, hq, hcm, Bool.or_self, Bool.and_false]
            have one : ∀ {as_ : List An} {fs1 : List Nat}, (kop κ env H false o.op as_ fun v H' as' => kpend κ T fs0 b i H' ls (kregX κ T fs0 b ops cm H0 r (i + 1) (eput env o.dst (some v)) H' ((i, H') :: ms) ls fs as' k)) → Rx κ T fs0 b ops cm H0 (o :: r) i env H ms ls fs k := by
              intro as_ fs1 h
              obtain ⟨v, H1, as', hs, h⟩ := kop_sound h
              obtain ⟨h1, h2⟩ := kpend_sound (ops := ops) h
              exact Rx.cons (La := []) (Lpa := []) (FLa := []) hdr hH hms hpw (fun call _ => val hs) (.inl ⟨hmi, rfl⟩) (fun _ call hT l hl hok hb => h2 call hT l hl hok hb) (fun l hl => hl) (fun hl => by rw [hli] at hl; cases hl) (by simp) (by simp) rfl .nil
                (kregX_sound r (i + 1) hdr' rfl (hmc H1).1 (hmc H1).2 h1)
            unfold kmove at h
            split at h
            · rename_i cl hcl
              split at h
              · rw [hcl] at one
                exact one (fs1 := []) h
              · split at h
                · rename_i f args H1 x H' as' f0 fs' hc
                  split at h
                  · rename_i hb
                    have hb := Nat.eq_of_beq_eq_true hb
                    subst hb
                    have := acallee_heap hc
                    subst this
                    obtain ⟨hpt, h⟩ := h
                    obtain ⟨h1, h2⟩ := kpend_sound (ops := ops) h
                    refine Rx.cons (La := [(f, args, H1, x, H')]) (Lpa := []) (FLa := [f]) (H1 := H') (u := x) hdr hH hms hpw (fun call hK => ?_) (.inl ⟨hmi, rfl⟩) (fun _ call hT l hl hok hb => h2 call hT l hl hok hb) (fun l hl => hl) (fun hl => by rw [hli] at hl; cases hl) (fun e he => ?_) (by simp) rfl (.refl _)
                      (kregX_sound r (i + 1) hdr' rfl (hmc H').1 (hmc H').2 h1)
                    · have := hK.1 (f, args, H1, x, H') (by simp)
                      simp only at this
                      simp only [stepV, hw, Option.bind_some, if_true, hcl, aop, hc, this]
                    · have he := List.mem_singleton.1 he
                      subst he; exact hpt
                  · exact h.elim
                · exact h.elim
            · exact one (fs1 := []) h
    · exact h.elim

def lookL (ops : List Oper) (cm : List Nat) : List Nat := (List.range ops.length).filter (lookI ops cm)
def moveL (ops : List Oper) (cm : List Nat) : List Nat := (List.range ops.length).filter (moveI ops cm)
def kgoX (κ : Kn) (T : FuncId → Spec) (ops : List Oper) (n : Nat) (l new : List (Nat × AV)) (H H' : AHeap) (fs cm : List Nat) (as_ : List An) : Prop :=
  match rowOk ops (lookL ops cm) (moveL ops cm) && (Nat.ble n 524288 && decide fs.Nodup) with
  | true => kregX κ T fs (Region.before ops.toArray) ops cm H ops 0 (E n l) H [] [] fs as_ fun env1 H1 fs1 => (keysOk new l ops && fs1.isEmpty, new.map (fun p => eget env1 p.1), H1) = (true, new.map (fun p => some p.2), H')
  | false => False
variable {new : List (Nat × AV)} {H' : AHeap} {P : Prop}
def Fx.z {p : Prop} (h : p) (r : Fx new H' P) : Fx new H' (p ∧ P) := ⟨r.ans, h, r.pf⟩
/-- a call that leaves each heap as it is -/
def Fx.g {κ : Kn} {f : FuncId} {args : List AV} {x : AV} (h : ∀ X, Pt κ f args X x X) (r : Fx new H' P) : Fx new H' ((∀ X, Pt κ f args X x X) ∧ P) := ⟨.f x :: r.ans, h, r.pf⟩
theorem D.kx {id n : Nat} {l : List (Nat × AV)} {ops : Array Oper} (T : FuncId → Spec) (fs cm : List Nat) (F : Fx new H' P) (e : kgoX κ T ops.toList n l new H H' fs cm F.ans = P) (k : K .normal (E n (new ++ l)) H') : D κ (.region id ops true) (E n l) H K := by
  have h : kgoX κ T ops.toList n l new H H' fs cm F.ans := by rw [e]; exact F.pf
  unfold kgoX at h
  split at h
  · rename_i hb
    rw [Bool.and_eq_true, Bool.and_eq_true (Nat.ble _ _)] at hb
    obtain ⟨hrow, hn, hd⟩ := hb
    have hn := Nat.le_of_ble_eq_true hn
    have hd := of_decide_eq_true hd
    obtain ⟨env1, H1, ks, L, Lp, fs1, FL, h1, hf, hL, hLp, hfl, hpm, hks, ho⟩ := kregX_sound (H0 := H) ops.toList 0 rfl rfl (by simp) .nil h
    simp only [Prod.mk.injEq, Bool.and_eq_true] at h1
    obtain ⟨⟨hk, hemp⟩, hv, rfl⟩ := h1
    have hle := kept hn hf hk hv
    have hemp : fs1 = [] := by cases fs1 with
      | nil => rfl
      | cons a l => simp at hemp
    subst hemp
    rw [List.append_nil] at hfl
    subst hfl
    have hnd : (L.map (·.1) ++ Lp.map (·.1)).Nodup := hpm.nodup_iff.1 hd
    have hmem : ∀ f, FL.contains f = false → (∀ e ∈ L, e.1 ≠ f) ∧ ∀ e ∈ Lp, e.1 ≠ f := by
      intro f hf
      have hnf : f ∉ FL := by simpa using hf
      refine ⟨fun e he h => hnf (hpm.mem_iff.2 (List.mem_append_left _ (List.mem_map.2 ⟨e, he, h⟩))), fun e he h => hnf (hpm.mem_iff.2 (List.mem_append_right _ (List.mem_map.2 ⟨e, he, h⟩)))⟩
    obtain ⟨nd1, nd2, nd3⟩ := List.nodup_append.1 hnd
    classical
    obtain ⟨call, hcall⟩ : ∃ call : Callee, call = fun f args X => match L.find? (fun e => Nat.beq e.1 f) with
      | some e => if e.2.1 = args ∧ e.2.2.1 = X then some (e.2.2.2.1, e.2.2.2.2) else none
      | none => match Lp.find? (fun e => Nat.beq e.1 f) with
        | some e => if e.2.1 = args then some (e.2.2, X) else none
        | none => callT κ T f args X := ⟨_, rfl⟩
    have hc : CallOK κ.c κ.base κ.w0 call := by
      intro f args X v H2 e
      rw [hcall] at e
      dsimp only at e
      split at e
      · rename_i e1 he
        have hb := List.find?_some he
        have hm := List.mem_of_find?_eq_some he
        replace hb : Nat.beq _ _ = true := hb
        have hb := Nat.eq_of_beq_eq_true hb
        split at e
        · rename_i hh
          obtain ⟨rfl, rfl⟩ := hh
          cases e
          rw [← hb]
          exact hL e1 hm
        · cases e
      · split at e
        · rename_i e1 he
          have hb := List.find?_some he
          have hm := List.mem_of_find?_eq_some he
          replace hb : Nat.beq _ _ = true := hb
          have hb := Nat.eq_of_beq_eq_true hb
          split at e
          · rename_i hh
            subst hh
            cases e
            rw [← hb]
            exact hLp e1 hm X
          · cases e
        · exact callT_ok T _ _ _ _ _ e
    have hK : Knows κ T FL call L Lp := by
      refine ⟨fun e he => ?_, fun e he X => ?_, fun f args X r hf hr => ?_⟩
      · have : L.find? (fun x => Nat.beq x.1 e.1) = some e := by
          cases hq : L.find? (fun x => Nat.beq x.1 e.1) with
          | none => exact absurd (List.find?_eq_none.1 hq e he) (by simp)
          | some e2 =>
            have hb := List.find?_some hq
            replace hb : Nat.beq _ _ = true := hb
            have hb := Nat.eq_of_beq_eq_true hb
            obtain ⟨i, hi, rfl⟩ := List.getElem_of_mem he
            obtain ⟨j, hj, rfl⟩ := List.getElem_of_mem (List.mem_of_find?_eq_some hq)
            have := (List.getElem_inj (i := j) (j := i) (h₀ := by simpa using hj) (h₁ := by simpa using hi) nd1).1 (by simpa using hb)
            subst this; rfl
        rw [hcall]
        simp only [this, and_self, if_true]
      · have hn1 : L.find? (fun x => Nat.beq x.1 e.1) = none := by
          rw [List.find?_eq_none]
          intro x hx
          simp only [Bool.not_eq_true]
          cases hq : Nat.beq x.1 e.1 with
          | false => rfl
          | true => exact absurd (Nat.eq_of_beq_eq_true hq) (nd3 x.1 (List.mem_map.2 ⟨x, hx, rfl⟩) e.1 (List.mem_map.2 ⟨e, he, rfl⟩))
        have : Lp.find? (fun x => Nat.beq x.1 e.1) = some e := by
          cases hq : Lp.find? (fun x => Nat.beq x.1 e.1) with
          | none => exact absurd (List.find?_eq_none.1 hq e he) (by simp)
          | some e2 =>
            have hb := List.find?_some hq
            replace hb : Nat.beq _ _ = true := hb
            have hb := Nat.eq_of_beq_eq_true hb
            obtain ⟨i, hi, rfl⟩ := List.getElem_of_mem he
            obtain ⟨j, hj, rfl⟩ := List.getElem_of_mem (List.mem_of_find?_eq_some hq)
            have := (List.getElem_inj (i := j) (j := i) (h₀ := by simpa using hj) (h₁ := by simpa using hi) nd2).1 (by simpa using hb)
            subst this; rfl
        rw [hcall]
        simp only [hn1, this, if_true]
      · obtain ⟨m1, m2⟩ := hmem f hf
        have hn1 : L.find? (fun x => Nat.beq x.1 f) = none := by
          rw [List.find?_eq_none]
          intro x hx
          simp only [Bool.not_eq_true]
          cases hq : Nat.beq x.1 f with
          | false => rfl
          | true => exact absurd (Nat.eq_of_beq_eq_true hq) (m1 x hx)
        have hn2 : Lp.find? (fun x => Nat.beq x.1 f) = none := by
          rw [List.find?_eq_none]
          intro x hx
          simp only [Bool.not_eq_true]
          cases hq : Nat.beq x.1 f with
          | false => rfl
          | true => exact absurd (Nat.eq_of_beq_eq_true hq) (m2 x hx)
        rw [hcall]
        simp only [hn1, hn2]
        exact hr
    obtain ⟨g1, g2, _, g4⟩ := ho call hK
    rw [← List.range_eq_range'] at hks
    have hfix : ∀ j ∈ lookL ops.toList cm, fixJ ops.toList j = true := by
      simp only [rowOk, Bool.and_eq_true, List.all_eq_true] at hrow
      exact hrow.2.2.1
    obtain ⟨e', env2, H2, hk2, hw2⟩ := D.rowG (κ := κ) (id := id) (K := fun e env2 H2 => e = .normal ∧ env2 = env1 ∧ H2 = H1) hc (lookL ops.toList cm) ks (by rw [hks]; exact hrow) (fun p hp => by
        have hm : p.1 ∈ (List.range ops.toList.length).filter (moveI ops.toList cm) := by rw [← hks]; exact List.mem_map.2 ⟨p, hp, rfl⟩
        obtain ⟨hm1, hm2⟩ := List.mem_filter.1 hm
        refine ⟨List.mem_range.1 hm1, ?_, fun hl => ?_⟩
        · cases hq : isP (opsOf ops.toList p.1).op with
          | false => rfl
          | true => simp [moveI, isP_quiet hq] at hm2
        · have hl := (List.mem_filter.1 hl).2
          simp only [lookI, Bool.and_eq_true] at hl
          simp only [moveI, hl.2, Bool.not_true, Bool.false_eq_true] at hm2) g1 (fun p hp => by have := g2 p hp; simpa using this) (fun j hj => by
        obtain ⟨hj1, hj2⟩ := List.mem_filter.1 hj
        have hj1 := List.mem_range.1 hj1
        obtain ⟨v, env2, hfr, c1, c2⟩ := g4 j (by omega) (by omega) hj2
        have hr : ∀ a ∈ (opsOf ops.toList j).looksAt ops.toList.toArray, eget env1 a = eget env2 a := by
          intro a ha
          refine hfr.2 a fun o ho hd => ?_
          obtain ⟨m, hm, rfl⟩ := List.getElem_of_mem ho
          rw [List.getElem_drop] at hd
          rw [List.length_drop] at hm
          have := List.all_eq_true.1 (List.all_eq_true.1 (hfix j hj) a ha) (j + m) (List.mem_range.2 (by omega))
          rw [Bool.or_eq_true] at this
          rcases this with h' | h'
          · rw [Nat.blt_eq] at h'; omega
          · rw [opsOf, List.getD_eq_getElem?_getD, List.getElem?_eq_getElem (by omega)] at h'
            simp only [Option.getD_some] at h'
            rw [hd] at h'
            simp at h'
        have hsame : ∀ X, stepV κ.c call ops.toList (opsOf ops.toList j) env1 X = stepV κ.c call ops.toList (opsOf ops.toList j) env2 X := fun X => by
          simp only [stepV, awanted_reads hr, aop_congr (aval_reads hr)]
        refine ⟨v, fun hm => ?_, fun p hp hm => ?_⟩
        · rw [hsame]
          exact c1 fun q hq => hm q.1 (List.mem_map.2 ⟨q, by simpa using hq, rfl⟩)
        · rw [hsame]
          exact c2 p (by simpa using hp) hm.1 fun q hq hlt => hm.2 q.1 (List.mem_map.2 ⟨q, by simpa using hq, rfl⟩) hlt) ⟨rfl, rfl, rfl⟩
    obtain ⟨rfl, rfl, rfl⟩ := hk2
    refine ⟨.normal, _, _, k, fun ρ w a hr hfr hen => wp_mono (hw2 ρ w a hr hfr hen) ?_⟩
    rintro x a' w' ⟨hx, hd, ρ', hp, he'⟩
    exact ⟨hx, hd, ρ', hp, he'.less hle⟩
  · exact h.elim
theorem D.kxs {id n : Nat} {l : List (Nat × AV)} {ops : Array Oper} {b : Code} (T : FuncId → Spec) (fs cm : List Nat) (F : Fx new H' P) (e : kgoX κ T ops.toList n l new H H' fs cm F.ans = P) (k : D κ b (E n (new ++ l)) H' K) : D κ (.region id ops true) (E n l) H (Ks κ b K) := D.kx T fs cm F e k
end Go.AM
