/- The structs that come in as arguments, opened. -/
import Derived.Test.YtiljdmlganploaaPBoundsMorex0
import Derived.Test.YtiljdmlganploaaOpens
import Derived.KernelRfl
namespace Go.Proofs.Ytiljdmlganploaa.PBoundsMore
open Go.RowKit Go.Proofs.YtiljdmlganploaaW.PrintWords Go.Proofs.YtiljdmlganploaaW.PrintLast Go.Proofs.YtiljdmlganploaaW.PrintMore Go.ChangeShapes Go.WideShapes Go.Deep
set_option linter.unusedVariables false
section
variable {H : Type} {enc : TypeId × Value → H} {w : World} {base : Nat} {spare : Nat → Bool} {held : Bool}
def ok25 (x : S25) : Prop := (fun n => (Lit.int .i64 n).wf = true) x.f0 ∧ (fun n => (Lit.int .i64 n).wf = true) x.f1 ∧ (fun n => (Lit.int .i64 n).wf = true) x.f2 ∧ (fun _ => True) x.f3 ∧ (fun _ => True) x.f4 ∧ (fun _ => True) x.f5 ∧ (fun _ => True) x.f6 ∧ (fun n => (Lit.int .i64 n).wf = true) x.f7 ∧ (fun n => (Lit.int .i64 n).wf = true) x.f8 ∧ (fun _ => True) x.f9 ∧ (fun n => (Lit.int .i64 n).wf = true) x.f10
theorem opens25 (hspare : ∀ k, spare k = true) : Opens enc Try.prog w base spare held k25 ok25 25 := by
  intro fuel cs x h
  obtain ⟨ys, n', rfl, rfl, hl, hyl, hf⟩ := DataW.trod_struct Try.underlying25 h
  have hl' : cs.length = 11 := hl.trans (by kernel_rfl)
  have hyl' : ys.length = 11 := hyl
  match cs, hl' with
  | [c0, c1, c2, c3, c4, c5, c6, c7, c8, c9, c10], _ =>
    have r0 : DataW.trod enc Try.prog w base spare held n' 3 ((([c0, c1, c2, c3, c4, c5, c6, c7, c8, c9, c10] : List Value).drop 0).take (Try.prog.cellsOf 3)) = some _ := (hf 0 _ rfl).trans (List.getElem?_eq_getElem (show 0 < ys.length by omega))
    rw [show Try.prog.cellsOf 3 = 1 by kernel_rfl] at r0
    obtain ⟨a0, e0, o0⟩ := (opens_int Try.underlying3) _ _ _ r0
    have r1 : DataW.trod enc Try.prog w base spare held n' 3 ((([c0, c1, c2, c3, c4, c5, c6, c7, c8, c9, c10] : List Value).drop 1).take (Try.prog.cellsOf 3)) = some _ := (hf 1 _ rfl).trans (List.getElem?_eq_getElem (show 1 < ys.length by omega))
    rw [show Try.prog.cellsOf 3 = 1 by kernel_rfl] at r1
    obtain ⟨a1, e1, o1⟩ := (opens_int Try.underlying3) _ _ _ r1
    have r2 : DataW.trod enc Try.prog w base spare held n' 3 ((([c0, c1, c2, c3, c4, c5, c6, c7, c8, c9, c10] : List Value).drop 2).take (Try.prog.cellsOf 3)) = some _ := (hf 2 _ rfl).trans (List.getElem?_eq_getElem (show 2 < ys.length by omega))
    rw [show Try.prog.cellsOf 3 = 1 by kernel_rfl] at r2
    obtain ⟨a2, e2, o2⟩ := (opens_int Try.underlying3) _ _ _ r2
    have r3 : DataW.trod enc Try.prog w base spare held n' 4 ((([c0, c1, c2, c3, c4, c5, c6, c7, c8, c9, c10] : List Value).drop 3).take (Try.prog.cellsOf 4)) = some _ := (hf 3 _ rfl).trans (List.getElem?_eq_getElem (show 3 < ys.length by omega))
    rw [show Try.prog.cellsOf 4 = 1 by kernel_rfl] at r3
    obtain ⟨a3, e3, o3⟩ := (opens_bool Try.underlying4) _ _ _ r3
    have r4 : DataW.trod enc Try.prog w base spare held n' 4 ((([c0, c1, c2, c3, c4, c5, c6, c7, c8, c9, c10] : List Value).drop 4).take (Try.prog.cellsOf 4)) = some _ := (hf 4 _ rfl).trans (List.getElem?_eq_getElem (show 4 < ys.length by omega))
    rw [show Try.prog.cellsOf 4 = 1 by kernel_rfl] at r4
    obtain ⟨a4, e4, o4⟩ := (opens_bool Try.underlying4) _ _ _ r4
    have r5 : DataW.trod enc Try.prog w base spare held n' 4 ((([c0, c1, c2, c3, c4, c5, c6, c7, c8, c9, c10] : List Value).drop 5).take (Try.prog.cellsOf 4)) = some _ := (hf 5 _ rfl).trans (List.getElem?_eq_getElem (show 5 < ys.length by omega))
    rw [show Try.prog.cellsOf 4 = 1 by kernel_rfl] at r5
    obtain ⟨a5, e5, o5⟩ := (opens_bool Try.underlying4) _ _ _ r5
    have r6 : DataW.trod enc Try.prog w base spare held n' 4 ((([c0, c1, c2, c3, c4, c5, c6, c7, c8, c9, c10] : List Value).drop 6).take (Try.prog.cellsOf 4)) = some _ := (hf 6 _ rfl).trans (List.getElem?_eq_getElem (show 6 < ys.length by omega))
    rw [show Try.prog.cellsOf 4 = 1 by kernel_rfl] at r6
    obtain ⟨a6, e6, o6⟩ := (opens_bool Try.underlying4) _ _ _ r6
    have r7 : DataW.trod enc Try.prog w base spare held n' 3 ((([c0, c1, c2, c3, c4, c5, c6, c7, c8, c9, c10] : List Value).drop 7).take (Try.prog.cellsOf 3)) = some _ := (hf 7 _ rfl).trans (List.getElem?_eq_getElem (show 7 < ys.length by omega))
    rw [show Try.prog.cellsOf 3 = 1 by kernel_rfl] at r7
    obtain ⟨a7, e7, o7⟩ := (opens_int Try.underlying3) _ _ _ r7
    have r8 : DataW.trod enc Try.prog w base spare held n' 3 ((([c0, c1, c2, c3, c4, c5, c6, c7, c8, c9, c10] : List Value).drop 8).take (Try.prog.cellsOf 3)) = some _ := (hf 8 _ rfl).trans (List.getElem?_eq_getElem (show 8 < ys.length by omega))
    rw [show Try.prog.cellsOf 3 = 1 by kernel_rfl] at r8
    obtain ⟨a8, e8, o8⟩ := (opens_int Try.underlying3) _ _ _ r8
    have r9 : DataW.trod enc Try.prog w base spare held n' 4 ((([c0, c1, c2, c3, c4, c5, c6, c7, c8, c9, c10] : List Value).drop 9).take (Try.prog.cellsOf 4)) = some _ := (hf 9 _ rfl).trans (List.getElem?_eq_getElem (show 9 < ys.length by omega))
    rw [show Try.prog.cellsOf 4 = 1 by kernel_rfl] at r9
    obtain ⟨a9, e9, o9⟩ := (opens_bool Try.underlying4) _ _ _ r9
    have r10 : DataW.trod enc Try.prog w base spare held n' 3 ((([c0, c1, c2, c3, c4, c5, c6, c7, c8, c9, c10] : List Value).drop 10).take (Try.prog.cellsOf 3)) = some _ := (hf 10 _ rfl).trans (List.getElem?_eq_getElem (show 10 < ys.length by omega))
    rw [show Try.prog.cellsOf 3 = 1 by kernel_rfl] at r10
    obtain ⟨a10, e10, o10⟩ := (opens_int Try.underlying3) _ _ _ r10
    exact ⟨⟨a0, a1, a2, a3, a4, a5, a6, a7, a8, a9, a10⟩, ⟨[c0], [c1, c2, c3, c4, c5, c6, c7, c8, c9, c10], rfl, e0, ⟨[c1], [c2, c3, c4, c5, c6, c7, c8, c9, c10], rfl, e1, ⟨[c2], [c3, c4, c5, c6, c7, c8, c9, c10], rfl, e2, ⟨[c3], [c4, c5, c6, c7, c8, c9, c10], rfl, e3, ⟨[c4], [c5, c6, c7, c8, c9, c10], rfl, e4, ⟨[c5], [c6, c7, c8, c9, c10], rfl, e5, ⟨[c6], [c7, c8, c9, c10], rfl, e6, ⟨[c7], [c8, c9, c10], rfl, e7, ⟨[c8], [c9, c10], rfl, e8, ⟨[c9], [c10], rfl, e9, e10⟩⟩⟩⟩⟩⟩⟩⟩⟩⟩, ⟨o0, o1, o2, o3, o4, o5, o6, o7, o8, o9, o10⟩⟩
end
end Go.Proofs.Ytiljdmlganploaa.PBoundsMore
