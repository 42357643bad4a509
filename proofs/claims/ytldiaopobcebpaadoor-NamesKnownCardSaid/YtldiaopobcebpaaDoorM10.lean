/- Texts of the proof in one file (own work): Os, Ot, Ou. -/
import Derived.Test.YtldiaopobcebpaaDoorOr
import Derived.Test.YtldiaopobcebpaaDoorM5
/- the parts of names that the machine does not run, as functions on its heaps (own work). -/
namespace Go.Proofs.YtldiaopobcebpaaDoor.sy
open Go.AM Go.RowKit
set_option linter.unusedSimpArgs false
set_option linter.unusedVariables false
set_option maxRecDepth 100000
set_option maxHeartbeats 8000000
variable {base : Nat} {w0 : World} {H : AHeap}
def rowN (H : AHeap) (n : Nat) : Option (List AV) := match hat H n with
  | some (.row t e cs) => match Nat.beq t 54 && Nat.beq e 8 with
    | true => some cs
    | false => none
  | _ => none
theorem rowN_some {H : AHeap} {n : Nat} {cs : List AV} (h : rowN H n = some cs) : hat H n = some (.row 54 8 cs) := by
  unfold rowN at h
  split at h
  · rename_i t e cs' hh
    split at h
    · rename_i hb
      rw [Bool.and_eq_true] at hb
      obtain ⟨h1, h2⟩ := hb
      obtain rfl := Nat.eq_of_beq_eq_true h1
      obtain rfl := Nat.eq_of_beq_eq_true h2
      cases h
      exact hh
    · cases h
  · cases h
def isI (cs : List AV) (j : Nat) (k : IntKind) (x : Int) : Bool := match cs[j]? with
  | some (.int k' y) => decide (k' = k) && decide (y = x)
  | _ => false
theorem isI_some {cs : List AV} {j : Nat} {k : IntKind} {x : Int} (h : isI cs j k x = true) : cs[j]? = some (.int k x) := by
  unfold isI at h
  split at h
  · rename_i k' y hh
    rw [Bool.and_eq_true] at h
    rw [hh, of_decide_eq_true h.1, of_decide_eq_true h.2]
  · cases h
noncomputable def pMade (args : List AV) (H : AHeap) : Option (AV × AHeap) := match args with
  | [.ptr (.own n) 3] => match rowN H n with
    | some cs => match (cs[3]? : Option AV) with
      | some (.int .i64 x) => some (.int .i64 x, H)
      | _ => none
    | none => none
  | _ => none
noncomputable def pAdd (args : List AV) (H : AHeap) : Option (AV × AHeap) := match args with
  | [.ptr (.own n) 3, .int .i64 1] => match rowN H n with
    | some cs => match isI cs 3 .i64 0 with
      | true => some (.int .i64 1, H.set n (some (.row 54 8 (cs.set 3 (.int .i64 1)))))
      | false => none
    | none => none
  | _ => none
def opsB : List UInt8 := [106, 111, 105, 110, 32, 115, 112, 111, 114, 97, 100, 105, 99, 32, 108, 101, 97, 118, 101, 32, 97, 98, 111, 114, 116, 32, 97, 114, 114, 105, 118, 101, 32, 100, 111, 110, 101, 32, 98, 97, 99, 107, 32, 116, 105, 99, 107]
def modesB : List UInt8 := [112, 102, 97, 105, 114, 32, 101, 97, 114, 108, 121, 32, 119, 114, 97, 112, 32, 116, 119, 105, 110]
noncomputable def pFields (args : List AV) (H : AHeap) : Option (AV × AHeap) := match args with
  | [.str s] => match decide (s = opsB) with
    | true => some (.slice (.own H.length) 1 0 8, hnew H (.row 9 1 opsL))
    | false => match decide (s = modesB) with
      | true => some (.slice (.own H.length) 1 0 4, hnew H (.row 9 1 modesL))
      | false => none
  | _ => none
noncomputable def prF : Prims := fun f => match Nat.beq f 16 with
  | true => some pMade
  | false => match Nat.beq f 23 with
    | true => some pAdd
    | false => match Nat.beq f 22 with
      | true => some pFields
      | false => none
theorem prF_ok : PrimsOK (kn gT base w0).c base w0 prF := by
  intro f g hg f' args H v H' e
  dsimp only at e
  split at e
  · rename_i hf
    subst hf
    unfold prF at hg
    split at hg
    · rename_i hb
      cases hg
      obtain rfl := Nat.eq_of_beq_eq_true hb
      unfold pMade at e
      split at e
      · split at e
        · rename_i cs hc
          split at e
          · rename_i x hx
            cases e
            exact made_p (G := gT) (base := base) (w0 := w0) (rowN_some hc) hx
          · cases e
        · cases e
      · cases e
    · split at hg
      · rename_i hb
        cases hg
        obtain rfl := Nat.eq_of_beq_eq_true hb
        unfold pAdd at e
        split at e
        · split at e
          · rename_i cs hc
            split at e
            · rename_i hx
              cases e
              exact add1_p (G := gT) (base := base) (w0 := w0) (rowN_some hc) (isI_some hx)
            · cases e
          · cases e
        · cases e
      · split at hg
        · rename_i hb
          cases hg
          obtain rfl := Nat.eq_of_beq_eq_true hb
          unfold pFields at e
          split at e
          · split at e
            · rename_i hs
              obtain rfl := of_decide_eq_true hs
              cases e
              exact fields_ops (base := base) (w0 := w0)
            · split at e
              · rename_i hs
                obtain rfl := of_decide_eq_true hs
                cases e
                exact fields_modes (base := base) (w0 := w0)
              · cases e
          · cases e
        · cases hg
  · cases e
noncomputable def pOnce (P : Program) (args : List AV) (H : AHeap) : Option (AV × AHeap) := match args with
  | [.ptr (.own n) 0, fv] => match rowN H n with
    | some cs => match isI cs 0 .u32 1 with
      | true => some (.tuple [], H)
      | false => match isI cs 0 .u32 0 && isI cs 1 .i32 0, fv with
        | true, .func (.func 21) [] [.ptr (.own pl) 0] => match acall ⟨P, gT⟩ drawRunB gcCall prF 60 21 [.ptr (.own pl) 0] (H.set n (some (.row 54 8 (cs.set 1 (.int .i32 1))))) with
          | some (.tuple [], H2) => match rowN H2 n with
            | some cs2 => match isI cs2 0 .u32 0 && isI cs2 1 .i32 1 with
              | true => some (.tuple [], H2.set n (some (.row 54 8 ((cs2.set 0 (.int .u32 1)).set 1 (.int .i32 0)))))
              | false => none
            | none => none
          | _ => none
        | _, _ => none
    | none => none
  | _ => none
noncomputable def prN : Prims := fun f => match Nat.beq f 20 with
  | true => some (pOnce Tryd.prog)
  | false => prF f
theorem prN_ok : PrimsOK (kn gT base w0).c base w0 prN := by
  intro f g hg
  unfold prN at hg
  split at hg
  · rename_i hb
    cases hg
    obtain rfl := Nat.eq_of_beq_eq_true hb
    intro f' args H v H' e
    dsimp only at e
    split at e
    · rename_i hf
      subst hf
      unfold pOnce at e
      split at e
      · split at e
        · rename_i cs hc
          split at e
          · rename_i h1
            cases e
            exact once_done (G := gT) (base := base) (w0 := w0) (rowN_some hc) (isI_some h1)
          · split at e
            · rename_i pl h0
              rw [Bool.and_eq_true] at h0
              split at e
              · rename_i H2 hr
                split at e
                · rename_i cs2 hc2
                  split at e
                  · rename_i h2
                    rw [Bool.and_eq_true] at h2
                    cases e
                    exact once_first (G := gT) (base := base) (w0 := w0) (rowN_some hc) (isI_some h0.1) (isI_some h0.2) (Pt.run (κ := kn gT base w0) (prF_ok (base := base) (w0 := w0)) hr) (rowN_some hc2) (isI_some h2.1) (isI_some h2.2)
                  · cases e
                · cases e
              · cases e
            · cases e
        · cases e
      · cases e
    · cases e
  · exact prF_ok f g hg
end Go.Proofs.YtldiaopobcebpaaDoor.sy

/- names: the opening of each law, and all words by hand, run by the kernel (own work). -/
namespace Go.Proofs.YtldiaopobcebpaaDoor.sy
open Go.AM Go.RowKit
set_option linter.unusedSimpArgs false
set_option linter.unusedVariables false
set_option maxRecDepth 100000
set_option maxHeartbeats 8000000
variable {base : Nat} {w0 : World} {H : AHeap}
theorem awake_run : isTrue (acall ⟨Tryd.prog, gT⟩ drawRunB gcCall prN 60 7 [] []) = true := by kernel_rfl
theorem awake_p : Pt (kn gT base w0) 7 [] H (.bool true) H := by
  obtain ⟨K, hK⟩ := isTrue_some awake_run
  exact (Pt.run (κ := kn gT base w0) (prN_ok (base := base) (w0 := w0)) hK).anywhere gT_low rfl rfl
end Go.Proofs.YtldiaopobcebpaaDoor.sy

/- names: all words by hand, run by the kernel (own work). -/
namespace Go.Proofs.YtldiaopobcebpaaDoor.sy
open Go.AM Go.RowKit
set_option linter.unusedSimpArgs false
set_option linter.unusedVariables false
set_option maxRecDepth 100000
set_option maxHeartbeats 8000000
variable {base : Nat} {w0 : World} {H : AHeap}
theorem known_run : isTrue (acall ⟨Tryd.prog, gT⟩ drawRunB gcCall prN 100 5 [] []) = true := by kernel_rfl
theorem namesKnown_law : ∃ r H', Pt (kn gT base w0) 5 [] [] r H' ∧ r = .bool true := by
  obtain ⟨K, hK⟩ := isTrue_some known_run
  exact ⟨_, _, Pt.run (κ := kn gT base w0) (prN_ok (base := base) (w0 := w0)) hK, rfl⟩
end Go.Proofs.YtldiaopobcebpaaDoor.sy
