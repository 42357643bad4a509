/- Texts of the proof in one file (own work): Os, Ot, Ow, Ox, Oy, Oz, Pa, Pb, Pc. -/
import Derived.Test.YtldiaopobcebpaaDoorOr
import Derived.Test.YtldiaopobcebpaaDoorM5
/- the parts of names that the machine does not run, as functions on its heaps (own work). -/
namespace Go.Proofs.YtldiaopobcebpaaDoor.sy
open Go.AM Go.RowKit
set_option linter.unusedSimpArgs false
set_option linter.unusedVariables false
set_option maxRecDepth 100000
set_option maxHeartbeats 8000000
variable {base : Nat} {w0 : World} {H : AHeap}
def rowN (H : AHeap) (n : Nat) : Option (List AV) := match hat H n with
  | some (.row t e cs) => match Nat.beq t 54 && Nat.beq e 8 with
    | true => some cs
    | false => none
  | _ => none
theorem rowN_some {H : AHeap} {n : Nat} {cs : List AV} (h : rowN H n = some cs) : hat H n = some (.row 54 8 cs) := by
  unfold rowN at h
  split at h
  · rename_i t e cs' hh
    split at h
    · rename_i hb
      rw [Bool.and_eq_true] at hb
      obtain ⟨h1, h2⟩ := hb
      obtain rfl := Nat.eq_of_beq_eq_true h1
      obtain rfl := Nat.eq_of_beq_eq_true h2
      cases h
      exact hh
    · cases h
  · cases h
def isI (cs : List AV) (j : Nat) (k : IntKind) (x : Int) : Bool := match cs[j]? with
  | some (.int k' y) => decide (k' = k) && decide (y = x)
  | _ => false
theorem isI_some {cs : List AV} {j : Nat} {k : IntKind} {x : Int} (h : isI cs j k x = true) : cs[j]? = some (.int k x) := by
  unfold isI at h
  split at h
  · rename_i k' y hh
    rw [Bool.and_eq_true] at h
    rw [hh, of_decide_eq_true h.1, of_decide_eq_true h.2]
  · cases h
noncomputable def pMade (args : List AV) (H : AHeap) : Option (AV × AHeap) := match args with
  | [.ptr (.own n) 3] => match rowN H n with
    | some cs => match (cs[3]? : Option AV) with
      | some (.int .i64 x) => some (.int .i64 x, H)
      | _ => none
    | none => none
  | _ => none
noncomputable def pAdd (args : List AV) (H : AHeap) : Option (AV × AHeap) := match args with
  | [.ptr (.own n) 3, .int .i64 1] => match rowN H n with
    | some cs => match isI cs 3 .i64 0 with
      | true => some (.int .i64 1, H.set n (some (.row 54 8 (cs.set 3 (.int .i64 1)))))
      | false => none
    | none => none
  | _ => none
def opsB : List UInt8 := [106, 111, 105, 110, 32, 115, 112, 111, 114, 97, 100, 105, 99, 32, 108, 101, 97, 118, 101, 32, 97, 98, 111, 114, 116, 32, 97, 114, 114, 105, 118, 101, 32, 100, 111, 110, 101, 32, 98, 97, 99, 107, 32, 116, 105, 99, 107]
def modesB : List UInt8 := [112, 102, 97, 105, 114, 32, 101, 97, 114, 108, 121, 32, 119, 114, 97, 112, 32, 116, 119, 105, 110]
noncomputable def pFields (args : List AV) (H : AHeap) : Option (AV × AHeap) := match args with
  | [.str s] => match decide (s = opsB) with
    | true => some (.slice (.own H.length) 1 0 8, hnew H (.row 9 1 opsL))
    | false => match decide (s = modesB) with
      | true => some (.slice (.own H.length) 1 0 4, hnew H (.row 9 1 modesL))
      | false => none
  | _ => none
noncomputable def prF : Prims := fun f => match Nat.beq f 16 with
  | true => some pMade
  | false => match Nat.beq f 23 with
    | true => some pAdd
    | false => match Nat.beq f 22 with
      | true => some pFields
      | false => none
theorem prF_ok : PrimsOK (kn gT base w0).c base w0 prF := by
  intro f g hg f' args H v H' e
  dsimp only at e
  split at e
  · rename_i hf
    subst hf
    unfold prF at hg
    split at hg
    · rename_i hb
      cases hg
      obtain rfl := Nat.eq_of_beq_eq_true hb
      unfold pMade at e
      split at e
      · split at e
        · rename_i cs hc
          split at e
          · rename_i x hx
            cases e
            exact made_p (G := gT) (base := base) (w0 := w0) (rowN_some hc) hx
          · cases e
        · cases e
      · cases e
    · split at hg
      · rename_i hb
        cases hg
        obtain rfl := Nat.eq_of_beq_eq_true hb
        unfold pAdd at e
        split at e
        · split at e
          · rename_i cs hc
            split at e
            · rename_i hx
              cases e
              exact add1_p (G := gT) (base := base) (w0 := w0) (rowN_some hc) (isI_some hx)
            · cases e
          · cases e
        · cases e
      · split at hg
        · rename_i hb
          cases hg
          obtain rfl := Nat.eq_of_beq_eq_true hb
          unfold pFields at e
          split at e
          · split at e
            · rename_i hs
              obtain rfl := of_decide_eq_true hs
              cases e
              exact fields_ops (base := base) (w0 := w0)
            · split at e
              · rename_i hs
                obtain rfl := of_decide_eq_true hs
                cases e
                exact fields_modes (base := base) (w0 := w0)
              · cases e
          · cases e
        · cases hg
  · cases e
noncomputable def pOnce (P : Program) (args : List AV) (H : AHeap) : Option (AV × AHeap) := match args with
  | [.ptr (.own n) 0, fv] => match rowN H n with
    | some cs => match isI cs 0 .u32 1 with
      | true => some (.tuple [], H)
      | false => match isI cs 0 .u32 0 && isI cs 1 .i32 0, fv with
        | true, .func (.func 21) [] [.ptr (.own pl) 0] => match acall ⟨P, gT⟩ drawRunB gcCall prF 60 21 [.ptr (.own pl) 0] (H.set n (some (.row 54 8 (cs.set 1 (.int .i32 1))))) with
          | some (.tuple [], H2) => match rowN H2 n with
            | some cs2 => match isI cs2 0 .u32 0 && isI cs2 1 .i32 1 with
              | true => some (.tuple [], H2.set n (some (.row 54 8 ((cs2.set 0 (.int .u32 1)).set 1 (.int .i32 0)))))
              | false => none
            | none => none
          | _ => none
        | _, _ => none
    | none => none
  | _ => none
noncomputable def prN : Prims := fun f => match Nat.beq f 20 with
  | true => some (pOnce Tryd.prog)
  | false => prF f
theorem prN_ok : PrimsOK (kn gT base w0).c base w0 prN := by
  intro f g hg
  unfold prN at hg
  split at hg
  · rename_i hb
    cases hg
    obtain rfl := Nat.eq_of_beq_eq_true hb
    intro f' args H v H' e
    dsimp only at e
    split at e
    · rename_i hf
      subst hf
      unfold pOnce at e
      split at e
      · split at e
        · rename_i cs hc
          split at e
          · rename_i h1
            cases e
            exact once_done (G := gT) (base := base) (w0 := w0) (rowN_some hc) (isI_some h1)
          · split at e
            · rename_i pl h0
              rw [Bool.and_eq_true] at h0
              split at e
              · rename_i H2 hr
                split at e
                · rename_i cs2 hc2
                  split at e
                  · rename_i h2
                    rw [Bool.and_eq_true] at h2
                    cases e
                    exact once_first (G := gT) (base := base) (w0 := w0) (rowN_some hc) (isI_some h0.1) (isI_some h0.2) (Pt.run (κ := kn gT base w0) (prF_ok (base := base) (w0 := w0)) hr) (rowN_some hc2) (isI_some h2.1) (isI_some h2.2)
                  · cases e
                · cases e
              · cases e
            · cases e
        · cases e
      · cases e
    · cases e
  · exact prF_ok f g hg
end Go.Proofs.YtldiaopobcebpaaDoor.sy

/- names: the opening of each law, and all words by hand, run by the kernel (own work). -/
namespace Go.Proofs.YtldiaopobcebpaaDoor.sy
open Go.AM Go.RowKit
set_option linter.unusedSimpArgs false
set_option linter.unusedVariables false
set_option maxRecDepth 100000
set_option maxHeartbeats 8000000
variable {base : Nat} {w0 : World} {H : AHeap}
theorem awake_run : isTrue (acall ⟨Tryd.prog, gT⟩ drawRunB gcCall prN 60 7 [] []) = true := by kernel_rfl
theorem awake_p : Pt (kn gT base w0) 7 [] H (.bool true) H := by
  obtain ⟨K, hK⟩ := isTrue_some awake_run
  exact (Pt.run (κ := kn gT base w0) (prN_ok (base := base) (w0 := w0)) hK).anywhere gT_low rfl rfl
end Go.Proofs.YtldiaopobcebpaaDoor.sy

/- names, the tables made: words by number, numbers by word (own work). -/
namespace Go.Proofs.YtldiaopobcebpaaDoor.sy
open Go.AM Go.RowKit
set_option linter.unusedSimpArgs false
set_option linter.unusedVariables false
set_option maxRecDepth 100000
set_option maxHeartbeats 8000000
variable {G : List Nat → Option (List AV)} {base : Nat} {w0 : World} {H : AHeap}
def wordAt (L : List AV) (k : Int) : AV := if 1 ≤ k ∧ k ≤ L.length then L.getD (k - 1).toNat (.str []) else .str []
theorem word_p {a n : Nat} {L : List AV} (hL : hat H a = some (.row 9 1 L)) (hn : L.length = n) (hn1 : n < 1000) (k : Int) : Pt (kn G base w0) 18 [.slice (.own a) 1 0 n, .int .i64 k] H (wordAt L k) H := by
  have key : ∃ r H', Pt (kn G base w0) 18 [.slice (.own a) 1 0 n, .int .i64 k] H r H' ∧ r = wordAt L k ∧ H' = H := by
    refine Pt.fn (n := 18) (rs := [.tmp 4]) Tryd.func18 (b := _) rfl rfl rfl (by decide) ?_
    simp only [numbered]
    by_cases h1 : k < 1
    · refine D.sq (D.ks (.e [(4, AV.str (Array.toList (ByteArray.data { data := #[] })))] H) (by kernel_rfl) (D.sq (D.sq (D.ks (.y (show k < 1 by omega) <| .e [(12, AV.bool true)] H) (by kernel_rfl) (D.ct (by kernel_rfl) (D.sq (D.ks (.e [(4, AV.str (Array.toList (ByteArray.data { data := #[] })))] H) (by kernel_rfl) (D.ret (Ks_r' (Kf_by (AV.str (Array.toList (ByteArray.data { data := #[] }))) (.r (AV.str (Array.toList (ByteArray.data { data := #[] })))) (by kernel_rfl) ?_))))))))))
      exact ⟨by unfold wordAt; rw [if_neg (by omega)], rfl⟩
    by_cases h2 : k > n
    · refine D.sq (D.ks (.e [(4, AV.str (Array.toList (ByteArray.data { data := #[] })))] H) (by kernel_rfl) (D.sq (D.sq (D.ks (.o (show ¬ (k < 1) by omega) <| .a <| .y (show (↑n : Int) < k by omega) <| .e [(12, AV.bool true)] H) (by kernel_rfl) (D.ct (by kernel_rfl) (D.sq (D.ks (.e [(4, AV.str (Array.toList (ByteArray.data { data := #[] })))] H) (by kernel_rfl) (D.ret (Ks_r' (Kf_by (AV.str (Array.toList (ByteArray.data { data := #[] }))) (.r (AV.str (Array.toList (ByteArray.data { data := #[] })))) (by kernel_rfl) ?_))))))))))
      exact ⟨by unfold wordAt; rw [if_neg (by omega)], rfl⟩
    obtain ⟨i, hi⟩ : ∃ i : Nat, k = (i : Int) + 1 := ⟨(k - 1).toNat, by omega⟩
    have hin : i < n := by omega
    have ha : aindexAddr (kn G base w0).c 26 (.slice (.own a) 1 0 n) (.int .i64 (i : Nat)) = some (.ptr (.own a) i) := by
      have := ix_own (c := (kn G base w0).c) (b := a) (k := .i64) Tryd.underlying26 sz9 (by decide) hin
      rw [Nat.mul_one] at this
      exact this
    have hil : i < L.length := by omega
    have hl : aload (kn G base w0).c H 9 (.ptr (.own a) i) = some (L.getD i (.str [])) := by
      refine ld_own hL ?_ ag9
      rw [List.getD_eq_getElem?_getD, List.getElem?_eq_getElem hil]; rfl
    have hw : IntKind.i64.wrap (k - 1) = (i : Int) := wrap_to (by omega) (by omega) (by omega)
    refine D.sq (D.ks (.e [(4, AV.str (Array.toList (ByteArray.data { data := #[] })))] H) (by kernel_rfl) (D.sq (D.sq (D.ks (.o (show ¬ (k < 1) by omega) <| .a <| .o (show ¬ ((↑n : Int) < k) by omega) <| .e [(12, AV.bool false)] H) (by kernel_rfl) (D.cf (by kernel_rfl) (D.skip (Ks_n' (D.sq (D.ks (.n hw <| .v ha <| .v hl <| .e [(4, List.getD L i (AV.str []))] H) (by kernel_rfl) (D.ret (Kf_by (List.getD L i (AV.str [])) (.r (List.getD L i (AV.str []))) (by kernel_rfl) ?_)))))))))))
    refine ⟨?_, rfl⟩
    unfold wordAt
    rw [if_pos ⟨by omega, by omega⟩, show (k - 1).toNat = i by omega]
  obtain ⟨r, H', h, rfl, rfl⟩ := key
  exact h
def wordsL : List (List UInt8) := [[106, 111, 105, 110], [115, 112, 111, 114, 97, 100, 105, 99], [108, 101, 97, 118, 101], [97, 98, 111, 114, 116], [97, 114, 114, 105, 118, 101], [100, 111, 110, 101], [98, 97, 99, 107], [116, 105, 99, 107]]
def numF (w : List UInt8) : List (List UInt8) → Nat → Nat
  | [], _ => 0
  | x :: r, i => if w == x then i else numF w r (i + 1)
def numOf (w : List UInt8) : Nat := numF w wordsL 1
def mkE : List (List UInt8) → Nat → List (AV × AV × Nat)
  | [], _ => []
  | x :: r, i => (.str x, .int .i64 ((i + 1 : Nat) : Int), i) :: mkE r (i + 1)
theorem find_mk (w : List UInt8) : ∀ (L : List (List UInt8)) (i j : Nat), (findKey .string (.str w) (mkE L i) j = some none ∧ numF w L (i + 1) = 0) ∨ ∃ q, findKey .string (.str w) (mkE L i) j = some (some (q, .int .i64 (numF w L (i + 1) : Nat))) ∧ numF w L (i + 1) ≠ 0
  | [], i, j => .inl ⟨rfl, rfl⟩
  | x :: r, i, j => by
    simp only [mkE, findKey, keyEq, Option.bind_some, numF]
    by_cases h : (w == x) = true
    · rw [if_pos h, if_pos h]
      exact .inr ⟨j, rfl, by omega⟩
    · rw [if_neg h, if_neg h]
      exact find_mk w r (i + 1) (j + 1)
structure Made (H : AHeap) (n a b c m : Nat) : Prop where
  row : hat H n = some (.row 54 8 [.int .u32 1, .int .i32 0, .int .u32 0, .int .i64 1, .slice (.own a) 1 0 8, .slice (.own b) 1 0 4, .slice (.own c) 1 0 15, .map (.own m)])
  ops : hat H a = some (.row 9 1 opsL)
  modes : hat H b = some (.row 9 1 modesL)
  errs : hat H c = some (.row 9 1 errsL)
  by_ : hat H m = some (.map (mkE wordsL 0) 8)
theorem Made.keep {K : AHeap} {n a b c m : Nat} (h : Made H n a b c m) (k : Keep H K (fun _ => False)) : Made K n a b c m :=
  ⟨(k.2 _ (hat_lt h.row) id).trans h.row, (k.2 _ (hat_lt h.ops) id).trans h.ops, (k.2 _ (hat_lt h.modes) id).trans h.modes, (k.2 _ (hat_lt h.errs) id).trans h.errs, (k.2 _ (hat_lt h.by_) id).trans h.by_⟩
theorem Made.look {n a b c m : Nat} (h : Made H n a b c m) (w : List UInt8) : alookup (kn G base w0).c H 52 (.map (.own m)) (.str w) true = some (.tuple [.int .i64 (numOf w : Nat), .bool (decide (numOf w ≠ 0))]) := by
  have ht : (kn G base w0).c.P.underlying 52 = some (.map 9 3) := Tryd.underlying52
  have hk : (kn G base w0).c.P.underlying 9 = some .string := Tryd.underlying9
  simp only [alookup, ht, hk, Option.bind_some, keyOk, if_true, entries, h.by_]
  rcases find_mk w wordsL 0 0 with ⟨h1, h2⟩ | ⟨q, h1, h2⟩
  · rw [h1]
    have hz : zeroAV (kn G base w0).c.P 3 = some (.int .i64 0) := za3
    have h3 : numOf w = 0 := h2
    simp only [Option.bind_some, hz, Option.map_some, if_true, h3]
    rfl
  · rw [h1]
    have h3 : numOf w ≠ 0 := h2
    simp only [Option.bind_some, if_true]
    rw [decide_eq_true h3]
    rfl
/-- tables, made already -/
theorem tables_p {n a b c m : Nat} (h : Made H n a b c m) : Pt (kn G base w0) 17 [.ptr (.own n) 0] H (.tuple []) H := by
  refine Pt.pure ?_ rfl
  refine Pt.fn (n := 7) (rs := []) Tryd.func17 (b := _) rfl rfl rfl (by decide) ?_
  simp only [numbered]
  have k : Keep H (hnew H (.row 23 1 [.ptr (.own n) 0])) (fun _ => False) := Keep.new _ _
  have p := once_done (G := G) (base := base) (w0 := w0) (fv := .func (.func 21) [] [.ptr (.own H.length) 0]) (h.keep k).row rfl
  refine D.sq (D.ks (.a <| .e [(1, AV.ptr (Loc.own (List.length H)) 0)] (hnew H (AObj.row 23 1 [AV.ptr (Loc.own n) 0]))) (by kernel_rfl) (D.kr (.q (@hat_nn H (AObj.row 23 1 [AV.ptr (Loc.own n) 0])) <| .a <| .c p <| .e [] (hnew H (AObj.row 23 1 [AV.ptr (Loc.own n) 0]))) (by kernel_rfl) (Kf_byn (AV.tuple []) (.r (AV.tuple [])) (by kernel_rfl) ?_)))
  exact ⟨rfl, k⟩
section
variable {K : AHeap} {n a b c m : Nat} (hm : Made K n a b c m) (p17 : Pt (kn G base w0) 17 [.ptr (.own n) 0] H (.tuple []) K)
include hm p17
theorem number_p (w : List UInt8) : Pt (kn G base w0) 11 [.ptr (.own n) 0, .str w] H (.tuple [.int .i64 (numOf w : Nat), .bool (decide (numOf w ≠ 0))]) K := by
  have key : ∃ r H', Pt (kn G base w0) 11 [.ptr (.own n) 0, .str w] H r H' ∧ r = .tuple [.int .i64 (numOf w : Nat), .bool (decide (numOf w ≠ 0))] ∧ H' = K := by
    refine Pt.fn (n := 23) (rs := [.tmp 4, .tmp 5]) Tryd.func11 (b := _) rfl rfl rfl (by decide) ?_
    simp only [numbered]
    have hl := hm.look (G := G) (base := base) (w0 := w0) w
    have hr := hm.row
    refine D.sq (D.ks (.e [(5, AV.bool false), (4, AV.int IntKind.i64 0)] H) (by kernel_rfl) (D.sq (D.sq (D.ks (.a <| .e [(9, AV.bool false)] H) (by kernel_rfl) (D.cf (by kernel_rfl) (D.skip (Ks_n' (D.sq (D.ks (.c p17 <| .e [] K) (by kernel_rfl) (D.sq (D.ks (.a <| .q hr <| .v hl <| .e [(7, AV.bool (decide (numOf w ≠ 0))), (6, AV.int IntKind.i64 (↑(numOf w) : Int))] K) (by kernel_rfl) (D.sq (D.ks (.e [(5, AV.bool (decide (numOf w ≠ 0))), (4, AV.int IntKind.i64 (↑(numOf w) : Int))] K) (by kernel_rfl) (D.ret (Kf_by (AV.tuple [AV.int IntKind.i64 (↑(numOf w) : Int), AV.bool (decide (numOf w ≠ 0))]) (.r (AV.tuple [AV.int IntKind.i64 (↑(numOf w) : Int), AV.bool (decide (numOf w ≠ 0))])) (by kernel_rfl) ?_)))))))))))))))
    exact ⟨rfl, rfl⟩
  obtain ⟨r, H', h, rfl, rfl⟩ := key
  exact h
theorem op_p (k : Int) : Pt (kn G base w0) 12 [.ptr (.own n) 0, .int .i64 k] H (wordAt opsL k) K := by
  have key : ∃ r H', Pt (kn G base w0) 12 [.ptr (.own n) 0, .int .i64 k] H r H' ∧ r = wordAt opsL k ∧ H' = K := by
    refine Pt.fn (n := 15) (rs := [.tmp 4]) Tryd.func12 (b := _) rfl rfl rfl (by decide) ?_
    simp only [numbered]
    have hl := word_p (G := G) (base := base) (w0 := w0) hm.ops (n := 8) rfl (by decide) k
    have hr := hm.row
    refine D.sq (D.ks (.e [(4, AV.str (Array.toList (ByteArray.data { data := #[] })))] H) (by kernel_rfl) (D.sq (D.sq (D.ks (.a <| .e [(6, AV.bool false)] H) (by kernel_rfl) (D.cf (by kernel_rfl) (D.skip (Ks_n' (D.sq (D.ks (.c p17 <| .e [] K) (by kernel_rfl) (D.sq (D.ks (.a <| .q hr <| .c hl <| .e [(4, wordAt opsL k)] K) (by kernel_rfl) (D.ret (Kf_by (wordAt opsL k) (.r (wordAt opsL k)) (by kernel_rfl) ?_)))))))))))))
    exact ⟨rfl, rfl⟩
  obtain ⟨r, H', h, rfl, rfl⟩ := key
  exact h
theorem mode_p (k : Int) : Pt (kn G base w0) 13 [.ptr (.own n) 0, .int .i64 k] H (wordAt modesL k) K := by
  have key : ∃ r H', Pt (kn G base w0) 13 [.ptr (.own n) 0, .int .i64 k] H r H' ∧ r = wordAt modesL k ∧ H' = K := by
    refine Pt.fn (n := 15) (rs := [.tmp 4]) Tryd.func13 (b := _) rfl rfl rfl (by decide) ?_
    simp only [numbered]
    have hl := word_p (G := G) (base := base) (w0 := w0) hm.modes (n := 4) rfl (by decide) k
    have hr := hm.row
    refine D.sq (D.ks (.e [(4, AV.str (Array.toList (ByteArray.data { data := #[] })))] H) (by kernel_rfl) (D.sq (D.sq (D.ks (.a <| .e [(6, AV.bool false)] H) (by kernel_rfl) (D.cf (by kernel_rfl) (D.skip (Ks_n' (D.sq (D.ks (.c p17 <| .e [] K) (by kernel_rfl) (D.sq (D.ks (.a <| .q hr <| .c hl <| .e [(4, wordAt modesL k)] K) (by kernel_rfl) (D.ret (Kf_by (wordAt modesL k) (.r (wordAt modesL k)) (by kernel_rfl) ?_)))))))))))))
    exact ⟨rfl, rfl⟩
  obtain ⟨r, H', h, rfl, rfl⟩ := key
  exact h
end
theorem made9_p {n a b c m : Nat} (hm : Made H n a b c m) : Pt (kn G base w0) 9 [.ptr (.own n) 0] H (.int .i64 1) H := by
  refine Pt.pure ?_ rfl
  refine Pt.fn (n := 9) (rs := [.tmp 2]) Tryd.func9 (b := _) rfl rfl rfl (by decide) ?_
  simp only [numbered]
  have p := made_p (G := G) (base := base) (w0 := w0) hm.row rfl
  refine D.sq (D.ks (.e [(2, AV.int IntKind.i64 0)] H) (by kernel_rfl) (D.sq (D.sq (D.ks (.a <| .e [(4, AV.bool false)] H) (by kernel_rfl) (D.cf (by kernel_rfl) (D.skip (Ks_n' (D.sq (D.ks (.a <| .c p <| .e [(2, AV.int IntKind.i64 1)] H) (by kernel_rfl) (D.ret (Kf_by (AV.int IntKind.i64 1) (.r (AV.int IntKind.i64 1)) (by kernel_rfl) ?_)))))))))))
  exact ⟨rfl, Keep.refl _⟩
end Go.Proofs.YtldiaopobcebpaaDoor.sy

/- names: the first asking, run by the kernel; errors by number (own work). -/
namespace Go.Proofs.YtldiaopobcebpaaDoor.sy
open Go.AM Go.RowKit
set_option linter.unusedSimpArgs false
set_option linter.unusedVariables false
set_option maxRecDepth 100000
set_option maxHeartbeats 8000000
section
variable {G : List Nat → Option (List AV)} {base : Nat} {w0 : World} {H : AHeap}
def fresh0 : List AV := [.int .u32 0, .int .i32 0, .int .u32 0, .int .i64 0, .nilslice, .nilslice, .nilslice, .nilmap]
theorem new_p : Pt (kn G base w0) 8 [] H (.ptr (.own H.length) 0) (hnew H (.row 54 8 fresh0)) := by
  have key : ∃ r H', Pt (kn G base w0) 8 [] H r H' ∧ r = .ptr (.own H.length) 0 ∧ H' = hnew H (.row 54 8 fresh0) := by
    refine Pt.fn (n := 3) (rs := [.tmp 0]) Tryd.func8 (b := _) rfl rfl rfl (by decide) ?_
    simp only [numbered]
    refine D.sq (D.ks (.e [(0, AV.nilptr)] H) (by kernel_rfl) (D.sq (D.ks (.a <| .e [(0, AV.ptr (Loc.own (List.length H)) 0)] (hnew H (AObj.row 54 8 [AV.int IntKind.u32 0, AV.int IntKind.i32 0, AV.int IntKind.u32 0, AV.int IntKind.i64 0, AV.nilslice, AV.nilslice, AV.nilslice, AV.nilmap]))) (by kernel_rfl) (D.ret (Kf_by (AV.ptr (Loc.own (List.length H)) 0) (.r (AV.ptr (Loc.own (List.length H)) 0)) (by kernel_rfl) ?_)))))
    exact ⟨rfl, rfl⟩
  obtain ⟨r, H', h, rfl, rfl⟩ := key
  exact h
theorem made0_p {n : Nat} (hn : hat H n = some (.row 54 8 fresh0)) : Pt (kn G base w0) 9 [.ptr (.own n) 0] H (.int .i64 0) H := by
  refine Pt.pure ?_ rfl
  refine Pt.fn (n := 9) (rs := [.tmp 2]) Tryd.func9 (b := _) rfl rfl rfl (by decide) ?_
  simp only [numbered]
  have p := made_p (G := G) (base := base) (w0 := w0) hn rfl
  refine D.sq (D.ks (.e [(2, AV.int IntKind.i64 0)] H) (by kernel_rfl) (D.sq (D.sq (D.ks (.a <| .e [(4, AV.bool false)] H) (by kernel_rfl) (D.cf (by kernel_rfl) (D.skip (Ks_n' (D.sq (D.ks (.a <| .c p <| .e [(2, AV.int IntKind.i64 0)] H) (by kernel_rfl) (D.ret (Kf_by (AV.int IntKind.i64 0) (.r (AV.int IntKind.i64 0)) (by kernel_rfl) ?_)))))))))))
  exact ⟨rfl, Keep.refl _⟩
end
/-- is that row there? -/
def rowB (K : AHeap) (i t e : Nat) (L : List AV) : Bool := match hat K i with
  | some (.row t' e' cs) => (Nat.beq t' t && Nat.beq e' e) && AV.beqs cs L
  | _ => false
theorem rowB_ok {K : AHeap} {i t e : Nat} {L : List AV} (h : rowB K i t e L = true) : hat K i = some (.row t e L) := by
  unfold rowB at h
  split at h
  · rename_i t' e' cs hh
    rw [Bool.and_eq_true, Bool.and_eq_true] at h
    rw [hh, Nat.eq_of_beq_eq_true h.1.1, Nat.eq_of_beq_eq_true h.1.2, AV.beqs_eq h.2]
  · cases h
def entsB : List (AV × AV × Nat) → List (AV × AV × Nat) → Bool
  | [], [] => true
  | x :: r, y :: s => ((AV.beq x.1 y.1 && AV.beq x.2.1 y.2.1) && Nat.beq x.2.2 y.2.2) && entsB r s
  | _, _ => false
theorem entsB_ok : ∀ {a b : List (AV × AV × Nat)}, entsB a b = true → a = b
  | [], [], _ => rfl
  | (x1, x2, x3) :: r, (y1, y2, y3) :: s, h => by
    simp only [entsB, Bool.and_eq_true] at h
    obtain ⟨⟨⟨h1, h2⟩, h3⟩, h4⟩ := h
    rw [AV.beq_eq h1, AV.beq_eq h2, Nat.eq_of_beq_eq_true h3, entsB_ok h4]
  | [], _ :: _, h => by cases h
  | _ :: _, [], h => by cases h
def mapB (K : AHeap) (i : Nat) (L : List (AV × AV × Nat)) (ck : Nat) : Bool := match hat K i with
  | some (.map es c) => entsB es L && Nat.beq c ck
  | _ => false
theorem mapB_ok {K : AHeap} {i ck : Nat} {L : List (AV × AV × Nat)} (h : mapB K i L ck = true) : hat K i = some (.map L ck) := by
  unfold mapB at h
  split at h
  · rename_i es c hh
    rw [Bool.and_eq_true] at h
    rw [hh, entsB_ok h.1, Nat.eq_of_beq_eq_true h.2]
  · cases h
/-- where the tables lie -/
def spots (K : AHeap) (n : Nat) : Option (Nat × Nat × Nat × Nat) := match hat K n with
  | some (.row _ _ [_, _, _, _, .slice (.own a) _ _ _, .slice (.own b) _ _ _, .slice (.own c) _ _ _, .map (.own m)]) => some (a, b, c, m)
  | _ => none
def madeB (n : Nat) : Option (AV × AHeap) → Bool
  | some (.tuple [], K) => match spots K n with
    | some (a, b, c, m) => rowB K n 54 8 [.int .u32 1, .int .i32 0, .int .u32 0, .int .i64 1, .slice (.own a) 1 0 8, .slice (.own b) 1 0 4, .slice (.own c) 1 0 15, .map (.own m)] &&
        (rowB K a 9 1 opsL && (rowB K b 9 1 modesL && (rowB K c 9 1 errsL && mapB K m (mkE wordsL 0) 8)))
    | none => false
  | _ => false
theorem madeB_ok {n : Nat} {r : Option (AV × AHeap)} (h : madeB n r = true) : ∃ K a b c m, r = some (.tuple [], K) ∧ Made K n a b c m := by
  unfold madeB at h
  split at h
  · rename_i K
    split at h
    · rename_i a b c m _
      simp only [Bool.and_eq_true] at h
      obtain ⟨h1, h2, h3, h4, h5⟩ := h
      exact ⟨K, a, b, c, m, rfl, rowB_ok h1, rowB_ok h2, rowB_ok h3, rowB_ok h4, mapB_ok h5⟩
    · cases h
  · cases h
variable {base : Nat} {w0 : World} {H : AHeap}
theorem first_run : madeB 0 (acall ⟨Tryd.prog, gT⟩ drawRunB gcCall prN 60 17 [.ptr (.own 0) 0] [some (.row 54 8 fresh0)]) = true := by kernel_rfl
theorem tables_first : ∃ K a b c m, Pt (kn gT base w0) 17 [.ptr (.own 0) 0] [some (.row 54 8 fresh0)] (.tuple []) K ∧ Made K 0 a b c m := by
  obtain ⟨K, a, b, c, m, h, hm⟩ := madeB_ok first_run
  exact ⟨K, a, b, c, m, Pt.run (κ := kn gT base w0) (prN_ok (base := base) (w0 := w0)) h, hm⟩
def errAt (e : Int) : AV := if 0 ≤ e ∧ e < 15 then errsL.getD e.toNat (.str []) else .str [101, 114, 114, 111, 114]
theorem err_some (e : Fin 15) : Pt (kn gT base w0) 15 [.int .i64 (e.val : Nat)] [] (errAt (e.val : Nat)) [] := by
  match e with
  | ⟨0, _⟩ => exact Pt.run (k := 40) (prims_none _ _ _) (by kernel_rfl)
  | ⟨1, _⟩ => exact Pt.run (k := 40) (prims_none _ _ _) (by kernel_rfl)
  | ⟨2, _⟩ => exact Pt.run (k := 40) (prims_none _ _ _) (by kernel_rfl)
  | ⟨3, _⟩ => exact Pt.run (k := 40) (prims_none _ _ _) (by kernel_rfl)
  | ⟨4, _⟩ => exact Pt.run (k := 40) (prims_none _ _ _) (by kernel_rfl)
  | ⟨5, _⟩ => exact Pt.run (k := 40) (prims_none _ _ _) (by kernel_rfl)
  | ⟨6, _⟩ => exact Pt.run (k := 40) (prims_none _ _ _) (by kernel_rfl)
  | ⟨7, _⟩ => exact Pt.run (k := 40) (prims_none _ _ _) (by kernel_rfl)
  | ⟨8, _⟩ => exact Pt.run (k := 40) (prims_none _ _ _) (by kernel_rfl)
  | ⟨9, _⟩ => exact Pt.run (k := 40) (prims_none _ _ _) (by kernel_rfl)
  | ⟨10, _⟩ => exact Pt.run (k := 40) (prims_none _ _ _) (by kernel_rfl)
  | ⟨11, _⟩ => exact Pt.run (k := 40) (prims_none _ _ _) (by kernel_rfl)
  | ⟨12, _⟩ => exact Pt.run (k := 40) (prims_none _ _ _) (by kernel_rfl)
  | ⟨13, _⟩ => exact Pt.run (k := 40) (prims_none _ _ _) (by kernel_rfl)
  | ⟨14, _⟩ => exact Pt.run (k := 40) (prims_none _ _ _) (by kernel_rfl)
theorem err_p (e : Int) : Pt (kn gT base w0) 15 [.int .i64 e] H (errAt e) H := by
  by_cases h : 0 ≤ e ∧ e < 15
  · obtain ⟨i, hi⟩ : ∃ i : Nat, e = i := ⟨e.toNat, by omega⟩
    have h1 := (err_some (base := base) (w0 := w0) ⟨i, by omega⟩).shift (H := H) gT_low rfl
    have hs : (errAt (i : Nat)).sh H.length = errAt (i : Nat) := by
      have : ∀ j : Fin 15, (errAt (j.val : Nat)).sh H.length = errAt (j.val : Nat) := by
        intro j
        match j with
        | ⟨0, _⟩ => rfl
        | ⟨1, _⟩ => rfl
        | ⟨2, _⟩ => rfl
        | ⟨3, _⟩ => rfl
        | ⟨4, _⟩ => rfl
        | ⟨5, _⟩ => rfl
        | ⟨6, _⟩ => rfl
        | ⟨7, _⟩ => rfl
        | ⟨8, _⟩ => rfl
        | ⟨9, _⟩ => rfl
        | ⟨10, _⟩ => rfl
        | ⟨11, _⟩ => rfl
        | ⟨12, _⟩ => rfl
        | ⟨13, _⟩ => rfl
        | ⟨14, _⟩ => rfl
      exact this ⟨i, by omega⟩
    simp only [hs, shH, List.map_nil, List.append_nil] at h1
    rw [hi]
    exact h1
  · have hr : errAt e = .str [101, 114, 114, 111, 114] := by unfold errAt; rw [if_neg h]
    rw [hr]
    refine Pt.pure ?_ rfl
    refine Pt.fn (n := 34) (rs := [.tmp 2]) Tryd.func15 (b := _) rfl rfl rfl (by decide) ?_
    simp only [numbered]
    refine D.sq (D.ks (.e [(2, AV.str (Array.toList (ByteArray.data { data := #[] })))] H) (by kernel_rfl) (D.sq (D.sq (D.ks (.e [(3, AV.int IntKind.i64 e)] H) (by kernel_rfl) (D.bl (D.sq (D.ks (.o (show ¬ (e = 0) by omega) <| .e [(4, AV.bool false)] H) (by kernel_rfl) (D.cf (by kernel_rfl) (D.sq (D.ks (.o (show ¬ (e = 1) by omega) <| .e [(6, AV.bool false)] H) (by kernel_rfl) (D.cf (by kernel_rfl) (D.sq (D.ks (.o (show ¬ (e = 2) by omega) <| .e [(8, AV.bool false)] H) (by kernel_rfl) (D.cf (by kernel_rfl) (D.sq (D.ks (.o (show ¬ (e = 3) by omega) <| .e [(10, AV.bool false)] H) (by kernel_rfl) (D.cf (by kernel_rfl) (D.sq (D.ks (.o (show ¬ (e = 4) by omega) <| .e [(12, AV.bool false)] H) (by kernel_rfl) (D.cf (by kernel_rfl) (D.sq (D.ks (.o (show ¬ (e = 5) by omega) <| .e [(14, AV.bool false)] H) (by kernel_rfl) (D.cf (by kernel_rfl) (D.sq (D.ks (.o (show ¬ (e = 6) by omega) <| .e [(16, AV.bool false)] H) (by kernel_rfl) (D.cf (by kernel_rfl) (D.sq (D.ks (.o (show ¬ (e = 7) by omega) <| .e [(18, AV.bool false)] H) (by kernel_rfl) (D.cf (by kernel_rfl) (D.sq (D.ks (.o (show ¬ (e = 8) by omega) <| .e [(20, AV.bool false)] H) (by kernel_rfl) (D.cf (by kernel_rfl) (D.sq (D.ks (.o (show ¬ (e = 9) by omega) <| .e [(22, AV.bool false)] H) (by kernel_rfl) (D.cf (by kernel_rfl) (D.sq (D.ks (.o (show ¬ (e = 10) by omega) <| .e [(24, AV.bool false)] H) (by kernel_rfl) (D.cf (by kernel_rfl) (D.sq (D.ks (.o (show ¬ (e = 11) by omega) <| .e [(26, AV.bool false)] H) (by kernel_rfl) (D.cf (by kernel_rfl) (D.sq (D.ks (.o (show ¬ (e = 12) by omega) <| .e [(28, AV.bool false)] H) (by kernel_rfl) (D.cf (by kernel_rfl) (D.sq (D.ks (.o (show ¬ (e = 13) by omega) <| .e [(30, AV.bool false)] H) (by kernel_rfl) (D.cf (by kernel_rfl) (D.sq (D.ks (.o (show ¬ (e = 14) by omega) <| .e [(32, AV.bool false)] H) (by kernel_rfl) (D.cf (by kernel_rfl) (D.skip (Kb_n' (Ks_n' (D.sq (D.ks (.e [(2, AV.str (Array.toList (ByteArray.data { data := #[101, 114, 114, 111, 114] })))] H) (by kernel_rfl) (D.ret (Kf_by (AV.str (Array.toList (ByteArray.data { data := #[101, 114, 114, 111, 114] }))) (.r (AV.str (Array.toList (ByteArray.data { data := #[101, 114, 114, 111, 114] })))) (by kernel_rfl) ?_)))))))))))))))))))))))))))))))))))))))))))))))))))))))))
    exact ⟨rfl, Keep.refl _⟩
theorem err9_p {K : AHeap} {n a b c m : Nat} (hm : Made K n a b c m) (p17 : Pt (kn gT base w0) 17 [.ptr (.own n) 0] H (.tuple []) K) (e : Int) : Pt (kn gT base w0) 14 [.ptr (.own n) 0, .int .i64 e] H (errAt e) K := by
  have key : ∃ r H', Pt (kn gT base w0) 14 [.ptr (.own n) 0, .int .i64 e] H r H' ∧ r = errAt e ∧ H' = K := by
    refine Pt.fn (n := 27) (rs := [.tmp 4]) Tryd.func14 (b := _) rfl rfl rfl (by decide) ?_
    simp only [numbered]
    have hr := hm.row
    by_cases h0 : e < 0
    · refine D.sq (D.ks (.e [(4, AV.str (Array.toList (ByteArray.data { data := #[] })))] H) (by kernel_rfl) (D.sq (D.sq (D.ks (.a <| .e [(6, AV.bool false)] H) (by kernel_rfl) (D.cf (by kernel_rfl) (D.skip (Ks_n' (D.sq (D.ks (.c p17 <| .e [] K) (by kernel_rfl) (D.sq (D.sq (D.ks (.y (show e < 0 by omega) <| .e [(19, AV.bool true)] K) (by kernel_rfl) (D.ct (by kernel_rfl) (D.sq (D.ks (.e [(4, AV.str (Array.toList (ByteArray.data { data := #[101, 114, 114, 111, 114] })))] K) (by kernel_rfl) (D.ret (Ks_r' (Kf_by (AV.str (Array.toList (ByteArray.data { data := #[101, 114, 114, 111, 114] }))) (.r (AV.str (Array.toList (ByteArray.data { data := #[101, 114, 114, 111, 114] })))) (by kernel_rfl) ?_))))))))))))))))))
      exact ⟨by unfold errAt; rw [if_neg (by omega)], rfl⟩
    by_cases h1 : e ≥ 15
    · refine D.sq (D.ks (.e [(4, AV.str (Array.toList (ByteArray.data { data := #[] })))] H) (by kernel_rfl) (D.sq (D.sq (D.ks (.a <| .e [(6, AV.bool false)] H) (by kernel_rfl) (D.cf (by kernel_rfl) (D.skip (Ks_n' (D.sq (D.ks (.c p17 <| .e [] K) (by kernel_rfl) (D.sq (D.sq (D.ks (.o (show ¬ (e < 0) by omega) <| .a <| .q hr <| .a <| .y (show 15 ≤ e by omega) <| .e [(19, AV.bool true)] K) (by kernel_rfl) (D.ct (by kernel_rfl) (D.sq (D.ks (.e [(4, AV.str (Array.toList (ByteArray.data { data := #[101, 114, 114, 111, 114] })))] K) (by kernel_rfl) (D.ret (Ks_r' (Kf_by (AV.str (Array.toList (ByteArray.data { data := #[101, 114, 114, 111, 114] }))) (.r (AV.str (Array.toList (ByteArray.data { data := #[101, 114, 114, 111, 114] })))) (by kernel_rfl) ?_))))))))))))))))))
      exact ⟨by unfold errAt; rw [if_neg (by omega)], rfl⟩
    obtain ⟨i, rfl⟩ : ∃ i : Nat, e = i := ⟨e.toNat, by omega⟩
    have hin : i < 15 := by omega
    have ha : aindexAddr (kn gT base w0).c 26 (.slice (.own c) 1 0 15) (.int .i64 (i : Nat)) = some (.ptr (.own c) i) := by
      have := ix_own (c := (kn gT base w0).c) (b := c) (k := .i64) Tryd.underlying26 sz9 (by decide) hin
      rw [Nat.mul_one] at this
      exact this
    have hl : aload (kn gT base w0).c K 9 (.ptr (.own c) i) = some (errAt (i : Nat)) := by
      refine ld_own hm.errs ?_ ag9
      unfold errAt
      rw [if_pos ⟨by omega, by omega⟩, Int.toNat_natCast, List.getD_eq_getElem?_getD, List.getElem?_eq_getElem (show i < errsL.length from hin)]; rfl
    refine D.sq (D.ks (.e [(4, AV.str (Array.toList (ByteArray.data { data := #[] })))] H) (by kernel_rfl) (D.sq (D.sq (D.ks (.a <| .e [(6, AV.bool false)] H) (by kernel_rfl) (D.cf (by kernel_rfl) (D.skip (Ks_n' (D.sq (D.ks (.c p17 <| .e [] K) (by kernel_rfl) (D.sq (D.sq (D.ks (.o (show ¬ ((↑i : Int) < 0) by omega) <| .a <| .q hr <| .a <| .o (show ¬ (15 ≤ (↑i : Int)) by omega) <| .e [(19, AV.bool false)] K) (by kernel_rfl) (D.cf (by kernel_rfl) (D.skip (Ks_n' (D.sq (D.ks (.a <| .q hr <| .v ha <| .v hl <| .e [(4, errAt (↑i : Int))] K) (by kernel_rfl) (D.ret (Kf_by (errAt (↑i : Int)) (.r (errAt (↑i : Int))) (by kernel_rfl) ?_)))))))))))))))))))
    exact ⟨rfl, rfl⟩
  obtain ⟨r, H', h, rfl, rfl⟩ := key
  exact h
end Go.Proofs.YtldiaopobcebpaaDoor.sy

/- law9's NamesBack (own work). -/
namespace Go.Proofs.YtldiaopobcebpaaDoor.sy
open Go.AM Go.RowKit
set_option linter.unusedSimpArgs false
set_option linter.unusedVariables false
set_option maxRecDepth 100000
set_option maxHeartbeats 8000000
variable {base : Nat} {w0 : World} {H : AHeap}
theorem num_word {w : List UInt8} (h : numOf w ≠ 0) : 1 ≤ numOf w ∧ numOf w ≤ 8 ∧ wordAt opsL (numOf w : Nat) = .str w := by
  revert h
  unfold numOf wordsL
  simp only [numF]
  repeat' split
  all_goals first | (intro h; exact absurd rfl h) | (rename_i hw; intro _; obtain rfl := eq_of_beq hw; exact ⟨by decide, by decide, rfl⟩)
/-- the word of a number -/
def wd (o : Nat) : List UInt8 := if 1 ≤ o ∧ o ≤ 8 then wordsL.getD (o - 1) [] else []
theorem wd_in {o : Nat} (h : 1 ≤ o ∧ o ≤ 8) : wordAt opsL (o : Nat) = .str (wd o) ∧ numOf (wd o) = o ∧ wd o ≠ [] := by
  obtain ⟨h1, h2⟩ := h
  have : o = 1 ∨ o = 2 ∨ o = 3 ∨ o = 4 ∨ o = 5 ∨ o = 6 ∨ o = 7 ∨ o = 8 := by omega
  rcases this with rfl | rfl | rfl | rfl | rfl | rfl | rfl | rfl <;> exact ⟨rfl, by decide, by decide⟩
theorem wd_out {o : Nat} (h : ¬ (1 ≤ o ∧ o ≤ 8)) : wordAt opsL (o : Nat) = .str [] := by
  unfold wordAt
  rw [if_neg]
  have : opsL.length = 8 := rfl
  omega
theorem strNe {G : List Nat → Option (List AV)} (x y : List UInt8) (h : x ≠ y) : abin (kn G base w0).c .neq 9 (.str x) (.str y) = some (.bool true) := by
  simp only [abin, astr]
  congr 2
  have : (x == y) = false := by simpa using h
  rw [this]; rfl
theorem strEq {G : List Nat → Option (List AV)} (x : List UInt8) : abin (kn G base w0).c .neq 9 (.str x) (.str x) = some (.bool false) := by
  simp only [abin, astr]
  congr 2
  simp
theorem namesBack_law (l : List UInt8) (hl0 : l.length ≤ maxLen) (o : Nat) (ho : o < 256) : ∃ r H', Pt (kn gT base w0) 6 [.str l, .int .u8 o] [] r H' ∧ r = .bool true := by
  refine Pt.fn (n := 71) (rs := [.tmp 4]) Tryd.func6 (b := _) rfl rfl rfl (by decide) ?_
  simp only [numbered]
  have p7 := fun H => awake_p (base := base) (w0 := w0) (H := H)
  have p8 : Pt (kn gT base w0) 8 [] [] (.ptr (.own 0) 0) [some (.row 54 8 fresh0)] := new_p (H := [])
  by_cases hl : l.length ≤ 200
  rotate_left
  · refine D.sq (D.ks (.e [(4, AV.bool false)] []) (by kernel_rfl) (D.sq (D.sq (D.ks (.c (@p7 []) <| .a <| .e [(12, AV.bool false)] []) (by kernel_rfl) (D.cf (by kernel_rfl) (D.skip (Ks_n' (D.sq (D.ks (.c p8 <| .e [(5, AV.ptr (Loc.own 0) 0)] ([some (AObj.row 54 8 fresh0)])) (by kernel_rfl) (D.sq (D.sq (D.ks (.a <| .a <| .y (show 200 < (↑(List.length l) : Int) by omega) <| .e [(20, AV.bool true)] ([some (AObj.row 54 8 fresh0)])) (by kernel_rfl) (D.ct (by kernel_rfl) (D.sq (D.ks (.a <| .e [(4, AV.bool true)] ([some (AObj.row 54 8 fresh0)])) (by kernel_rfl) (D.ret (Ks_r' (Kf_by (AV.bool true) (.r (AV.bool true)) (by kernel_rfl) ?_))))))))))))))))))
    rfl
  obtain ⟨K, a, b, c, m, p17, hm⟩ := tables_first (base := base) (w0 := w0)
  have p11 := number_p (G := gT) (base := base) (w0 := w0) hm p17 l
  have t17 := tables_p (G := gT) (base := base) (w0 := w0) hm
  have n2 := fun w => number_p (G := gT) (base := base) (w0 := w0) hm t17 w
  have o2 := fun k => op_p (G := gT) (base := base) (w0 := w0) hm t17 k
  generalize ([some (.row 54 8 fresh0)] : AHeap) = K1 at *
  by_cases hn : numOf l = 0
  · rw [decide_eq_false (by simp [hn]), hn] at p11
    by_cases hb : 1 ≤ o ∧ o ≤ 8
    · obtain ⟨w1, w2, w3⟩ := wd_in hb
      have o3 := o2 (o : Nat)
      rw [w1] at o3
      have n3 := n2 (wd o)
      rw [w2, decide_eq_true (by omega)] at n3
      have e1 := strNe (base := base) (w0 := w0) (G := gT) (wd o) [] w3
      clear o2 n2
      generalize wd o = w at *
      refine D.sq (D.ks (.e [(4, AV.bool false)] []) (by kernel_rfl) (D.sq (D.sq (D.ks (.c (@p7 []) <| .a <| .e [(12, AV.bool false)] []) (by kernel_rfl) (D.cf (by kernel_rfl) (D.skip (Ks_n' (D.sq (D.ks (.c p8 <| .e [(5, AV.ptr (Loc.own 0) 0)] K1) (by kernel_rfl) (D.sq (D.sq (D.ks (.a <| .a <| .o (show ¬ (200 < (↑(List.length l) : Int)) by omega) <| .e [(20, AV.bool false)] K1) (by kernel_rfl) (D.cf (by kernel_rfl) (D.skip (Ks_n' (D.sq (D.ks (.c p11 <| .e [(7, AV.bool false), (6, AV.int IntKind.i64 0)] K) (by kernel_rfl) (D.sq (D.sq (D.ks (.a <| .a <| .e [(46, AV.bool false)] K) (by kernel_rfl) (D.cf (by kernel_rfl) (D.skip (Ks_n' (D.sq (D.ks (.n (@wrap_to ((↑o : Int)) ((↑o : Int)) (by omega) (by omega) (by omega)) <| .c o3 <| .e [(8, AV.str w)] K) (by kernel_rfl) (D.sq (D.ks (.c n3 <| .e [(10, AV.bool true), (9, AV.int IntKind.i64 (↑o : Int))] K) (by kernel_rfl) (D.sq (D.ks (.v e1 <| .a <| .a <| .n (@wrap_to ((↑o : Int)) ((↑o : Int)) (by omega) (by omega) (by omega)) <| .y (show (↑o : Int) = (↑o : Int) by omega) <| .e [(4, AV.bool true)] K) (by kernel_rfl) (D.ret (Kf_by (AV.bool true) (.r (AV.bool true)) (by kernel_rfl) ?_)))))))))))))))))))))))))))))))
      rfl
    · have o3 := o2 (o : Nat)
      rw [wd_out hb] at o3
      have n3 := n2 []
      rw [show numOf [] = 0 by decide] at n3
      replace n3 : Pt (kn gT base w0) 11 [.ptr (.own 0) 0, .str []] K (.tuple [.int .i64 0, .bool false]) K := n3
      clear o2 n2
      refine D.sq (D.ks (.e [(4, AV.bool false)] []) (by kernel_rfl) (D.sq (D.sq (D.ks (.c (@p7 []) <| .a <| .e [(12, AV.bool false)] []) (by kernel_rfl) (D.cf (by kernel_rfl) (D.skip (Ks_n' (D.sq (D.ks (.c p8 <| .e [(5, AV.ptr (Loc.own 0) 0)] K1) (by kernel_rfl) (D.sq (D.sq (D.ks (.a <| .a <| .o (show ¬ (200 < (↑(List.length l) : Int)) by omega) <| .e [(20, AV.bool false)] K1) (by kernel_rfl) (D.cf (by kernel_rfl) (D.skip (Ks_n' (D.sq (D.ks (.c p11 <| .e [(7, AV.bool false), (6, AV.int IntKind.i64 0)] K) (by kernel_rfl) (D.sq (D.sq (D.ks (.a <| .a <| .e [(46, AV.bool false)] K) (by kernel_rfl) (D.cf (by kernel_rfl) (D.skip (Ks_n' (D.sq (D.ks (.n (@wrap_to ((↑o : Int)) ((↑o : Int)) (by omega) (by omega) (by omega)) <| .c o3 <| .e [(8, AV.str [])] K) (by kernel_rfl) (D.sq (D.ks (.c n3 <| .e [(10, AV.bool false), (9, AV.int IntKind.i64 0)] K) (by kernel_rfl) (D.sq (D.ks (.a <| .a <| .a <| .e [(4, AV.bool true)] K) (by kernel_rfl) (D.ret (Kf_by (AV.bool true) (.r (AV.bool true)) (by kernel_rfl) ?_)))))))))))))))))))))))))))))))
      rfl
  obtain ⟨k1, k2, k3⟩ := num_word hn
  rw [decide_eq_true hn] at p11
  have o4 := o2 (numOf l : Nat)
  rw [k3] at o4
  have e2 := strEq (base := base) (w0 := w0) (G := gT) l
  generalize numOf l = k at *
  by_cases hb : 1 ≤ o ∧ o ≤ 8
  · obtain ⟨w1, w2, w3⟩ := wd_in hb
    have o3 := o2 (o : Nat)
    rw [w1] at o3
    have n3 := n2 (wd o)
    rw [w2, decide_eq_true (by omega)] at n3
    have e1 := strNe (base := base) (w0 := w0) (G := gT) (wd o) [] w3
    clear o2 n2
    generalize wd o = w at *
    refine D.sq (D.ks (.e [(4, AV.bool false)] []) (by kernel_rfl) (D.sq (D.sq (D.ks (.c (@p7 []) <| .a <| .e [(12, AV.bool false)] []) (by kernel_rfl) (D.cf (by kernel_rfl) (D.skip (Ks_n' (D.sq (D.ks (.c p8 <| .e [(5, AV.ptr (Loc.own 0) 0)] K1) (by kernel_rfl) (D.sq (D.sq (D.ks (.a <| .a <| .o (show ¬ (200 < (↑(List.length l) : Int)) by omega) <| .e [(20, AV.bool false)] K1) (by kernel_rfl) (D.cf (by kernel_rfl) (D.skip (Ks_n' (D.sq (D.ks (.c p11 <| .e [(7, AV.bool true), (6, AV.int IntKind.i64 (↑k : Int))] K) (by kernel_rfl) (D.sq (D.sq (D.ks (.y (show 1 ≤ (↑k : Int) by omega) <| .y (show (↑k : Int) ≤ 8 by omega) <| .a <| .c o4 <| .v e2 <| .e [(46, AV.bool false)] K) (by kernel_rfl) (D.cf (by kernel_rfl) (D.skip (Ks_n' (D.sq (D.ks (.n (@wrap_to ((↑o : Int)) ((↑o : Int)) (by omega) (by omega) (by omega)) <| .c o3 <| .e [(8, AV.str w)] K) (by kernel_rfl) (D.sq (D.ks (.c n3 <| .e [(10, AV.bool true), (9, AV.int IntKind.i64 (↑o : Int))] K) (by kernel_rfl) (D.sq (D.ks (.v e1 <| .a <| .a <| .n (@wrap_to ((↑o : Int)) ((↑o : Int)) (by omega) (by omega) (by omega)) <| .y (show (↑o : Int) = (↑o : Int) by omega) <| .e [(4, AV.bool true)] K) (by kernel_rfl) (D.ret (Kf_by (AV.bool true) (.r (AV.bool true)) (by kernel_rfl) ?_)))))))))))))))))))))))))))))))
    rfl
  · have o3 := o2 (o : Nat)
    rw [wd_out hb] at o3
    have n3 := n2 []
    rw [show numOf [] = 0 by decide] at n3
    replace n3 : Pt (kn gT base w0) 11 [.ptr (.own 0) 0, .str []] K (.tuple [.int .i64 0, .bool false]) K := n3
    clear o2 n2
    refine D.sq (D.ks (.e [(4, AV.bool false)] []) (by kernel_rfl) (D.sq (D.sq (D.ks (.c (@p7 []) <| .a <| .e [(12, AV.bool false)] []) (by kernel_rfl) (D.cf (by kernel_rfl) (D.skip (Ks_n' (D.sq (D.ks (.c p8 <| .e [(5, AV.ptr (Loc.own 0) 0)] K1) (by kernel_rfl) (D.sq (D.sq (D.ks (.a <| .a <| .o (show ¬ (200 < (↑(List.length l) : Int)) by omega) <| .e [(20, AV.bool false)] K1) (by kernel_rfl) (D.cf (by kernel_rfl) (D.skip (Ks_n' (D.sq (D.ks (.c p11 <| .e [(7, AV.bool true), (6, AV.int IntKind.i64 (↑k : Int))] K) (by kernel_rfl) (D.sq (D.sq (D.ks (.y (show 1 ≤ (↑k : Int) by omega) <| .y (show (↑k : Int) ≤ 8 by omega) <| .a <| .c o4 <| .v e2 <| .e [(46, AV.bool false)] K) (by kernel_rfl) (D.cf (by kernel_rfl) (D.skip (Ks_n' (D.sq (D.ks (.n (@wrap_to ((↑o : Int)) ((↑o : Int)) (by omega) (by omega) (by omega)) <| .c o3 <| .e [(8, AV.str [])] K) (by kernel_rfl) (D.sq (D.ks (.c n3 <| .e [(10, AV.bool false), (9, AV.int IntKind.i64 0)] K) (by kernel_rfl) (D.sq (D.ks (.a <| .a <| .a <| .e [(4, AV.bool true)] K) (by kernel_rfl) (D.ret (Kf_by (AV.bool true) (.r (AV.bool true)) (by kernel_rfl) ?_)))))))))))))))))))))))))))))))
    rfl
end Go.Proofs.YtldiaopobcebpaaDoor.sy

/- law9's NamesTell (own work). -/
namespace Go.Proofs.YtldiaopobcebpaaDoor.sy
open Go.AM Go.RowKit
set_option linter.unusedSimpArgs false
set_option linter.unusedVariables false
set_option maxRecDepth 100000
set_option maxHeartbeats 8000000
variable {base : Nat} {w0 : World} {H : AHeap}
def words9 : List AV := .str [] :: opsL
def modes5 : List AV := .str [] :: modesL
theorem words_p {G : List Nat → Option (List AV)} : Pt (kn G base w0) 10 [] H (.slice (.own H.length) 1 0 9) (hnew H (.row 9 1 words9)) := by
  have key : ∃ r H', Pt (kn G base w0) 10 [] H r H' ∧ r = .slice (.own H.length) 1 0 9 ∧ H' = hnew H (.row 9 1 words9) := by
    refine Pt.fn (n := 2) (rs := [.tmp 0]) Tryd.func10 (b := _) rfl rfl rfl (by decide) ?_
    simp only [numbered]
    refine D.sq (D.ks (.e [(0, AV.nilslice)] H) (by kernel_rfl) (D.sq (D.ks (.e [(0, AV.slice (Loc.own (List.length H)) 1 0 9)] (hnew H (AObj.row 9 1 [AV.str (Array.toList (ByteArray.data { data := #[] })), AV.str (Array.toList (ByteArray.data { data := #[106, 111, 105, 110] })), AV.str (Array.toList (ByteArray.data { data := #[115, 112, 111, 114, 97, 100, 105, 99] })), AV.str (Array.toList (ByteArray.data { data := #[108, 101, 97, 118, 101] })), AV.str (Array.toList (ByteArray.data { data := #[97, 98, 111, 114, 116] })), AV.str (Array.toList (ByteArray.data { data := #[97, 114, 114, 105, 118, 101] })), AV.str (Array.toList (ByteArray.data { data := #[100, 111, 110, 101] })), AV.str (Array.toList (ByteArray.data { data := #[98, 97, 99, 107] })), AV.str (Array.toList (ByteArray.data { data := #[116, 105, 99, 107] }))]))) (by kernel_rfl) (D.ret (Kf_by (AV.slice (Loc.own (List.length H)) 1 0 9) (.r (AV.slice (Loc.own (List.length H)) 1 0 9)) (by kernel_rfl) ?_)))))
    exact ⟨rfl, rfl⟩
  obtain ⟨r, H', h, rfl, rfl⟩ := key
  exact h
theorem tell_run : madeB 0 (acall ⟨Tryd.prog, gT⟩ drawRunB gcCall prN 60 17 [.ptr (.own 0) 0] [some (.row 54 8 fresh0), some (.row 9 1 words9), some (.row 9 1 modes5)]) = true := by kernel_rfl
theorem tell_first : ∃ K a b c m, Pt (kn gT base w0) 17 [.ptr (.own 0) 0] [some (.row 54 8 fresh0), some (.row 9 1 words9), some (.row 9 1 modes5)] (.tuple []) K ∧ Made K 0 a b c m := by
  obtain ⟨K, a, b, c, m, h, hm⟩ := madeB_ok tell_run
  exact ⟨K, a, b, c, m, Pt.run (κ := kn gT base w0) (prN_ok (base := base) (w0 := w0)) h, hm⟩
/-- the word of a number, whatever it is -/
def wdI (L : List (List UInt8)) (k : Int) : List UInt8 := if 1 ≤ k ∧ k ≤ L.length then L.getD (k - 1).toNat [] else []
def modesW : List (List UInt8) := [[112, 102, 97, 105, 114], [101, 97, 114, 108, 121], [119, 114, 97, 112], [116, 119, 105, 110]]
theorem wdI_at {L : List (List UInt8)} {M : List AV} (h : M = L.map .str) (k : Int) : wordAt M k = .str (wdI L k) := by
  subst h
  unfold wordAt wdI
  rw [List.length_map]
  split
  · rename_i hk
    have hi : (k - 1).toNat < L.length := by omega
    rw [List.getD_eq_getElem?_getD, List.getD_eq_getElem?_getD, List.getElem?_map, List.getElem?_eq_getElem hi]
    rfl
  · rfl
theorem errAt_str (e : Int) : ∃ s, errAt e = .str s := by
  unfold errAt
  split
  · rename_i h
    have : ∀ i : Nat, i < 15 → ∃ s, errsL.getD i (.str []) = .str s := by
      intro i hi
      have : i = 0 ∨ i = 1 ∨ i = 2 ∨ i = 3 ∨ i = 4 ∨ i = 5 ∨ i = 6 ∨ i = 7 ∨ i = 8 ∨ i = 9 ∨ i = 10 ∨ i = 11 ∨ i = 12 ∨ i = 13 ∨ i = 14 := by omega
      rcases this with rfl | rfl | rfl | rfl | rfl | rfl | rfl | rfl | rfl | rfl | rfl | rfl | rfl | rfl | rfl <;> exact ⟨_, rfl⟩
    exact this e.toNat (by omega)
  · exact ⟨_, rfl⟩
theorem wd_num {w : List UInt8} {i : Nat} (hi : 1 ≤ i ∧ i ≤ 8) : wd i = w ↔ numOf w = i := by
  obtain ⟨h1, h2, h3⟩ := wd_in hi
  constructor
  · rintro rfl; exact h2
  · intro h
    obtain ⟨_, _, k3⟩ := num_word (w := w) (by omega)
    rw [h, h1] at k3
    exact AV.str.inj k3
theorem strEql {G : List Nat → Option (List AV)} (x y : List UInt8) : abin (kn G base w0).c .eql 9 (.str x) (.str y) = some (.bool (decide (x = y))) := by
  simp only [abin, astr]
  congr 2
  by_cases h : x = y
  · subst h; simp
  · rw [decide_eq_false h]; simpa using h
theorem ld_str {G : List Nat → Option (List AV)} {a n i : Nat} {L : List AV} {v : AV} (hL : hat H a = some (.row 9 1 L)) (hn : L.length = n) (hi : i < n) (hv : L[i]? = some v) :
    aindexAddr (kn G base w0).c 26 (.slice (.own a) 1 0 n) (.int .i64 (i : Nat)) = some (.ptr (.own a) i) ∧ aload (kn G base w0).c H 9 (.ptr (.own a) i) = some v := by
  have := ix_own (c := (kn G base w0).c) (b := a) (k := .i64) Tryd.underlying26 sz9 (by decide) hi
  rw [Nat.mul_one] at this
  exact ⟨this, ld_own hL hv ag9⟩
theorem words9_get {i : Nat} (hi : 1 ≤ i ∧ i ≤ 8) : words9[i]? = some (.str (wd i)) := by
  have : i = 1 ∨ i = 2 ∨ i = 3 ∨ i = 4 ∨ i = 5 ∨ i = 6 ∨ i = 7 ∨ i = 8 := by omega
  rcases this with rfl | rfl | rfl | rfl | rfl | rfl | rfl | rfl <;> rfl
theorem modes5_get {i : Nat} (hi : 1 ≤ i ∧ i ≤ 4) : modes5[i]? = some (.str (wdI modesW (i : Nat))) := by
  have : i = 1 ∨ i = 2 ∨ i = 3 ∨ i = 4 := by omega
  rcases this with rfl | rfl | rfl | rfl <;> rfl
theorem wdI_wd {i : Nat} : wdI wordsL (i : Nat) = wd i := by
  unfold wdI wd
  have : wordsL.length = 8 := rfl
  by_cases h : 1 ≤ i ∧ i ≤ 8
  · rw [if_pos h, if_pos (by omega)]
    congr 1
    omega
  · rw [if_neg h, if_neg (by omega)]
end Go.Proofs.YtldiaopobcebpaaDoor.sy

/- law9's NamesTell: the walk (own work). -/
namespace Go.Proofs.YtldiaopobcebpaaDoor.sy
open Go.AM Go.RowKit
set_option linter.unusedSimpArgs false
set_option linter.unusedVariables false
set_option maxRecDepth 100000
set_option maxHeartbeats 8000000
variable {base : Nat} {w0 : World} {H : AHeap}
theorem remB (x y : Nat) (hy : 0 < y) (t : TypeId) : abin (kn gT base w0).c .rem t (.int .u8 x) (.int .u8 y) = some (.int .u8 ((x % y : Nat) : Int)) := by
  simp only [abin, if_true, aint]
  rw [if_neg (by omega)]
  rfl
theorem cutD {κ : Kn} {b : Code} {H : AHeap} {K : _} {e0 : AEnv} {Q : Prop} (rest : ∀ env, ELe e0 env → D κ b env H K) (front : (∀ env, ELe e0 env → D κ b env H K) → Q) : Q := front rest
theorem namesTell_law (op : Int) (hop : (Lit.int .i64 op).wf = true) (l : List UInt8) (hl0 : l.length ≤ maxLen) (ti : Nat) (hti : ti < 256) : ∃ r H', Pt (kn gT base w0) 3 [.int .i64 op, .str l, .int .u8 ti] [] r H' ∧ r = .bool true := by
  refine Pt.fn (n := 118) (rs := [.tmp 6]) Tryd.func3 (b := _) rfl rfl rfl (by decide) ?_
  simp only [numbered]
  have p7 := fun H => awake_p (base := base) (w0 := w0) (H := H)
  have p8 : Pt (kn gT base w0) 8 [] [] (.ptr (.own 0) 0) [some (.row 54 8 fresh0)] := new_p (H := [])
  have p9 : Pt (kn gT base w0) 9 [.ptr (.own 0) 0] [some (.row 54 8 fresh0)] (.int .i64 0) [some (.row 54 8 fresh0)] := made0_p rfl
  have p10 : Pt (kn gT base w0) 10 [] [some (.row 54 8 fresh0)] (.slice (.own 1) 1 0 9) [some (.row 54 8 fresh0), some (.row 9 1 words9)] := words_p
  by_cases hl : l.length ≤ 100
  rotate_left
  · refine D.sq (D.ks (.e [(6, AV.bool false)] []) (by kernel_rfl) (D.sq (D.sq (D.ks (.c (@p7 []) <| .a <| .e [(18, AV.bool false)] []) (by kernel_rfl) (D.cf (by kernel_rfl) (D.skip (Ks_n' (D.sq (D.sq (D.ks (.a <| .y (show 100 < (↑(List.length l) : Int) by omega) <| .e [(21, AV.bool true)] []) (by kernel_rfl) (D.ct (by kernel_rfl) (D.sq (D.ks (.e [(6, AV.bool true)] []) (by kernel_rfl) (D.ret (Ks_r' (Kf_by (AV.bool true) (.r (AV.bool true)) (by kernel_rfl) ?_))))))))))))))))
    rfl
  obtain ⟨H2, hH2⟩ : ∃ H2 : AHeap, H2 = [some (.row 54 8 fresh0), some (.row 9 1 words9)] := ⟨_, rfl⟩
  have hw2 : hat H2 1 = some (.row 9 1 words9) := by rw [hH2]; rfl
  have hl2 : H2.length = 2 := by rw [hH2]; rfl
  have hH3 : hnew H2 (.row 9 1 modes5) = [some (.row 54 8 fresh0), some (.row 9 1 words9), some (.row 9 1 modes5)] := by rw [hH2]; rfl
  rw [← hH2] at p10
  clear hH2
  have hop2 : IntKind.i64.min ≤ op ∧ op ≤ IntKind.i64.max := by simpa [Lit.wf] using hop
  simp [IntKind.min, IntKind.max, IntKind.signed, IntKind.bits] at hop2
  obtain ⟨want, hwant⟩ : ∃ w, w = wdI wordsL op := ⟨_, rfl⟩
  obtain ⟨mode, hmode⟩ : ∃ w, w = wdI modesW op := ⟨_, rfl⟩
  refine' cutD (κ := kn gT base w0) (H := H2) (e0 := E 118 [(11, .int .i64 1), (10, .int .i64 0), (9, .str want), (8, .slice (.own 1) 1 0 9), (7, .ptr (.own 0) 0), (2, .int .u8 ti), (1, .str l), (0, .int .i64 op), (6, .bool false)]) ?rest ?front
  case front =>
    intro rest
    by_cases ho : 1 ≤ op
    rotate_left
    · have : want = [] := by rw [hwant]; unfold wdI; rw [if_neg (by omega)]
      refine D.sq (D.ks (.e [(6, AV.bool false)] []) (by kernel_rfl) (D.sq (D.sq (D.ks (.c (@p7 []) <| .a <| .e [(18, AV.bool false)] []) (by kernel_rfl) (D.cf (by kernel_rfl) (D.skip (Ks_n' (D.sq (D.sq (D.ks (.a <| .o (show ¬ (100 < (↑(List.length l) : Int)) by omega) <| .e [(21, AV.bool false)] []) (by kernel_rfl) (D.cf (by kernel_rfl) (D.skip (Ks_n' (D.sq (D.ks (.c p8 <| .e [(7, AV.ptr (Loc.own 0) 0)] ([some (AObj.row 54 8 fresh0)])) (by kernel_rfl) (D.sq (D.sq (D.ks (.a <| .c p9 <| .a <| .e [(29, AV.bool false)] ([some (AObj.row 54 8 fresh0)])) (by kernel_rfl) (D.cf (by kernel_rfl) (D.skip (Ks_n' (D.sq (D.ks (.c p10 <| .e [(8, AV.slice (Loc.own 1) 1 0 9)] H2) (by kernel_rfl) (D.sq (D.ks (.e [(9, AV.str (Array.toList (ByteArray.data { data := #[] })))] H2) (by kernel_rfl) (D.sq (D.sq (D.ks (.o (show ¬ (1 ≤ op) by omega) <| .e [(38, AV.bool false)] H2) (by kernel_rfl) (D.cf (by kernel_rfl) (D.skip (Ks_n' (D.sq (D.ks (.e [(10, AV.int IntKind.i64 0)] H2) (by kernel_rfl) (D.sq (D.sq (D.ks (.e [(11, AV.int IntKind.i64 1)] H2) (by kernel_rfl) (D.bl ?_)))))))))))))))))))))))))))))))))))))
      exact rest _ (by rw [this]; exact E_le (by decide) (E_size _ _) (by simp only [List.forall_mem_cons, List.not_mem_nil, false_implies, implies_true, and_true, List.cons_append, List.nil_append, Nat.zero_add, Nat.reduceAdd, E_get, Nat.reduceEqDiff, Nat.reduceLT, Nat.reduceLeDiff, if_true, if_false, and_self, true_and] <;> first | rfl | exact ⟨rfl, rfl⟩))
    by_cases ho9 : op < 9
    rotate_left
    · have : want = [] := by rw [hwant]; unfold wdI; rw [if_neg (by have : wordsL.length = 8 := rfl; omega)]
      refine D.sq (D.ks (.e [(6, AV.bool false)] []) (by kernel_rfl) (D.sq (D.sq (D.ks (.c (@p7 []) <| .a <| .e [(18, AV.bool false)] []) (by kernel_rfl) (D.cf (by kernel_rfl) (D.skip (Ks_n' (D.sq (D.sq (D.ks (.a <| .o (show ¬ (100 < (↑(List.length l) : Int)) by omega) <| .e [(21, AV.bool false)] []) (by kernel_rfl) (D.cf (by kernel_rfl) (D.skip (Ks_n' (D.sq (D.ks (.c p8 <| .e [(7, AV.ptr (Loc.own 0) 0)] ([some (AObj.row 54 8 fresh0)])) (by kernel_rfl) (D.sq (D.sq (D.ks (.a <| .c p9 <| .a <| .e [(29, AV.bool false)] ([some (AObj.row 54 8 fresh0)])) (by kernel_rfl) (D.cf (by kernel_rfl) (D.skip (Ks_n' (D.sq (D.ks (.c p10 <| .e [(8, AV.slice (Loc.own 1) 1 0 9)] H2) (by kernel_rfl) (D.sq (D.ks (.e [(9, AV.str (Array.toList (ByteArray.data { data := #[] })))] H2) (by kernel_rfl) (D.sq (D.sq (D.ks (.y (show 1 ≤ op by omega) <| .a <| .o (show ¬ (op < 9) by omega) <| .e [(38, AV.bool false)] H2) (by kernel_rfl) (D.cf (by kernel_rfl) (D.skip (Ks_n' (D.sq (D.ks (.e [(10, AV.int IntKind.i64 0)] H2) (by kernel_rfl) (D.sq (D.sq (D.ks (.e [(11, AV.int IntKind.i64 1)] H2) (by kernel_rfl) (D.bl ?_)))))))))))))))))))))))))))))))))))))
      exact rest _ (by rw [this]; exact E_le (by decide) (E_size _ _) (by simp only [List.forall_mem_cons, List.not_mem_nil, false_implies, implies_true, and_true, List.cons_append, List.nil_append, Nat.zero_add, Nat.reduceAdd, E_get, Nat.reduceEqDiff, Nat.reduceLT, Nat.reduceLeDiff, if_true, if_false, and_self, true_and] <;> first | rfl | exact ⟨rfl, rfl⟩))
    · obtain ⟨o, rfl⟩ : ∃ o : Nat, op = o := ⟨op.toNat, by omega⟩
      obtain ⟨ia, ld⟩ := ld_str (base := base) (w0 := w0) (G := gT) hw2 (n := 9) (i := o) rfl (by omega) (words9_get (by omega))
      rw [← wdI_wd, ← hwant] at ld
      refine D.sq (D.ks (.e [(6, AV.bool false)] []) (by kernel_rfl) (D.sq (D.sq (D.ks (.c (@p7 []) <| .a <| .e [(18, AV.bool false)] []) (by kernel_rfl) (D.cf (by kernel_rfl) (D.skip (Ks_n' (D.sq (D.sq (D.ks (.a <| .o (show ¬ (100 < (↑(List.length l) : Int)) by omega) <| .e [(21, AV.bool false)] []) (by kernel_rfl) (D.cf (by kernel_rfl) (D.skip (Ks_n' (D.sq (D.ks (.c p8 <| .e [(7, AV.ptr (Loc.own 0) 0)] ([some (AObj.row 54 8 fresh0)])) (by kernel_rfl) (D.sq (D.sq (D.ks (.a <| .c p9 <| .a <| .e [(29, AV.bool false)] ([some (AObj.row 54 8 fresh0)])) (by kernel_rfl) (D.cf (by kernel_rfl) (D.skip (Ks_n' (D.sq (D.ks (.c p10 <| .e [(8, AV.slice (Loc.own 1) 1 0 9)] H2) (by kernel_rfl) (D.sq (D.ks (.e [(9, AV.str (Array.toList (ByteArray.data { data := #[] })))] H2) (by kernel_rfl) (D.sq (D.sq (D.ks (.y (show 1 ≤ (↑o : Int) by omega) <| .a <| .y (show (↑o : Int) < 9 by omega) <| .e [(38, AV.bool true)] H2) (by kernel_rfl) (D.ct (by kernel_rfl) (D.ks (.v ia <| .v ld <| .e [(9, AV.str want)] H2) (by kernel_rfl) (D.sq (D.ks (.e [(10, AV.int IntKind.i64 0)] H2) (by kernel_rfl) (D.sq (D.sq (D.ks (.e [(11, AV.int IntKind.i64 1)] H2) (by kernel_rfl) (D.bl ?_))))))))))))))))))))))))))))))))))))
      exact rest _ (by exact E_le (by decide) (E_size _ _) (by simp only [List.forall_mem_cons, List.not_mem_nil, false_implies, implies_true, and_true, List.cons_append, List.nil_append, Nat.zero_add, Nat.reduceAdd, E_get, Nat.reduceEqDiff, Nat.reduceLT, Nat.reduceLeDiff, if_true, if_false, and_self, true_and] <;> first | rfl | exact ⟨rfl, rfl⟩))
  intro env he
  refine D.forget he ?_
  clear he p8 p9 p10 p7
  have hwant0 := hwant
  clear hwant
  skip
  refine D.lp (fun m env H' => H' = H2 ∧ ∃ i : Nat, m = 9 - i ∧ 1 ≤ i ∧ i ≤ 9 ∧ ELe (E 118 [(11, .int .i64 i), (10, .int .i64 ((if numOf l < i then numOf l else 0 : Nat) : Int)), (9, .str want), (8, .slice (.own 1) 1 0 9), (7, .ptr (.own 0) 0), (2, .int .u8 ti), (1, .str l), (0, .int .i64 op), (6, .bool false)]) env) 8
    ⟨rfl, 1, by omega, by omega, by omega, by rw [show ((if numOf l < 1 then numOf l else 0 : Nat) : Int) = 0 by split <;> omega]; exact E_le (by decide) (E_size _ _) (by simp only [List.forall_mem_cons, List.not_mem_nil, false_implies, implies_true, and_true, List.cons_append, List.nil_append, Nat.zero_add, Nat.reduceAdd, E_get, Nat.reduceEqDiff, Nat.reduceLT, Nat.reduceLeDiff, if_true, if_false, and_self, true_and] <;> first | rfl | exact ⟨rfl, rfl⟩)⟩ ?_
  rintro m env H' ⟨rfl, i, rfl, hi1, hi9, he⟩
  refine D.forget he ?_
  clear he
  by_cases hi : i < 9
  · obtain ⟨ia, ld⟩ := ld_str (base := base) (w0 := w0) (G := gT) hw2 (n := 9) (i := i) rfl (by omega) (words9_get (by omega))
    have e1 := strEql (base := base) (w0 := w0) (G := gT) (wd i) l
    have hn := wd_num (w := l) (i := i) (by omega)
    generalize wd i = w at *
    by_cases hwl : w = l
    · have hni := hn.1 hwl
      rw [decide_eq_true hwl] at e1
      refine D.sq (D.sq (D.ks (.a <| .y (show (↑i : Int) < 9 by omega) <| .e [(46, AV.bool true)] H') (by kernel_rfl) (D.ct (by kernel_rfl) (D.skip (Ks_n' (D.sq (D.bl (D.sq (D.ks (.v ia <| .v ld <| .v e1 <| .e [(54, AV.bool true)] H') (by kernel_rfl) (D.ct (by kernel_rfl) (D.kr (.e [(10, AV.int IntKind.i64 (↑i : Int))] H') (by kernel_rfl) (Kb_n' (Ks_n' (D.kr (.n (@wrap_to ((↑i : Int) + 1) ((↑(i + 1) : Int)) (by omega) (by omega) (by omega)) <| .e [(11, AV.int IntKind.i64 (↑(i + 1) : Int))] H') (by kernel_rfl) ?_))))))))))))))
      exact ⟨9 - (i + 1), by omega, rfl, i + 1, rfl, by omega, by omega, by rw [if_pos (by omega), hni]; exact E_le (by decide) (E_size _ _) (by simp only [List.forall_mem_cons, List.not_mem_nil, false_implies, implies_true, and_true, List.cons_append, List.nil_append, Nat.zero_add, Nat.reduceAdd, E_get, Nat.reduceEqDiff, Nat.reduceLT, Nat.reduceLeDiff, if_true, if_false, and_self, true_and] <;> first | rfl | exact ⟨rfl, rfl⟩)⟩
    · have hni : ¬ numOf l = i := fun h => hwl (hn.2 h)
      rw [decide_eq_false hwl] at e1
      have hif : (if numOf l < i then numOf l else 0) = (if numOf l < i + 1 then numOf l else 0) := by
        by_cases h : numOf l < i
        · rw [if_pos h, if_pos (by omega)]
        · rw [if_neg h, if_neg (by omega)]
      rw [hif]
      refine D.sq (D.sq (D.ks (.a <| .y (show (↑i : Int) < 9 by omega) <| .e [(46, AV.bool true)] H') (by kernel_rfl) (D.ct (by kernel_rfl) (D.skip (Ks_n' (D.sq (D.bl (D.sq (D.ks (.v ia <| .v ld <| .v e1 <| .e [(54, AV.bool false)] H') (by kernel_rfl) (D.cf (by kernel_rfl) (D.skip (Kb_n' (Ks_n' (D.kr (.n (@wrap_to ((↑i : Int) + 1) ((↑(i + 1) : Int)) (by omega) (by omega) (by omega)) <| .e [(11, AV.int IntKind.i64 (↑(i + 1) : Int))] H') (by kernel_rfl) ?_))))))))))))))
      exact ⟨9 - (i + 1), by omega, rfl, i + 1, rfl, by omega, by omega, by exact E_le (by decide) (E_size _ _) (by simp only [List.forall_mem_cons, List.not_mem_nil, false_implies, implies_true, and_true, List.cons_append, List.nil_append, Nat.zero_add, Nat.reduceAdd, E_get, Nat.reduceEqDiff, Nat.reduceLT, Nat.reduceLeDiff, if_true, if_false, and_self, true_and] <;> first | rfl | exact ⟨rfl, rfl⟩)⟩
  obtain rfl : i = 9 := by omega
  have hnum : (if numOf l < 9 then numOf l else 0) = numOf l := by
    by_cases h : numOf l = 0
    · rw [h]; rfl
    · rw [if_pos (by have := (num_word h).2.1; omega)]
  rw [hnum]
  obtain ⟨K1, a1, b1, c1, m1, t1, hm1⟩ := tell_first (base := base) (w0 := w0)
  rw [← hH3] at t1
  have hw3 : hat (hnew H' (.row 9 1 modes5)) 2 = some (.row 9 1 modes5) := by rw [hH3]; rfl
  obtain ⟨k, hk⟩ : ∃ k, numOf l = k := ⟨_, rfl⟩
  rw [hk]
  refine' cutD (κ := kn gT base w0) (H := hnew H' (.row 9 1 modes5)) (e0 := E 118 [(14, .int .i64 0), (13, .str mode), (11, .int .i64 9), (10, .int .i64 k), (9, .str want), (8, .slice (.own 1) 1 0 9), (7, .ptr (.own 0) 0), (2, .int .u8 ti), (1, .str l), (0, .int .i64 op), (6, .bool false)]) ?rest2 ?front2
  case front2 =>
    intro rest
    have kp : H'.length = 2 := hl2
    by_cases ho : 1 ≤ op
    rotate_left
    · have : mode = [] := by rw [hmode]; unfold wdI; rw [if_neg (by omega)]
      refine D.sq (D.sq (D.ks (.a <| .a <| .e [(46, AV.bool false)] H') (by kernel_rfl) (D.cf (by kernel_rfl) (D.exit (Ks_e' (Kl_e' (Kb_e' (Ks_n' (D.sq (D.ks (.e [(12, AV.slice (Loc.own (List.length H')) 1 0 5)] (hnew H' (AObj.row 9 1 [AV.str (Array.toList (ByteArray.data { data := #[] })), AV.str (Array.toList (ByteArray.data { data := #[112, 102, 97, 105, 114] })), AV.str (Array.toList (ByteArray.data { data := #[101, 97, 114, 108, 121] })), AV.str (Array.toList (ByteArray.data { data := #[119, 114, 97, 112] })), AV.str (Array.toList (ByteArray.data { data := #[116, 119, 105, 110] }))]))) (by kernel_rfl) (D.sq (D.ks (.e [(13, AV.str (Array.toList (ByteArray.data { data := #[] })))] (hnew H' (AObj.row 9 1 [AV.str (Array.toList (ByteArray.data { data := #[] })), AV.str (Array.toList (ByteArray.data { data := #[112, 102, 97, 105, 114] })), AV.str (Array.toList (ByteArray.data { data := #[101, 97, 114, 108, 121] })), AV.str (Array.toList (ByteArray.data { data := #[119, 114, 97, 112] })), AV.str (Array.toList (ByteArray.data { data := #[116, 119, 105, 110] }))]))) (by kernel_rfl) (D.sq (D.sq (D.ks (.o (show ¬ (1 ≤ op) by omega) <| .e [(64, AV.bool false)] (hnew H' (AObj.row 9 1 [AV.str (Array.toList (ByteArray.data { data := #[] })), AV.str (Array.toList (ByteArray.data { data := #[112, 102, 97, 105, 114] })), AV.str (Array.toList (ByteArray.data { data := #[101, 97, 114, 108, 121] })), AV.str (Array.toList (ByteArray.data { data := #[119, 114, 97, 112] })), AV.str (Array.toList (ByteArray.data { data := #[116, 119, 105, 110] }))]))) (by kernel_rfl) (D.cf (by kernel_rfl) (D.skip (Ks_n' (D.sq (D.sq (D.ks (.e [(14, AV.int IntKind.i64 0)] (hnew H' (AObj.row 9 1 [AV.str (Array.toList (ByteArray.data { data := #[] })), AV.str (Array.toList (ByteArray.data { data := #[112, 102, 97, 105, 114] })), AV.str (Array.toList (ByteArray.data { data := #[101, 97, 114, 108, 121] })), AV.str (Array.toList (ByteArray.data { data := #[119, 114, 97, 112] })), AV.str (Array.toList (ByteArray.data { data := #[116, 119, 105, 110] }))]))) (by kernel_rfl) (D.bl ?_))))))))))))))))))))))
      exact rest _ (by rw [this]; exact E_le (by decide) (E_size _ _) (by simp only [List.forall_mem_cons, List.not_mem_nil, false_implies, implies_true, and_true, List.cons_append, List.nil_append, Nat.zero_add, Nat.reduceAdd, E_get, Nat.reduceEqDiff, Nat.reduceLT, Nat.reduceLeDiff, if_true, if_false, and_self, true_and] <;> first | rfl | exact ⟨rfl, rfl⟩))
    by_cases ho9 : op < 5
    rotate_left
    · have : mode = [] := by rw [hmode]; unfold wdI; rw [if_neg (by have : modesW.length = 4 := rfl; omega)]
      refine D.sq (D.sq (D.ks (.a <| .a <| .e [(46, AV.bool false)] H') (by kernel_rfl) (D.cf (by kernel_rfl) (D.exit (Ks_e' (Kl_e' (Kb_e' (Ks_n' (D.sq (D.ks (.e [(12, AV.slice (Loc.own (List.length H')) 1 0 5)] (hnew H' (AObj.row 9 1 [AV.str (Array.toList (ByteArray.data { data := #[] })), AV.str (Array.toList (ByteArray.data { data := #[112, 102, 97, 105, 114] })), AV.str (Array.toList (ByteArray.data { data := #[101, 97, 114, 108, 121] })), AV.str (Array.toList (ByteArray.data { data := #[119, 114, 97, 112] })), AV.str (Array.toList (ByteArray.data { data := #[116, 119, 105, 110] }))]))) (by kernel_rfl) (D.sq (D.ks (.e [(13, AV.str (Array.toList (ByteArray.data { data := #[] })))] (hnew H' (AObj.row 9 1 [AV.str (Array.toList (ByteArray.data { data := #[] })), AV.str (Array.toList (ByteArray.data { data := #[112, 102, 97, 105, 114] })), AV.str (Array.toList (ByteArray.data { data := #[101, 97, 114, 108, 121] })), AV.str (Array.toList (ByteArray.data { data := #[119, 114, 97, 112] })), AV.str (Array.toList (ByteArray.data { data := #[116, 119, 105, 110] }))]))) (by kernel_rfl) (D.sq (D.sq (D.ks (.y (show 1 ≤ op by omega) <| .a <| .o (show ¬ (op < 5) by omega) <| .e [(64, AV.bool false)] (hnew H' (AObj.row 9 1 [AV.str (Array.toList (ByteArray.data { data := #[] })), AV.str (Array.toList (ByteArray.data { data := #[112, 102, 97, 105, 114] })), AV.str (Array.toList (ByteArray.data { data := #[101, 97, 114, 108, 121] })), AV.str (Array.toList (ByteArray.data { data := #[119, 114, 97, 112] })), AV.str (Array.toList (ByteArray.data { data := #[116, 119, 105, 110] }))]))) (by kernel_rfl) (D.cf (by kernel_rfl) (D.skip (Ks_n' (D.sq (D.sq (D.ks (.e [(14, AV.int IntKind.i64 0)] (hnew H' (AObj.row 9 1 [AV.str (Array.toList (ByteArray.data { data := #[] })), AV.str (Array.toList (ByteArray.data { data := #[112, 102, 97, 105, 114] })), AV.str (Array.toList (ByteArray.data { data := #[101, 97, 114, 108, 121] })), AV.str (Array.toList (ByteArray.data { data := #[119, 114, 97, 112] })), AV.str (Array.toList (ByteArray.data { data := #[116, 119, 105, 110] }))]))) (by kernel_rfl) (D.bl ?_))))))))))))))))))))))
      exact rest _ (by rw [this]; exact E_le (by decide) (E_size _ _) (by simp only [List.forall_mem_cons, List.not_mem_nil, false_implies, implies_true, and_true, List.cons_append, List.nil_append, Nat.zero_add, Nat.reduceAdd, E_get, Nat.reduceEqDiff, Nat.reduceLT, Nat.reduceLeDiff, if_true, if_false, and_self, true_and] <;> first | rfl | exact ⟨rfl, rfl⟩))
    · obtain ⟨o, rfl⟩ : ∃ o : Nat, op = o := ⟨op.toNat, by omega⟩
      obtain ⟨ia, ld⟩ := ld_str (base := base) (w0 := w0) (G := gT) hw3 (n := 5) (i := o) rfl (by omega) (modes5_get (by omega))
      rw [← hmode] at ld
      rw [← kp] at ia ld
      replace ld : aload (kn gT base w0).c (hnew H' (.row 9 1 [.str (ByteArray.mk #[]).data.toList, .str (ByteArray.mk #[112, 102, 97, 105, 114]).data.toList, .str (ByteArray.mk #[101, 97, 114, 108, 121]).data.toList, .str (ByteArray.mk #[119, 114, 97, 112]).data.toList, .str (ByteArray.mk #[116, 119, 105, 110]).data.toList])) 9 (.ptr (.own H'.length) o) = some (.str mode) := ld
      refine D.sq (D.sq (D.ks (.a <| .a <| .e [(46, AV.bool false)] H') (by kernel_rfl) (D.cf (by kernel_rfl) (D.exit (Ks_e' (Kl_e' (Kb_e' (Ks_n' (D.sq (D.ks (.e [(12, AV.slice (Loc.own (List.length H')) 1 0 5)] (hnew H' (AObj.row 9 1 [AV.str (Array.toList (ByteArray.data { data := #[] })), AV.str (Array.toList (ByteArray.data { data := #[112, 102, 97, 105, 114] })), AV.str (Array.toList (ByteArray.data { data := #[101, 97, 114, 108, 121] })), AV.str (Array.toList (ByteArray.data { data := #[119, 114, 97, 112] })), AV.str (Array.toList (ByteArray.data { data := #[116, 119, 105, 110] }))]))) (by kernel_rfl) (D.sq (D.ks (.e [(13, AV.str (Array.toList (ByteArray.data { data := #[] })))] (hnew H' (AObj.row 9 1 [AV.str (Array.toList (ByteArray.data { data := #[] })), AV.str (Array.toList (ByteArray.data { data := #[112, 102, 97, 105, 114] })), AV.str (Array.toList (ByteArray.data { data := #[101, 97, 114, 108, 121] })), AV.str (Array.toList (ByteArray.data { data := #[119, 114, 97, 112] })), AV.str (Array.toList (ByteArray.data { data := #[116, 119, 105, 110] }))]))) (by kernel_rfl) (D.sq (D.sq (D.ks (.y (show 1 ≤ (↑o : Int) by omega) <| .a <| .y (show (↑o : Int) < 5 by omega) <| .e [(64, AV.bool true)] (hnew H' (AObj.row 9 1 [AV.str (Array.toList (ByteArray.data { data := #[] })), AV.str (Array.toList (ByteArray.data { data := #[112, 102, 97, 105, 114] })), AV.str (Array.toList (ByteArray.data { data := #[101, 97, 114, 108, 121] })), AV.str (Array.toList (ByteArray.data { data := #[119, 114, 97, 112] })), AV.str (Array.toList (ByteArray.data { data := #[116, 119, 105, 110] }))]))) (by kernel_rfl) (D.ct (by kernel_rfl) (D.ks (.v ia <| .v ld <| .e [(13, AV.str mode)] (hnew H' (AObj.row 9 1 [AV.str (Array.toList (ByteArray.data { data := #[] })), AV.str (Array.toList (ByteArray.data { data := #[112, 102, 97, 105, 114] })), AV.str (Array.toList (ByteArray.data { data := #[101, 97, 114, 108, 121] })), AV.str (Array.toList (ByteArray.data { data := #[119, 114, 97, 112] })), AV.str (Array.toList (ByteArray.data { data := #[116, 119, 105, 110] }))]))) (by kernel_rfl) (D.sq (D.sq (D.ks (.e [(14, AV.int IntKind.i64 0)] (hnew H' (AObj.row 9 1 [AV.str (Array.toList (ByteArray.data { data := #[] })), AV.str (Array.toList (ByteArray.data { data := #[112, 102, 97, 105, 114] })), AV.str (Array.toList (ByteArray.data { data := #[101, 97, 114, 108, 121] })), AV.str (Array.toList (ByteArray.data { data := #[119, 114, 97, 112] })), AV.str (Array.toList (ByteArray.data { data := #[116, 119, 105, 110] }))]))) (by kernel_rfl) (D.bl ?_)))))))))))))))))))))
      exact rest _ (by exact E_le (by decide) (E_size _ _) (by simp only [List.forall_mem_cons, List.not_mem_nil, false_implies, implies_true, and_true, List.cons_append, List.nil_append, Nat.zero_add, Nat.reduceAdd, E_get, Nat.reduceEqDiff, Nat.reduceLT, Nat.reduceLeDiff, if_true, if_false, and_self, true_and] <;> first | rfl | exact ⟨rfl, rfl⟩))
  intro env he
  refine D.forget he ?_
  clear he
  skip
  have r8 : abin (kn gT base w0).c .rem 5 (.int .u8 ti) (.int .u8 8) = some (.int .u8 ((ti % 8 : Nat) : Int)) := remB ti 8 (by omega) _
  obtain ⟨q, hq⟩ : ∃ q, q = ti % 8 := ⟨_, rfl⟩
  have hq8 : q < 8 := by omega
  rw [← hq] at r8
  refine D.lp (fun m env H5 => ∃ (i : Nat) (K : AHeap) (a b c n : Nat), m = 9 - i ∧ i ≤ q + 1 ∧ Pt (kn gT base w0) 17 [.ptr (.own 0) 0] H5 (.tuple []) K ∧ Made K 0 a b c n ∧ ELe (E 118 [(14, .int .i64 i), (13, .str mode), (10, .int .i64 k), (9, .str want), (7, .ptr (.own 0) 0), (2, .int .u8 ti), (1, .str l), (0, .int .i64 op), (6, .bool false)]) env) 9
    ⟨0, K1, a1, b1, c1, m1, by omega, by omega, t1, hm1, by exact E_le (by decide) (E_size _ _) (by simp only [List.forall_mem_cons, List.not_mem_nil, false_implies, implies_true, and_true, List.cons_append, List.nil_append, Nat.zero_add, Nat.reduceAdd, E_get, Nat.reduceEqDiff, Nat.reduceLT, Nat.reduceLeDiff, if_true, if_false, and_self, true_and] <;> first | rfl | exact ⟨rfl, rfl⟩)⟩ ?_
  clear t1 hm1 hw3 hw2
  rintro m env H5 ⟨i, K, a, b, c, n, rfl, hi, t17, hm, he⟩
  refine D.forget he ?_
  clear he
  by_cases hiq : i ≤ q
  rotate_left
  · refine D.sq (D.sq (D.ks (.v r8 <| .n (@wrap_to ((↑q : Int)) ((↑q : Int)) (by omega) (by omega) (by omega)) <| .o (show ¬ ((↑i : Int) ≤ (↑q : Int)) by omega) <| .e [(73, AV.bool false)] H5) (by kernel_rfl) (D.cf (by kernel_rfl) (D.exit (Ks_e' (Kl_e' (Kb_e' (Ks_n' (D.sq (D.ks (.e [(6, AV.bool true)] H5) (by kernel_rfl) (D.ret (Kf_by (AV.bool true) (.r (AV.bool true)) (by kernel_rfl) ?_))))))))))))
    rfl
  have n2 := number_p (G := gT) (base := base) (w0 := w0) hm t17 l
  have t18 := tables_p (G := gT) (base := base) (w0 := w0) hm
  have o2 := op_p (G := gT) (base := base) (w0 := w0) hm t18 op
  have d2 := mode_p (G := gT) (base := base) (w0 := w0) hm t18 op
  have e2 := err9_p (base := base) (w0 := w0) hm t18 op
  have e3 := err_p (base := base) (w0 := w0) (H := K) op
  have m2 := made9_p (G := gT) (base := base) (w0 := w0) hm
  rw [wdI_at (L := wordsL) (M := opsL) rfl, ← hwant0] at o2
  rw [wdI_at (L := modesW) (M := modesL) rfl, ← hmode] at d2
  obtain ⟨s, hs⟩ := errAt_str op
  rw [hs] at e2 e3
  rw [hk] at n2
  have q1 := strEq (base := base) (w0 := w0) (G := gT) want
  have q2 := strEq (base := base) (w0 := w0) (G := gT) mode
  have q3 := strEq (base := base) (w0 := w0) (G := gT) s
  by_cases hk0 : k = 0
  · rw [decide_eq_false (by omega)] at n2
    refine D.sq (D.sq (D.ks (.v r8 <| .n (@wrap_to ((↑q : Int)) ((↑q : Int)) (by omega) (by omega) (by omega)) <| .y (show (↑i : Int) ≤ (↑q : Int) by omega) <| .e [(73, AV.bool true)] H5) (by kernel_rfl) (D.ct (by kernel_rfl) (D.skip (Ks_n' (D.sq (D.bl (D.sq (D.ks (.c n2 <| .e [(16, AV.bool false), (15, AV.int IntKind.i64 (↑k : Int))] K) (by kernel_rfl) (D.sq (D.ks (.c o2 <| .v q1 <| .c d2 <| .v q2 <| .c e2 <| .c e3 <| .v q3 <| .o (show (↑k : Int) = (↑k : Int) by omega) <| .o (show ¬ (0 < (↑k : Int)) by omega) <| .a <| .c m2 <| .a <| .e [(117, AV.bool false)] K) (by kernel_rfl) (D.cf (by kernel_rfl) (D.skip (Kb_n' (Ks_n' (D.kr (.n (@wrap_to ((↑i : Int) + 1) ((↑(i + 1) : Int)) (by omega) (by omega) (by omega)) <| .e [(14, AV.int IntKind.i64 (↑(i + 1) : Int))] K) (by kernel_rfl) ?_))))))))))))))))
    exact ⟨9 - (i + 1), by omega, i + 1, K, a, b, c, n, rfl, by omega, t18, hm, by exact E_le (by decide) (E_size _ _) (by simp only [List.forall_mem_cons, List.not_mem_nil, false_implies, implies_true, and_true, List.cons_append, List.nil_append, Nat.zero_add, Nat.reduceAdd, E_get, Nat.reduceEqDiff, Nat.reduceLT, Nat.reduceLeDiff, if_true, if_false, and_self, true_and] <;> first | rfl | exact ⟨rfl, rfl⟩)⟩
  · rw [decide_eq_true hk0] at n2
    refine D.sq (D.sq (D.ks (.v r8 <| .n (@wrap_to ((↑q : Int)) ((↑q : Int)) (by omega) (by omega) (by omega)) <| .y (show (↑i : Int) ≤ (↑q : Int) by omega) <| .e [(73, AV.bool true)] H5) (by kernel_rfl) (D.ct (by kernel_rfl) (D.skip (Ks_n' (D.sq (D.bl (D.sq (D.ks (.c n2 <| .e [(16, AV.bool true), (15, AV.int IntKind.i64 (↑k : Int))] K) (by kernel_rfl) (D.sq (D.ks (.c o2 <| .v q1 <| .c d2 <| .v q2 <| .c e2 <| .c e3 <| .v q3 <| .o (show (↑k : Int) = (↑k : Int) by omega) <| .y (show 0 < (↑k : Int) by omega) <| .a <| .c m2 <| .a <| .e [(117, AV.bool false)] K) (by kernel_rfl) (D.cf (by kernel_rfl) (D.skip (Kb_n' (Ks_n' (D.kr (.n (@wrap_to ((↑i : Int) + 1) ((↑(i + 1) : Int)) (by omega) (by omega) (by omega)) <| .e [(14, AV.int IntKind.i64 (↑(i + 1) : Int))] K) (by kernel_rfl) ?_))))))))))))))))
    exact ⟨9 - (i + 1), by omega, i + 1, K, a, b, c, n, rfl, by omega, t18, hm, by exact E_le (by decide) (E_size _ _) (by simp only [List.forall_mem_cons, List.not_mem_nil, false_implies, implies_true, and_true, List.cons_append, List.nil_append, Nat.zero_add, Nat.reduceAdd, E_get, Nat.reduceEqDiff, Nat.reduceLT, Nat.reduceLeDiff, if_true, if_false, and_self, true_and] <;> first | rfl | exact ⟨rfl, rfl⟩)⟩
end Go.Proofs.YtldiaopobcebpaaDoor.sy

/- law9's NamesOnce: the first askings, by the kernel (own work). -/
namespace Go.Proofs.YtldiaopobcebpaaDoor.sy
open Go.AM Go.RowKit
set_option linter.unusedSimpArgs false
set_option linter.unusedVariables false
set_option maxRecDepth 100000
set_option maxHeartbeats 8000000
variable {base : Nat} {w0 : World} {H : AHeap}
/-- the tables made, and the row of k texts kept -/
def farB : Option (Nat × Nat × Nat × Nat) → Bool
  | some (a, b, c, m) => !Nat.beq a 1 && (!Nat.beq b 1 && (!Nat.beq c 1 && !Nat.beq m 1))
  | none => false
structure Far (a b c m : Nat) : Prop where
  a1 : a ≠ 1
  b1 : b ≠ 1
  c1 : c ≠ 1
  m1 : m ≠ 1
theorem farB_ok {a b c m : Nat} (h : farB (some (a, b, c, m)) = true) : Far a b c m := by
  simp only [farB, Bool.and_eq_true, Bool.not_eq_true'] at h
  obtain ⟨h1, h2, h3, h4⟩ := h
  exact ⟨fun e => by (subst e; cases h1), fun e => by (subst e; cases h2), fun e => by (subst e; cases h3), fun e => by (subst e; cases h4)⟩
theorem Made.spots {K : AHeap} {n a b c m : Nat} (h : Made K n a b c m) : spots K n = some (a, b, c, m) := by
  unfold sy.spots
  rw [h.row]
def onceB (k : Nat) : Option (AV × AHeap) → Bool
  | some (v, K) => madeB 0 (some (v, K)) && (rowB K 1 9 1 (List.replicate k (.str [])) && farB (spots K 0))
  | none => false
theorem once0_run : ([1, 2, 3, 4, 5, 6, 7, 8, 9, 10, 11, 12, 13, 14, 15, 16, 17, 18, 19, 20] : List Nat).all (fun k => onceB k (acall ⟨Tryd.prog, gT⟩ drawRunB gcCall prN 60 17 [.ptr (.own 0) 0] [some (.row 54 8 fresh0), some (.row 9 1 (List.replicate k (.str [])))])) = true := by kernel_rfl
theorem once0_first {k : Nat} (h1 : 1 ≤ k) (h2 : k ≤ 20) : ∃ K a b c m, Pt (kn gT base w0) 17 [.ptr (.own 0) 0] [some (.row 54 8 fresh0), some (.row 9 1 (List.replicate k (.str [])))] (.tuple []) K ∧ Made K 0 a b c m ∧ hat K 1 = some (.row 9 1 (List.replicate k (.str []))) ∧ Far a b c m := by
  have hr := List.all_eq_true.1 once0_run k (by simp only [List.mem_cons, List.not_mem_nil, or_false]; omega)
  simp only [onceB] at hr
  split at hr
  · rename_i v K he
    rw [Bool.and_eq_true, Bool.and_eq_true] at hr
    obtain ⟨K', a, b, c, m, h, hm⟩ := madeB_ok hr.1
    rw [Option.some.injEq, Prod.mk.injEq] at h
    obtain ⟨rfl, rfl⟩ := h
    exact ⟨K, a, b, c, m, Pt.run (κ := kn gT base w0) (prN_ok (base := base) (w0 := w0)) he, hm, rowB_ok hr.2.1, farB_ok (by rw [← hm.spots]; exact hr.2.2)⟩
  · cases hr
end Go.Proofs.YtldiaopobcebpaaDoor.sy

/- law9's NamesOnce: the walk (own work). -/
namespace Go.Proofs.YtldiaopobcebpaaDoor.sy
open Go.AM Go.RowKit
set_option linter.unusedSimpArgs false
set_option linter.unusedVariables false
set_option maxRecDepth 100000
set_option maxHeartbeats 8000000
variable {base : Nat} {w0 : World} {H : AHeap}
theorem reps_one (v : AV) : ∀ k : Nat, reps k [v] = List.replicate k v
  | 0 => rfl
  | k + 1 => by
    show [v] ++ reps k [v] = _
    rw [reps_one v k]; rfl
theorem mk_str {H : AHeap} (k : Nat) (hk : k < 1000) : amakeSlice (kn gT base w0).c H 26 (.int .i64 k) (.int .i64 k) = some (.slice (.own H.length) 1 0 k, hnew H (.row 9 1 (List.replicate k (.str [])))) := by
  rw [amake_eq]
  have ht : (kn gT base w0).c.P.underlying 26 = some (.slice 9) := Tryd.underlying26
  have hi : infoSB (kn gT base w0).c.P 9 = some (1, 16) := in9
  have hz : zeroCells (kn gT base w0).c.P 9 = some [.str []] := zc9
  simp only [amakeSlice2, ht, hi, hz, Option.bind_some, Int.toNat_natCast, reps_one]
  rw [if_pos ⟨by omega, by omega, by omega, by omega, rfl, by omega, rfl⟩]
  rfl
/-- the row of texts, i of k told -/
def told (i k : Nat) (W : List UInt8) : List AV := List.replicate i (.str W) ++ List.replicate (k - i) (.str [])
theorem told_len {i k : Nat} {W : List UInt8} (h : i ≤ k) : (told i k W).length = k := by simp [told]; omega
theorem told_set {i k : Nat} {W : List UInt8} (h : i < k) : (told i k W).set i (.str W) = told (i + 1) k W := by
  unfold told
  rw [List.set_append_right _ _ (by simp)]
  simp only [List.length_replicate, Nat.sub_self]
  obtain ⟨d, hd⟩ : ∃ d, k - i = d + 1 := ⟨k - i - 1, by omega⟩
  rw [hd, show k - (i + 1) = d by omega, List.replicate_succ, List.set_cons_zero, List.replicate_succ' (n := i), List.append_assoc]
  rfl
theorem told0 {k : Nat} {W : List UInt8} : told 0 k W = List.replicate k (.str []) := by simp [told]
theorem told_get {k i : Nat} {W : List UInt8} (h : i < k) : (told k k W)[i]? = some (.str W) := by
  simp [told, h]
theorem Made.far {K : AHeap} {a b c m : Nat} {o : Option AObj} (h : Made K 0 a b c m) (f : Far a b c m) : Made (K.set 1 o) 0 a b c m :=
  ⟨(hat_ne _ (by decide)).trans h.row, (hat_ne _ f.a1).trans h.ops, (hat_ne _ f.b1).trans h.modes, (hat_ne _ f.c1).trans h.errs, (hat_ne _ f.m1).trans h.by_⟩
theorem remI9 (x y : Nat) (hy : 0 < y) (t : TypeId) : abin (kn gT base w0).c .rem t (.int .i64 x) (.int .i64 y) = some (.int .i64 ((x % y : Nat) : Int)) := by
  simp only [abin, if_true, aint]
  rw [if_neg (by omega)]
  rfl
theorem namesOnce_law (mn : Nat) (hmn : mn < 256) (o : Nat) (ho : o < 256) : ∃ r H', Pt (kn gT base w0) 4 [.int .u8 mn, .int .u8 o] [] r H' ∧ r = .bool true := by
  refine Pt.fn (n := 69) (rs := [.tmp 4]) Tryd.func4 (b := _) rfl rfl rfl (by decide) ?_
  simp only [numbered]
  have p7 := fun H => awake_p (base := base) (w0 := w0) (H := H)
  have p8 : Pt (kn gT base w0) 8 [] [] (.ptr (.own 0) 0) [some (.row 54 8 fresh0)] := new_p (H := [])
  have r20 : abin (kn gT base w0).c .rem 3 (.int .i64 mn) (.int .i64 20) = some (.int .i64 ((mn % 20 : Nat) : Int)) := remI9 mn 20 (by omega) _
  obtain ⟨q, hq⟩ : ∃ q, q = mn % 20 := ⟨_, rfl⟩
  have hq20 : q < 20 := by omega
  rw [← hq] at r20
  have mk := mk_str (base := base) (w0 := w0) (H := [some (.row 54 8 fresh0)]) (1 + q) (by omega)
  replace mk : amakeSlice (kn gT base w0).c [some (.row 54 8 fresh0)] 26 (.int .i64 ((1 + q : Nat) : Int)) (.int .i64 ((1 + q : Nat) : Int)) = some (.slice (.own 1) 1 0 (1 + q), [some (.row 54 8 fresh0), some (.row 9 1 (List.replicate (1 + q) (.str [])))]) := mk
  obtain ⟨K1, a1, b1, c1, m1, t1, hm1, hg1, hf1⟩ := once0_first (base := base) (w0 := w0) (k := 1 + q) (by omega) (by omega)
  obtain ⟨o8, ho8⟩ : ∃ o8, o8 = o % 8 := ⟨_, rfl⟩
  have ho88 : o8 < 8 := by omega
  have r8 : abin (kn gT base w0).c .rem 3 (.int .i64 o) (.int .i64 8) = some (.int .i64 ((o % 8 : Nat) : Int)) := remI9 o 8 (by omega) _
  rw [← ho8] at r8
  refine D.sq (D.ks (.e [(4, AV.bool false)] []) (by kernel_rfl) (D.sq (D.sq (D.ks (.c (@p7 []) <| .a <| .e [(11, AV.bool false)] []) (by kernel_rfl) (D.cf (by kernel_rfl) (D.skip (Ks_n' (D.sq (D.ks (.c p8 <| .e [(5, AV.ptr (Loc.own 0) 0)] ([some (AObj.row 54 8 fresh0)])) (by kernel_rfl) (D.sq (D.ks (.n (@wrap_to ((↑mn : Int)) ((↑mn : Int)) (by omega) (by omega) (by omega)) <| .v r20 <| .n (@wrap_to (1 + (↑q : Int)) ((↑(1 + q) : Int)) (by omega) (by omega) (by omega)) <| .e [(6, AV.int IntKind.i64 (↑(1 + q) : Int))] ([some (AObj.row 54 8 fresh0)])) (by kernel_rfl) (D.sq (D.sq (D.ks (.a <| .e [(18, AV.bool false)] ([some (AObj.row 54 8 fresh0)])) (by kernel_rfl) (D.cf (by kernel_rfl) (D.skip (Ks_n' (D.sq (D.ks (.vh mk <| .e [(7, AV.slice (Loc.own 1) 1 0 (1 + q))] ([some (AObj.row 54 8 fresh0), some (AObj.row 9 1 (List.replicate (1 + q) (AV.str [])))])) (by kernel_rfl) (D.sq (D.sq (D.ks (.e [(8, AV.int IntKind.i64 0)] ([some (AObj.row 54 8 fresh0), some (AObj.row 9 1 (List.replicate (1 + q) (AV.str [])))])) (by kernel_rfl) (D.bl ?_)))))))))))))))))))))))
  obtain ⟨k, hk⟩ : ∃ k, k = 1 + q := ⟨_, rfl⟩
  have hk20 : k ≤ 20 := by omega
  have hk1 : 1 ≤ k := by omega
  rw [← hk] at t1 hg1 ⊢
  clear mk p8 hk
  refine D.lp (fun m env H5 => ∃ (i : Nat) (K : AHeap) (a b c n : Nat), m = k - i ∧ i ≤ k ∧ (i = 0 ∨ K = H5) ∧ Pt (kn gT base w0) 17 [.ptr (.own 0) 0] H5 (.tuple []) K ∧ Made K 0 a b c n ∧ Far a b c n ∧ hat K 1 = some (.row 9 1 (told i k (wd (1 + o8)))) ∧ ELe (E 69 [(8, .int .i64 i), (7, .slice (.own 1) 1 0 k), (6, .int .i64 k), (5, .ptr (.own 0) 0), (4, .bool false), (1, .int .u8 o), (0, .int .u8 mn)]) env) k
    ⟨0, K1, a1, b1, c1, m1, by omega, by omega, .inl rfl, t1, hm1, hf1, by rw [told0]; exact hg1, by exact E_le (by decide) (E_size _ _) (by simp only [List.forall_mem_cons, List.not_mem_nil, false_implies, implies_true, and_true, List.cons_append, List.nil_append, Nat.zero_add, Nat.reduceAdd, E_get, Nat.reduceEqDiff, Nat.reduceLT, Nat.reduceLeDiff, if_true, if_false, and_self, true_and] <;> first | rfl | exact ⟨rfl, rfl⟩)⟩ ?_
  clear t1 hm1 hg1 hf1
  rintro m env H5 ⟨i, K, a, b, c, n, rfl, hi, hK, t17, hm, hf, hg, he⟩
  refine D.forget he ?_
  clear he
  by_cases hik : i < k
  · have t18 := tables_p (G := gT) (base := base) (w0 := w0) hm
    have o2 := op_p (G := gT) (base := base) (w0 := w0) hm t18 ((1 + o8 : Nat) : Int)
    obtain ⟨w1, _, _⟩ := wd_in (o := 1 + o8) (by omega)
    rw [w1] at o2
    have hg' : hat (K.set 1 (some (.row 9 1 (told (i + 1) k (wd (1 + o8)))))) 1 = some (.row 9 1 (told (i + 1) k (wd (1 + o8)))) := hat_eq _ (hat_lt hg)
    have st : astore (kn gT base w0).c K 9 (.ptr (.own 1) i) (.str (wd (1 + o8))) = some (K.set 1 (some (.row 9 1 (told (i + 1) k (wd (1 + o8)))))) := by
      have hs : szOf (kn gT base w0).c.P 9 = some 1 := sz9
      simp only [astore, hs, Option.bind_some, AV.cells, List.length_cons, List.length_nil, if_true]
      rw [wr_own hg (by rw [told_len (by omega)]; omega) rfl, told_set hik]
    have hm' := hm.far (o := some (.row 9 1 (told (i + 1) k (wd (1 + o8))))) hf
    have t19 := tables_p (G := gT) (base := base) (w0 := w0) hm'
    obtain ⟨ia, ld0⟩ := ld_str (base := base) (w0 := w0) (G := gT) hg (n := k) (i := i) (told_len (by omega)) hik (List.getElem?_eq_getElem (by rw [told_len (by omega)]; omega))
    generalize wd (1 + o8) = W at *
    have r3 : abin (kn gT base w0).c .rem 3 (.int .i64 i) (.int .i64 3) = some (.int .i64 ((i % 3 : Nat) : Int)) := remI9 i 3 (by omega) _
    have hd := mode_p (G := gT) (base := base) (w0 := w0) hm t17 (i : Nat)
    have hn := number_p (G := gT) (base := base) (w0 := w0) hm t17 [116, 105, 99, 107]
    have he := err9_p (base := base) (w0 := w0) hm t17 (i : Nat)
    generalize i % 3 = r at *
    by_cases h0 : r = 0
    · subst h0
      refine D.sq (D.sq (D.ks (.y (show (↑i : Int) < (↑k : Int) by omega) <| .e [(23, AV.bool true)] H5) (by kernel_rfl) (D.ct (by kernel_rfl) (D.skip (Ks_n' (D.sq (D.bl (D.sq (D.sq (D.ks (.v r3 <| .e [(27, AV.int IntKind.i64 (↑0 : Int))] H5) (by kernel_rfl) (D.bl (D.sq (D.ks (.a <| .e [(31, AV.bool true)] H5) (by kernel_rfl) (D.ct (by kernel_rfl) (D.kr (.c hd <| .e [] K) (by kernel_rfl) (Kb_n' (Ks_n' (D.kr (.n (@wrap_to ((↑o : Int)) ((↑o : Int)) (by omega) (by omega) (by omega)) <| .v r8 <| .n (@wrap_to (1 + (↑o8 : Int)) ((↑(1 + o8) : Int)) (by omega) (by omega) (by omega)) <| .c o2 <| .v ia <| .h st <| .e [] (List.set K 1 (some (AObj.row 9 1 (told (i + 1) k W))))) (by kernel_rfl) (Kb_n' (Ks_n' (D.kr (.n (@wrap_to ((↑i : Int) + 1) ((↑(i + 1) : Int)) (by omega) (by omega) (by omega)) <| .e [(8, AV.int IntKind.i64 (↑(i + 1) : Int))] (List.set K 1 (some (AObj.row 9 1 (told (i + 1) k W))))) (by kernel_rfl) ?_)))))))))))))))))))))
      exact ⟨k - (i + 1), by omega, i + 1, _, a, b, c, n, rfl, by omega, .inr rfl, t19, hm', hf, hg', by exact E_le (by decide) (E_size _ _) (by simp only [List.forall_mem_cons, List.not_mem_nil, false_implies, implies_true, and_true, List.cons_append, List.nil_append, Nat.zero_add, Nat.reduceAdd, E_get, Nat.reduceEqDiff, Nat.reduceLT, Nat.reduceLeDiff, if_true, if_false, and_self, true_and] <;> first | rfl | exact ⟨rfl, rfl⟩)⟩
    by_cases h1 : r = 1
    · subst h1
      refine D.sq (D.sq (D.ks (.y (show (↑i : Int) < (↑k : Int) by omega) <| .e [(23, AV.bool true)] H5) (by kernel_rfl) (D.ct (by kernel_rfl) (D.skip (Ks_n' (D.sq (D.bl (D.sq (D.sq (D.ks (.v r3 <| .e [(27, AV.int IntKind.i64 (↑1 : Int))] H5) (by kernel_rfl) (D.bl (D.sq (D.ks (.a <| .e [(31, AV.bool false)] H5) (by kernel_rfl) (D.cf (by kernel_rfl) (D.sq (D.ks (.a <| .e [(36, AV.bool true)] H5) (by kernel_rfl) (D.ct (by kernel_rfl) (D.kr (.c hn <| .e [] K) (by kernel_rfl) (Kb_n' (Ks_n' (D.kr (.n (@wrap_to ((↑o : Int)) ((↑o : Int)) (by omega) (by omega) (by omega)) <| .v r8 <| .n (@wrap_to (1 + (↑o8 : Int)) ((↑(1 + o8) : Int)) (by omega) (by omega) (by omega)) <| .c o2 <| .v ia <| .h st <| .e [] (List.set K 1 (some (AObj.row 9 1 (told (i + 1) k W))))) (by kernel_rfl) (Kb_n' (Ks_n' (D.kr (.n (@wrap_to ((↑i : Int) + 1) ((↑(i + 1) : Int)) (by omega) (by omega) (by omega)) <| .e [(8, AV.int IntKind.i64 (↑(i + 1) : Int))] (List.set K 1 (some (AObj.row 9 1 (told (i + 1) k W))))) (by kernel_rfl) ?_))))))))))))))))))))))))
      exact ⟨k - (i + 1), by omega, i + 1, _, a, b, c, n, rfl, by omega, .inr rfl, t19, hm', hf, hg', by exact E_le (by decide) (E_size _ _) (by simp only [List.forall_mem_cons, List.not_mem_nil, false_implies, implies_true, and_true, List.cons_append, List.nil_append, Nat.zero_add, Nat.reduceAdd, E_get, Nat.reduceEqDiff, Nat.reduceLT, Nat.reduceLeDiff, if_true, if_false, and_self, true_and] <;> first | rfl | exact ⟨rfl, rfl⟩)⟩
    refine D.sq (D.sq (D.ks (.y (show (↑i : Int) < (↑k : Int) by omega) <| .e [(23, AV.bool true)] H5) (by kernel_rfl) (D.ct (by kernel_rfl) (D.skip (Ks_n' (D.sq (D.bl (D.sq (D.sq (D.ks (.v r3 <| .e [(27, AV.int IntKind.i64 (↑r : Int))] H5) (by kernel_rfl) (D.bl (D.sq (D.ks (.o (show ¬ ((↑r : Int) = 0) by omega) <| .e [(31, AV.bool false)] H5) (by kernel_rfl) (D.cf (by kernel_rfl) (D.sq (D.ks (.o (show ¬ ((↑r : Int) = 1) by omega) <| .e [(36, AV.bool false)] H5) (by kernel_rfl) (D.cf (by kernel_rfl) (D.kr (.c he <| .e [] K) (by kernel_rfl) (Kb_n' (Ks_n' (D.kr (.n (@wrap_to ((↑o : Int)) ((↑o : Int)) (by omega) (by omega) (by omega)) <| .v r8 <| .n (@wrap_to (1 + (↑o8 : Int)) ((↑(1 + o8) : Int)) (by omega) (by omega) (by omega)) <| .c o2 <| .v ia <| .h st <| .e [] (List.set K 1 (some (AObj.row 9 1 (told (i + 1) k W))))) (by kernel_rfl) (Kb_n' (Ks_n' (D.kr (.n (@wrap_to ((↑i : Int) + 1) ((↑(i + 1) : Int)) (by omega) (by omega) (by omega)) <| .e [(8, AV.int IntKind.i64 (↑(i + 1) : Int))] (List.set K 1 (some (AObj.row 9 1 (told (i + 1) k W))))) (by kernel_rfl) ?_))))))))))))))))))))))))
    exact ⟨k - (i + 1), by omega, i + 1, _, a, b, c, n, rfl, by omega, .inr rfl, t19, hm', hf, hg', by exact E_le (by decide) (E_size _ _) (by simp only [List.forall_mem_cons, List.not_mem_nil, false_implies, implies_true, and_true, List.cons_append, List.nil_append, Nat.zero_add, Nat.reduceAdd, E_get, Nat.reduceEqDiff, Nat.reduceLT, Nat.reduceLeDiff, if_true, if_false, and_self, true_and] <;> first | rfl | exact ⟨rfl, rfl⟩)⟩
  obtain rfl : i = k := by omega
  obtain rfl : K = H5 := hK.resolve_left (by omega)
  clear t17 hK hik
  have h1w := words9_get (i := 1 + o8) (by omega)
  generalize wd (1 + o8) = W at *
  refine D.sq (D.sq (D.ks (.o (show ¬ ((↑i : Int) < (↑i : Int)) by omega) <| .e [(23, AV.bool false)] K) (by kernel_rfl) (D.cf (by kernel_rfl) (D.exit (Ks_e' (Kl_e' (Kb_e' (Ks_n' (D.sq (D.sq (D.ks (.e [(9, AV.int IntKind.i64 0)] K) (by kernel_rfl) (D.bl ?_))))))))))))
  refine D.lp (fun m env H6 => ∃ (j : Nat), m = i - j ∧ j ≤ i ∧ Made H6 0 a b c n ∧ hat H6 1 = some (.row 9 1 (told i i W)) ∧ ELe (E 69 [(9, .int .i64 j), (7, .slice (.own 1) 1 0 i), (6, .int .i64 i), (5, .ptr (.own 0) 0), (4, .bool false), (1, .int .u8 o), (0, .int .u8 mn)]) env) i
    ⟨0, by omega, by omega, hm, hg, by exact E_le (by decide) (E_size _ _) (by simp only [List.forall_mem_cons, List.not_mem_nil, false_implies, implies_true, and_true, List.cons_append, List.nil_append, Nat.zero_add, Nat.reduceAdd, E_get, Nat.reduceEqDiff, Nat.reduceLT, Nat.reduceLeDiff, if_true, if_false, and_self, true_and] <;> first | rfl | exact ⟨rfl, rfl⟩)⟩ ?_
  clear hm hg
  rintro m env H6 ⟨j, rfl, hj, hm, hg, he⟩
  refine D.forget he ?_
  clear he
  have m9 := made9_p (G := gT) (base := base) (w0 := w0) hm
  by_cases hji : j < i
  · have kp : Keep H6 (hnew H6 (.row 9 1 words9)) (fun _ => False) := Keep.new _ _
    have hg' : hat (hnew H6 (.row 9 1 words9)) 1 = some (.row 9 1 (told i i W)) := (kp.2 1 (hat_lt hg) id).trans hg
    have hm' := hm.keep kp
    have pw := words_p (base := base) (w0 := w0) (G := gT) (H := H6)
    obtain ⟨ia, ld⟩ := ld_str (base := base) (w0 := w0) (G := gT) hg (n := i) (i := j) (told_len (Nat.le_refl _)) hji (told_get hji)
    obtain ⟨ia2, ld'⟩ := ld_str (base := base) (w0 := w0) (G := gT) hg' (n := i) (i := j) (told_len (Nat.le_refl _)) hji (told_get hji)
    obtain ⟨ib, lb⟩ := ld_str (base := base) (w0 := w0) (G := gT) (hat_nn (H := H6) (.row 9 1 words9)) (n := 9) (i := 1 + o8) rfl (by omega) h1w
    have e1 := strEq (base := base) (w0 := w0) (G := gT) W
    clear kp
    generalize hnew H6 (.row 9 1 words9) = K7 at *
    refine D.sq (D.sq (D.ks (.y (show (↑j : Int) < (↑i : Int) by omega) <| .e [(51, AV.bool true)] H6) (by kernel_rfl) (D.ct (by kernel_rfl) (D.skip (Ks_n' (D.sq (D.bl (D.sq (D.kxs none_ [(10, [])] [] (.v ia2 <| .v ld <| .z (@rfl (List AV) []) <| .c pw <| .z ld' <| .z (@rfl AV (AV.str W)) <| .n (@wrap_to ((↑o : Int)) ((↑o : Int)) (by omega) (by omega) (by omega)) <| .v r8 <| .n (@wrap_to (1 + (↑o8 : Int)) ((↑(1 + o8) : Int)) (by omega) (by omega) (by omega)) <| .v ib <| .v lb <| .v e1 <| .e [(65, AV.bool false)] K7) (by kernel_rfl) (D.cf (by kernel_rfl) (D.skip (Kb_n' (Ks_n' (D.kr (.n (@wrap_to ((↑j : Int) + 1) ((↑(j + 1) : Int)) (by omega) (by omega) (by omega)) <| .e [(9, AV.int IntKind.i64 (↑(j + 1) : Int))] K7) (by kernel_rfl) ?_))))))))))))))
    exact ⟨i - (j + 1), by omega, j + 1, rfl, by omega, hm', hg', by exact E_le (by decide) (E_size _ _) (by simp only [List.forall_mem_cons, List.not_mem_nil, false_implies, implies_true, and_true, List.cons_append, List.nil_append, Nat.zero_add, Nat.reduceAdd, E_get, Nat.reduceEqDiff, Nat.reduceLT, Nat.reduceLeDiff, if_true, if_false, and_self, true_and] <;> first | rfl | exact ⟨rfl, rfl⟩)⟩
  refine D.sq (D.sq (D.ks (.o (show ¬ ((↑j : Int) < (↑i : Int)) by omega) <| .e [(51, AV.bool false)] H6) (by kernel_rfl) (D.cf (by kernel_rfl) (D.exit (Ks_e' (Kl_e' (Kb_e' (Ks_n' (D.sq (D.ks (.c m9 <| .a <| .e [(4, AV.bool true)] H6) (by kernel_rfl) (D.ret (Kf_by (AV.bool true) (.r (AV.bool true)) (by kernel_rfl) ?_))))))))))))
  rfl
end Go.Proofs.YtldiaopobcebpaaDoor.sy
