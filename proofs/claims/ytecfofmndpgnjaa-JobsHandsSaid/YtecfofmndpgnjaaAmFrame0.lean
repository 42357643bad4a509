/-
  WHAT IS KNOWN OVER PART OF A HEAP holds over all of it (own work): a call that turns nothing and tells nothing new.
-/
import Derived.Test.YtecfofmndpgnjaaAmRows
namespace Go.AM
open Go.RowKit
set_option linter.unusedVariables false
variable {κ : Kn} {H : AHeap} {f : FuncId} {args : List AV} {v : AV}
/-- what is made and not told is dropped -/
theorem Pt.shrink {H' : AHeap} (h : Pt κ f args H v H') (hv : v.low H.length = true) (hk : H'.take H.length = H) : Pt κ f args H v H := by
  intro ρ w xs hr hf hx
  refine (h ρ w xs hr hf hx).mono ?_
  rintro e w' ⟨ρ', x, rfl, hvr, hp⟩
  refine ⟨ρ, x, rfl, VR.restrict (fun l p hl hlow => ?_) hv hvr, hp.shrink hr hk⟩
  rcases hp.new l p hl with hl | ⟨i, rfl, hi, _⟩
  · exact hl
  · simp [Loc.low] at hlow; omega
theorem Pt.frame {V : AHeap} (h : Pt κ f args V v V) (hV : V.length = H.length) (hsub : ∀ i o, hat V i = some o → hat H i = some o) (hl : heapLow H.length V = true) (ha : AV.lows H.length args = true) (hv : v.low H.length = true) : Pt κ f args H v H := by
  intro ρ w xs hr hf hx
  have hrel := rel_part hr hf (Ext.refl ρ) (Nat.le_refl _) hr hsub hl hV
  have hfr : Fresh (AM.cut H.length ρ) V := fun i hi => by
    unfold AM.cut
    rw [if_neg]
    simp [Loc.low]; omega
  refine (h _ w xs hrel hfr (VRs.restrict (n := H.length) (fun l p e hlow => by simp [AM.cut, hlow, e]) ha hx)).mono ?_
  rintro e w' ⟨ρ', x, rfl, hvr, hp⟩
  obtain ⟨p1, p2, p3⟩ := post_part (A' := H) hr hf (Nat.le_refl _) (Post.refl hr) hsub hl hV hp (by rw [List.take_of_length_le (by omega)]) (fun i h1 h2 => by omega) (fun i o => ⟨.inl, fun e => by
    rcases e with e | ⟨h1, e⟩
    · exact e
    · exact hsub i o e⟩) rfl (by omega)
  exact ⟨_, x, rfl, hvr.mono p3, p1⟩
/-- a run by the kernel over places of which nothing is known -/
def trueOver (n : Nat) : Option (AV × AHeap) → Bool
  | some (.bool b, H) => b && heapEq (H.take n) (List.replicate n none)
  | _ => false
theorem Pt.over {n k : Nat} {pr : Prims} (hp : PrimsOK κ.c κ.base κ.w0 pr) (h : trueOver n (acall κ.c drawRunB gcCall pr k f [] (List.replicate n none)) = true) (hn : H.length = n) : Pt κ f [] H (.bool true) H := by
  unfold trueOver at h
  split at h
  · rename_i b H' he
    simp only [Bool.and_eq_true] at h
    obtain ⟨rfl, h2⟩ := h
    have p1 := Pt.run (κ := κ) hp he
    have p2 := p1.shrink rfl (by rw [List.length_replicate]; exact heapEq_eq h2)
    refine p2.frame (by simp [hn]) (fun i o e => ?_) (heapLow_iff.2 fun o ho => ?_) rfl rfl
    · unfold hat at e
      rw [List.getElem?_replicate] at e
      split at e
      · rename_i hh; split at hh <;> cases hh; cases e
      · cases e
    · simp at ho
  · cases h
end Go.AM
