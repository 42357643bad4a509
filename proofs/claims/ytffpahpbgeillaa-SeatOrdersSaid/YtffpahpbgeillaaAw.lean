/- Before the laws (own work): the document's example, run by the machine; what Sit comes to. -/
import Derived.Test.YtffpahpbgeillaaSit
import Derived.Test.YtffpahpbgeillaaAmRow
namespace Go.Proofs.Ytffpahpbgeillaa.sy
open Go.AM Go.AM.Seat
set_option linter.unusedSimpArgs false
set_option linter.unusedVariables false
variable {G : List Nat → Option (List AV)} {base : Nat} {w0 : World}
set_option maxRecDepth 100000
theorem awake_run : isTrue (acall (kn G base w0).c drawRunB gcCall (vals.prims (kn G base w0).c) 60 8 [] []) = true := by kernel_rfl
theorem awake_ok : ∃ r H', Pt (kn G base w0) 8 [] [] r H' ∧ r = .bool true := by
  obtain ⟨H', h⟩ := isTrue_some awake_run
  exact ⟨_, H', Pt.run (κ := kn G base w0) (vals.prims_ok (c := (kn G base w0).c) rfl base w0) h, rfl⟩
theorem tmodN (a b : Nat) : (a : Int).tmod (b : Int) = ((a % b : Nat) : Int) := rfl
theorem ofN (n : Nat) : (OfNat.ofNat n : Int) = ((OfNat.ofNat n : Nat) : Int) := rfl
/-- all that is kept of seats -/
structure Good (n : Nat) (f g : Int → Option Int) : Prop where
  fr : ∀ a c, f a = some c → 0 ≤ c ∧ c < n
  gr : ∀ a c, g a = some c → 0 ≤ c ∧ c < n
  inj : ∀ a b c, f a = some c → f b = some c → a = b
theorem Good.none (n : Nat) : Good n (fun _ => none) (fun _ => none) := ⟨by simp, by simp, by simp⟩
theorem after_eq (g now : Int → Option Int) (ids : List Int) (q : Int) : after g now ids q = if q ∈ ids then some ((now q).getD 0) else g q := fold_upd ids g q
theorem Good.sit {n : Nat} {f g : Int → Option Int} (h : Good n f g) {ids : List Int} (hn : ids.Nodup) (hl : ids.length ≤ n) :
    Good n (sitN n f g ids) (after g (sitN n f g ids) ids) ∧ (∀ a ∈ ids, ∃ c, sitN n f g ids a = some c) ∧ (∀ a, a ∉ ids → sitN n f g ids a = Option.none) ∧ (∀ a ∈ ids, ∀ c, f a = some c → sitN n f g ids a = some c) := by
  have hp := isortI_perm ids
  obtain ⟨h1, h2, h3⟩ := sit_facts (n := n) (f := f) (g := g) (l := isortI ids) (hp.nodup_iff.2 hn) (by rw [hp.length_eq]; exact hl) h.fr h.gr
  have a1 : ∀ a ∈ ids, ∃ c, sitN n f g ids a = some c := fun a ha => h1 a (hp.mem_iff.2 ha)
  refine ⟨⟨fun a c hc => ⟨(h2.rng a c hc).1, (h2.rng a c hc).2.1⟩, fun a c hc => ?_, h2.inj⟩, a1, fun a ha => ?_, fun a ha c hc => h3 h.inj a (hp.mem_iff.2 ha) c hc⟩
  · rw [after_eq] at hc
    split at hc
    · rename_i hm
      obtain ⟨c', hc'⟩ := a1 a hm
      rw [hc'] at hc
      cases hc
      exact ⟨(h2.rng a c' hc').1, (h2.rng a c' hc').2.1⟩
    · exact h.gr a c hc
  · cases hq : sitN n f g ids a with
    | none => rfl
    | some c => exact absurd (hp.mem_iff.1 (h2.rng a c hq).2.2.2) ha
end Go.Proofs.Ytffpahpbgeillaa.sy
