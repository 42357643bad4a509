/- Rows of one's own and seats lie apart (own work). -/
import Derived.Test.YtffpahpbgeillaaNew
namespace Go.Proofs.Ytffpahpbgeillaa.sy
open Go.AM
theorem own_ne {H : AHeap} {v : AV} {xs : List AV} {p m1 m2 n : Nat} {f g : Int → Option Int} (h : Own H v 3 xs) (s : Seats H p m1 m2 n f g) : ∀ b, v.at? = some b → b < H.length ∧ b ≠ p ∧ b ≠ m1 ∧ b ≠ m2 := by
  intro b hb
  rcases h with ⟨rfl, _⟩ | ⟨b', rfl, h⟩
  · cases hb
  · simp only [AV.at?, Option.some.injEq] at hb
    subst hb
    obtain ⟨l1, c1, h1, _⟩ := s.now
    obtain ⟨l2, c2, h2, _⟩ := s.last
    refine ⟨hat_lt h, ?_, ?_, ?_⟩
    · intro e; rw [e, s.row] at h; cases h
    · intro e; rw [e, h1] at h; cases h
    · intro e; rw [e, h2] at h; cases h
end Go.Proofs.Ytffpahpbgeillaa.sy
