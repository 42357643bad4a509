/- law17's ShareSums, sorting told (own work). -/
import Derived.Test.YtcbholgcbjddjaaM8
import Derived.Test.YtcbholgcbjddjaaM7
import Derived.Test.YtcbholgcbjddjaaSo
namespace Go.Proofs.Ytcbholgcbjddjaa.sy
open Go.AM Go.AM.Jb
variable {G : List Nat → Option (List AV)} {base : Nat} {w0 : World}
theorem shareSums_law {v : AV} {l : List Tk} (hv : Tks G base w0 v l) (c s : Nat) (hc : c < 256) (hs : s < 256) : ∃ r H', Pt (kn G base w0) 3 [v, .int .u8 c, .int .u8 s] [] r H' ∧ r = .bool true :=
  shareSums_walk sorts.spec hv c s hc hs
end Go.Proofs.Ytcbholgcbjddjaa.sy
