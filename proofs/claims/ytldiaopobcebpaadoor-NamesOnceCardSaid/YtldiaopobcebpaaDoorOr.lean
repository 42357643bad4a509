/- the tables of names: what strings.Fields comes to (own work). -/
import Derived.Test.YtldiaopobcebpaaDoorOq
import Derived.Test.YtldiaopobcebpaaDoorM5
import Derived.Test.YtldiaopobcebpaaDoorAmShift
namespace Go.Proofs.YtldiaopobcebpaaDoor.sy
open Go.AM Go.RowKit
set_option linter.unusedSimpArgs false
set_option linter.unusedVariables false
set_option maxRecDepth 100000
set_option maxHeartbeats 8000000
/-- which bytes are white space -/
def tbl : List AV := List.replicate 9 (.int .u8 0) ++ (List.replicate 5 (.int .u8 1) ++ (List.replicate 18 (.int .u8 0) ++ (.int .u8 1 :: List.replicate 223 (.int .u8 0))))
def gT : List Nat → Option (List AV)
  | [0, 0] => some tbl
  | _ => none
variable {base : Nat} {w0 : World} {H : AHeap}
theorem gT_low : GLow (kn gT base w0).c := by
  intro path cells h
  have h : gT path = some cells := h
  unfold gT at h
  split at h
  · cases h; decide +kernel
  · cases h
def opsL : List AV := [.str [106, 111, 105, 110], .str [115, 112, 111, 114, 97, 100, 105, 99], .str [108, 101, 97, 118, 101], .str [97, 98, 111, 114, 116], .str [97, 114, 114, 105, 118, 101], .str [100, 111, 110, 101], .str [98, 97, 99, 107], .str [116, 105, 99, 107]]
def modesL : List AV := [.str [112, 102, 97, 105, 114], .str [101, 97, 114, 108, 121], .str [119, 114, 97, 112], .str [116, 119, 105, 110]]
def errsL : List AV := [.str [111, 107], .str [102, 111, 114, 109], .str [97, 114, 103, 117, 109, 101, 110, 116], .str [104, 111, 114, 105, 122, 111, 110], .str [116, 104, 101, 114, 101], .str [110, 111, 110, 101], .str [102, 117, 108, 108], .str [112, 101, 114, 105, 111, 100, 115], .str [119, 101, 105, 103, 104, 116], .str [107, 105, 110, 100], .str [98, 117, 115, 121], .str [105, 100, 108, 101], .str [100, 111, 110, 101], .str [108, 101, 97, 118, 105, 110, 103], .str [111, 118, 101, 114, 102, 108, 111, 119]]
theorem fields_ops : Pt (kn gT base w0) 22 [.str [106, 111, 105, 110, 32, 115, 112, 111, 114, 97, 100, 105, 99, 32, 108, 101, 97, 118, 101, 32, 97, 98, 111, 114, 116, 32, 97, 114, 114, 105, 118, 101, 32, 100, 111, 110, 101, 32, 98, 97, 99, 107, 32, 116, 105, 99, 107]] H (.slice (.own H.length) 1 0 8) (hnew H (.row 9 1 opsL)) := by
  have h : Pt (kn gT base w0) 22 [.str [106, 111, 105, 110, 32, 115, 112, 111, 114, 97, 100, 105, 99, 32, 108, 101, 97, 118, 101, 32, 97, 98, 111, 114, 116, 32, 97, 114, 114, 105, 118, 101, 32, 100, 111, 110, 101, 32, 98, 97, 99, 107, 32, 116, 105, 99, 107]] [] (.slice (.own 0) 1 0 8) [some (.row 9 1 opsL)] := Pt.run (k := 100) (prims_none _ _ _) (by kernel_rfl)
  exact h.shift gT_low rfl
theorem fields_modes : Pt (kn gT base w0) 22 [.str [112, 102, 97, 105, 114, 32, 101, 97, 114, 108, 121, 32, 119, 114, 97, 112, 32, 116, 119, 105, 110]] H (.slice (.own H.length) 1 0 4) (hnew H (.row 9 1 modesL)) := by
  have h : Pt (kn gT base w0) 22 [.str [112, 102, 97, 105, 114, 32, 101, 97, 114, 108, 121, 32, 119, 114, 97, 112, 32, 116, 119, 105, 110]] [] (.slice (.own 0) 1 0 4) [some (.row 9 1 modesL)] := Pt.run (k := 100) (prims_none _ _ _) (by kernel_rfl)
  exact h.shift gT_low rfl
end Go.Proofs.YtldiaopobcebpaaDoor.sy
