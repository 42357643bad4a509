/- Facts on the types of this program, and the place where a walk stands (own work). -/
import Derived.Test.YtffpahpbgeillaaAmSlice
import Derived.Test.YtffpahpbgeillaaProg
import Derived.KernelRfl
namespace Go.Proofs.Ytffpahpbgeillaa.sy
open Go.AM
theorem mixed : Try.prog.follows .mixedOrders = true := by kernel_rfl
noncomputable def kn (G : List Nat → Option (List AV)) (base : Nat) (w0 : World) : Kn := ⟨⟨Try.prog, G⟩, base, w0, mixed⟩
theorem kn_P (G : List Nat → Option (List AV)) (base : Nat) (w0 : World) : (kn G base w0).c.P = Try.prog := rfl
theorem sz3 : szOf Try.prog 3 = some 1 := by kernel_rfl
theorem ag3 : isAggT Try.prog 3 = some false := by kernel_rfl
theorem zc3 : zeroCells Try.prog 3 = some [.int .i64 0] := by kernel_rfl
theorem za3 : zeroAV Try.prog 3 = some (.int .i64 0) := by kernel_rfl
theorem in3 : infoSB Try.prog 3 = some (1, 8) := by kernel_rfl
theorem sz4 : szOf Try.prog 4 = some 1 := by kernel_rfl
theorem ag4 : isAggT Try.prog 4 = some false := by kernel_rfl
theorem zc4 : zeroCells Try.prog 4 = some [.bool false] := by kernel_rfl
theorem za4 : zeroAV Try.prog 4 = some (.bool false) := by kernel_rfl
theorem in4 : infoSB Try.prog 4 = some (1, 1) := by kernel_rfl
theorem sz5 : szOf Try.prog 5 = some 1 := by kernel_rfl
theorem ag5 : isAggT Try.prog 5 = some false := by kernel_rfl
theorem zc5 : zeroCells Try.prog 5 = some [.int .u8 0] := by kernel_rfl
theorem za5 : zeroAV Try.prog 5 = some (.int .u8 0) := by kernel_rfl
theorem in5 : infoSB Try.prog 5 = some (1, 1) := by kernel_rfl
theorem sz22 : szOf Try.prog 22 = some 1 := by kernel_rfl
theorem ag22 : isAggT Try.prog 22 = some false := by kernel_rfl
theorem zc22 : zeroCells Try.prog 22 = some [.nilslice] := by kernel_rfl
theorem za22 : zeroAV Try.prog 22 = some (.nilslice) := by kernel_rfl
theorem in22 : infoSB Try.prog 22 = some (1, 24) := by kernel_rfl
theorem sz24 : szOf Try.prog 24 = some 1 := by kernel_rfl
theorem ag24 : isAggT Try.prog 24 = some false := by kernel_rfl
theorem zc24 : zeroCells Try.prog 24 = some [.nilptr] := by kernel_rfl
theorem za24 : zeroAV Try.prog 24 = some (.nilptr) := by kernel_rfl
theorem in24 : infoSB Try.prog 24 = some (1, 8) := by kernel_rfl
theorem sz26 : szOf Try.prog 26 = some 1 := by kernel_rfl
theorem ag26 : isAggT Try.prog 26 = some false := by kernel_rfl
theorem zc26 : zeroCells Try.prog 26 = some [.nilslice] := by kernel_rfl
theorem za26 : zeroAV Try.prog 26 = some (.nilslice) := by kernel_rfl
theorem in26 : infoSB Try.prog 26 = some (1, 24) := by kernel_rfl
theorem sz27 : szOf Try.prog 27 = some 1 := by kernel_rfl
theorem ag27 : isAggT Try.prog 27 = some false := by kernel_rfl
theorem zc27 : zeroCells Try.prog 27 = some [.int .i64 0] := by kernel_rfl
theorem za27 : zeroAV Try.prog 27 = some (.int .i64 0) := by kernel_rfl
theorem in27 : infoSB Try.prog 27 = some (1, 8) := by kernel_rfl
theorem sz47 : szOf Try.prog 47 = some 1 := by kernel_rfl
theorem ag47 : isAggT Try.prog 47 = some false := by kernel_rfl
theorem zc47 : zeroCells Try.prog 47 = some [.nilmap] := by kernel_rfl
theorem za47 : zeroAV Try.prog 47 = some (.nilmap) := by kernel_rfl
theorem in47 : infoSB Try.prog 47 = some (1, 8) := by kernel_rfl
theorem sz49 : szOf Try.prog 49 = some 3 := by kernel_rfl
theorem ag49 : isAggT Try.prog 49 = some true := by kernel_rfl
theorem zc49 : zeroCells Try.prog 49 = some [.int .i64 0, .nilmap, .nilmap] := by kernel_rfl
theorem za49 : zeroAV Try.prog 49 = some (.agg [.int .i64 0, .nilmap, .nilmap]) := by kernel_rfl
theorem in49 : infoSB Try.prog 49 = some (3, 24) := by kernel_rfl
theorem sz52 : szOf Try.prog 52 = some 1 := by kernel_rfl
theorem ag52 : isAggT Try.prog 52 = some false := by kernel_rfl
theorem zc52 : zeroCells Try.prog 52 = some [.nilfunc] := by kernel_rfl
theorem za52 : zeroAV Try.prog 52 = some (.nilfunc) := by kernel_rfl
theorem in52 : infoSB Try.prog 52 = some (1, 8) := by kernel_rfl
theorem sz55 : szOf Try.prog 55 = some 1 := by kernel_rfl
theorem ag55 : isAggT Try.prog 55 = some false := by kernel_rfl
theorem zc55 : zeroCells Try.prog 55 = some [.nilslice] := by kernel_rfl
theorem za55 : zeroAV Try.prog 55 = some (.nilslice) := by kernel_rfl
theorem in55 : infoSB Try.prog 55 = some (1, 24) := by kernel_rfl
theorem sz56 : szOf Try.prog 56 = some 1 := by kernel_rfl
theorem ag56 : isAggT Try.prog 56 = some false := by kernel_rfl
theorem zc56 : zeroCells Try.prog 56 = some [.nilslice] := by kernel_rfl
theorem za56 : zeroAV Try.prog 56 = some (.nilslice) := by kernel_rfl
theorem in56 : infoSB Try.prog 56 = some (1, 24) := by kernel_rfl
end Go.Proofs.Ytffpahpbgeillaa.sy
