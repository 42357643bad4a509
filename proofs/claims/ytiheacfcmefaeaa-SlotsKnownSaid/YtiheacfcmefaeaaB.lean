/- Facts on the types of this program, and the place where a walk stands (own work). -/
import Derived.Test.YtiheacfcmefaeaaAmSlice
import Derived.Test.YtiheacfcmefaeaaProg
import Derived.KernelRfl
namespace Go.Proofs.Ytiheacfcmefaeaa.sy
open Go.AM
theorem mixed : Try.prog.follows .mixedOrders = true := by kernel_rfl
noncomputable def kn (G : List Nat → Option (List AV)) (base : Nat) (w0 : World) : Kn := ⟨⟨Try.prog, G⟩, base, w0, mixed⟩
theorem kn_P (G : List Nat → Option (List AV)) (base : Nat) (w0 : World) : (kn G base w0).c.P = Try.prog := rfl
theorem sz3 : szOf Try.prog 3 = some 1 := by kernel_rfl
theorem ag3 : isAggT Try.prog 3 = some false := by kernel_rfl
theorem zc3 : zeroCells Try.prog 3 = some [.int .i64 0] := by kernel_rfl
theorem za3 : zeroAV Try.prog 3 = some (.int .i64 0) := by kernel_rfl
theorem in3 : infoSB Try.prog 3 = some (1, 8) := by kernel_rfl
theorem sz4 : szOf Try.prog 4 = some 1 := by kernel_rfl
theorem ag4 : isAggT Try.prog 4 = some false := by kernel_rfl
theorem zc4 : zeroCells Try.prog 4 = some [.bool false] := by kernel_rfl
theorem za4 : zeroAV Try.prog 4 = some (.bool false) := by kernel_rfl
theorem in4 : infoSB Try.prog 4 = some (1, 1) := by kernel_rfl
theorem sz5 : szOf Try.prog 5 = some 1 := by kernel_rfl
theorem ag5 : isAggT Try.prog 5 = some false := by kernel_rfl
theorem zc5 : zeroCells Try.prog 5 = some [.int .u8 0] := by kernel_rfl
theorem za5 : zeroAV Try.prog 5 = some (.int .u8 0) := by kernel_rfl
theorem in5 : infoSB Try.prog 5 = some (1, 1) := by kernel_rfl
theorem sz20 : szOf Try.prog 20 = some 1 := by kernel_rfl
theorem ag20 : isAggT Try.prog 20 = some false := by kernel_rfl
theorem zc20 : zeroCells Try.prog 20 = some [.niliface] := by kernel_rfl
theorem za20 : zeroAV Try.prog 20 = some (.niliface) := by kernel_rfl
theorem in20 : infoSB Try.prog 20 = some (1, 16) := by kernel_rfl
theorem sz22 : szOf Try.prog 22 = some 1 := by kernel_rfl
theorem ag22 : isAggT Try.prog 22 = some false := by kernel_rfl
theorem zc22 : zeroCells Try.prog 22 = some [.nilslice] := by kernel_rfl
theorem za22 : zeroAV Try.prog 22 = some (.nilslice) := by kernel_rfl
theorem in22 : infoSB Try.prog 22 = some (1, 24) := by kernel_rfl
theorem sz24 : szOf Try.prog 24 = some 1 := by kernel_rfl
theorem ag24 : isAggT Try.prog 24 = some false := by kernel_rfl
theorem zc24 : zeroCells Try.prog 24 = some [.nilptr] := by kernel_rfl
theorem za24 : zeroAV Try.prog 24 = some (.nilptr) := by kernel_rfl
theorem in24 : infoSB Try.prog 24 = some (1, 8) := by kernel_rfl
theorem sz26 : szOf Try.prog 26 = some 1 := by kernel_rfl
theorem ag26 : isAggT Try.prog 26 = some false := by kernel_rfl
theorem zc26 : zeroCells Try.prog 26 = some [.nilslice] := by kernel_rfl
theorem za26 : zeroAV Try.prog 26 = some (.nilslice) := by kernel_rfl
theorem in26 : infoSB Try.prog 26 = some (1, 24) := by kernel_rfl
theorem sz27 : szOf Try.prog 27 = some 1 := by kernel_rfl
theorem ag27 : isAggT Try.prog 27 = some false := by kernel_rfl
theorem zc27 : zeroCells Try.prog 27 = some [.nilslice] := by kernel_rfl
theorem za27 : zeroAV Try.prog 27 = some (.nilslice) := by kernel_rfl
theorem in27 : infoSB Try.prog 27 = some (1, 24) := by kernel_rfl
theorem sz29 : szOf Try.prog 29 = some 2 := by kernel_rfl
theorem ag29 : isAggT Try.prog 29 = some true := by kernel_rfl
theorem zc29 : zeroCells Try.prog 29 = some [.int .i64 0, .int .i64 0] := by kernel_rfl
theorem za29 : zeroAV Try.prog 29 = some (.agg [.int .i64 0, .int .i64 0]) := by kernel_rfl
theorem in29 : infoSB Try.prog 29 = some (2, 16) := by kernel_rfl
theorem sz30 : szOf Try.prog 30 = some 1 := by kernel_rfl
theorem ag30 : isAggT Try.prog 30 = some false := by kernel_rfl
theorem zc30 : zeroCells Try.prog 30 = some [.int .i64 0] := by kernel_rfl
theorem za30 : zeroAV Try.prog 30 = some (.int .i64 0) := by kernel_rfl
theorem in30 : infoSB Try.prog 30 = some (1, 8) := by kernel_rfl
theorem sz39 : szOf Try.prog 39 = some 1 := by kernel_rfl
theorem ag39 : isAggT Try.prog 39 = some false := by kernel_rfl
theorem zc39 : zeroCells Try.prog 39 = some [.int .u16 0] := by kernel_rfl
theorem za39 : zeroAV Try.prog 39 = some (.int .u16 0) := by kernel_rfl
theorem in39 : infoSB Try.prog 39 = some (1, 2) := by kernel_rfl
theorem sz41 : szOf Try.prog 41 = some 1 := by kernel_rfl
theorem ag41 : isAggT Try.prog 41 = some false := by kernel_rfl
theorem zc41 : zeroCells Try.prog 41 = some [.nilslice] := by kernel_rfl
theorem za41 : zeroAV Try.prog 41 = some (.nilslice) := by kernel_rfl
theorem in41 : infoSB Try.prog 41 = some (1, 24) := by kernel_rfl
theorem sz44 : szOf Try.prog 44 = some 1 := by kernel_rfl
theorem ag44 : isAggT Try.prog 44 = some false := by kernel_rfl
theorem zc44 : zeroCells Try.prog 44 = some [.nilmap] := by kernel_rfl
theorem za44 : zeroAV Try.prog 44 = some (.nilmap) := by kernel_rfl
theorem in44 : infoSB Try.prog 44 = some (1, 8) := by kernel_rfl
theorem sz45 : szOf Try.prog 45 = some 1 := by kernel_rfl
theorem ag45 : isAggT Try.prog 45 = some false := by kernel_rfl
theorem zc45 : zeroCells Try.prog 45 = some [.nilptr] := by kernel_rfl
theorem za45 : zeroAV Try.prog 45 = some (.nilptr) := by kernel_rfl
theorem in45 : infoSB Try.prog 45 = some (1, 8) := by kernel_rfl
theorem sz46 : szOf Try.prog 46 = some 1 := by kernel_rfl
theorem ag46 : isAggT Try.prog 46 = some false := by kernel_rfl
theorem zc46 : zeroCells Try.prog 46 = some [.nilslice] := by kernel_rfl
theorem za46 : zeroAV Try.prog 46 = some (.nilslice) := by kernel_rfl
theorem in46 : infoSB Try.prog 46 = some (1, 24) := by kernel_rfl
theorem sz48 : szOf Try.prog 48 = some 4 := by kernel_rfl
theorem ag48 : isAggT Try.prog 48 = some true := by kernel_rfl
theorem zc48 : zeroCells Try.prog 48 = some [.nilslice, .nilslice, .nilmap, .nilptr] := by kernel_rfl
theorem za48 : zeroAV Try.prog 48 = some (.agg [.nilslice, .nilslice, .nilmap, .nilptr]) := by kernel_rfl
theorem in48 : infoSB Try.prog 48 = some (4, 64) := by kernel_rfl
theorem sz53 : szOf Try.prog 53 = some 1 := by kernel_rfl
theorem ag53 : isAggT Try.prog 53 = some false := by kernel_rfl
theorem zc53 : zeroCells Try.prog 53 = some [.nilfunc] := by kernel_rfl
theorem za53 : zeroAV Try.prog 53 = some (.nilfunc) := by kernel_rfl
theorem in53 : infoSB Try.prog 53 = some (1, 8) := by kernel_rfl
theorem sz56 : szOf Try.prog 56 = some 1 := by kernel_rfl
theorem ag56 : isAggT Try.prog 56 = some false := by kernel_rfl
theorem zc56 : zeroCells Try.prog 56 = some [.niliface] := by kernel_rfl
theorem za56 : zeroAV Try.prog 56 = some (.niliface) := by kernel_rfl
theorem in56 : infoSB Try.prog 56 = some (1, 16) := by kernel_rfl
end Go.Proofs.Ytiheacfcmefaeaa.sy
