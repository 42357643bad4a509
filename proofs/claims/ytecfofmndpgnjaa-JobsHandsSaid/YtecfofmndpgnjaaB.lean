/- Facts on the types of this program, and the place where a walk stands (own work). -/
import Derived.Test.YtecfofmndpgnjaaAmGo
import Derived.Test.YtecfofmndpgnjaaProg
import Derived.KernelRfl
namespace Go.Proofs.Ytecfofmndpgnjaa.sy
open Go.AM
theorem mixed : Try.prog.follows .mixedOrders = true := by kernel_rfl
noncomputable def kn (G : List Nat → Option (List AV)) (base : Nat) (w0 : World) : Kn := ⟨⟨Try.prog, G⟩, base, w0, mixed⟩
theorem kn_P (G : List Nat → Option (List AV)) (base : Nat) (w0 : World) : (kn G base w0).c.P = Try.prog := rfl
theorem sz3 : szOf Try.prog 3 = some 1 := by kernel_rfl
theorem ag3 : isAggT Try.prog 3 = some false := by kernel_rfl
theorem zc3 : zeroCells Try.prog 3 = some [.int .i64 0] := by kernel_rfl
theorem za3 : zeroAV Try.prog 3 = some (.int .i64 0) := by kernel_rfl
theorem in3 : infoSB Try.prog 3 = some (1, 8) := by kernel_rfl
theorem sz4 : szOf Try.prog 4 = some 1 := by kernel_rfl
theorem ag4 : isAggT Try.prog 4 = some false := by kernel_rfl
theorem zc4 : zeroCells Try.prog 4 = some [.bool false] := by kernel_rfl
theorem za4 : zeroAV Try.prog 4 = some (.bool false) := by kernel_rfl
theorem in4 : infoSB Try.prog 4 = some (1, 1) := by kernel_rfl
theorem sz5 : szOf Try.prog 5 = some 1 := by kernel_rfl
theorem ag5 : isAggT Try.prog 5 = some false := by kernel_rfl
theorem zc5 : zeroCells Try.prog 5 = some [.int .u8 0] := by kernel_rfl
theorem za5 : zeroAV Try.prog 5 = some (.int .u8 0) := by kernel_rfl
theorem in5 : infoSB Try.prog 5 = some (1, 1) := by kernel_rfl
theorem sz20 : szOf Try.prog 20 = some 1 := by kernel_rfl
theorem ag20 : isAggT Try.prog 20 = some false := by kernel_rfl
theorem zc20 : zeroCells Try.prog 20 = some [.niliface] := by kernel_rfl
theorem za20 : zeroAV Try.prog 20 = some (.niliface) := by kernel_rfl
theorem in20 : infoSB Try.prog 20 = some (1, 16) := by kernel_rfl
theorem sz22 : szOf Try.prog 22 = some 2 := by kernel_rfl
theorem ag22 : isAggT Try.prog 22 = some true := by kernel_rfl
theorem zc22 : zeroCells Try.prog 22 = some [.int .u8 0, .int .u8 0] := by kernel_rfl
theorem za22 : zeroAV Try.prog 22 = some (.agg [.int .u8 0, .int .u8 0]) := by kernel_rfl
theorem in22 : infoSB Try.prog 22 = some (2, 2) := by kernel_rfl
theorem sz24 : szOf Try.prog 24 = some 1 := by kernel_rfl
theorem ag24 : isAggT Try.prog 24 = some false := by kernel_rfl
theorem zc24 : zeroCells Try.prog 24 = some [.nilptr] := by kernel_rfl
theorem za24 : zeroAV Try.prog 24 = some (.nilptr) := by kernel_rfl
theorem in24 : infoSB Try.prog 24 = some (1, 8) := by kernel_rfl
theorem sz26 : szOf Try.prog 26 = some 1 := by kernel_rfl
theorem ag26 : isAggT Try.prog 26 = some false := by kernel_rfl
theorem zc26 : zeroCells Try.prog 26 = some [.int .i64 0] := by kernel_rfl
theorem za26 : zeroAV Try.prog 26 = some (.int .i64 0) := by kernel_rfl
theorem in26 : infoSB Try.prog 26 = some (1, 8) := by kernel_rfl
theorem sz28 : szOf Try.prog 28 = some 1 := by kernel_rfl
theorem ag28 : isAggT Try.prog 28 = some false := by kernel_rfl
theorem zc28 : zeroCells Try.prog 28 = some [.nilslice] := by kernel_rfl
theorem za28 : zeroAV Try.prog 28 = some (.nilslice) := by kernel_rfl
theorem in28 : infoSB Try.prog 28 = some (1, 24) := by kernel_rfl
theorem sz35 : szOf Try.prog 35 = some 11 := by kernel_rfl
theorem ag35 : isAggT Try.prog 35 = some true := by kernel_rfl
theorem zc35 : zeroCells Try.prog 35 = some [.int .i64 0, .int .i64 0, .int .i64 0, .bool false, .bool false, .bool false, .bool false, .int .i64 0, .int .i64 0, .bool false, .int .i64 0] := by kernel_rfl
theorem za35 : zeroAV Try.prog 35 = some (.agg [.int .i64 0, .int .i64 0, .int .i64 0, .bool false, .bool false, .bool false, .bool false, .int .i64 0, .int .i64 0, .bool false, .int .i64 0]) := by kernel_rfl
theorem in35 : infoSB Try.prog 35 = some (11, 64) := by kernel_rfl
theorem sz40 : szOf Try.prog 40 = some 1 := by kernel_rfl
theorem ag40 : isAggT Try.prog 40 = some false := by kernel_rfl
theorem zc40 : zeroCells Try.prog 40 = some [.nilslice] := by kernel_rfl
theorem za40 : zeroAV Try.prog 40 = some (.nilslice) := by kernel_rfl
theorem in40 : infoSB Try.prog 40 = some (1, 24) := by kernel_rfl
theorem sz43 : szOf Try.prog 43 = some 1 := by kernel_rfl
theorem ag43 : isAggT Try.prog 43 = some false := by kernel_rfl
theorem zc43 : zeroCells Try.prog 43 = some [.nilslice] := by kernel_rfl
theorem za43 : zeroAV Try.prog 43 = some (.nilslice) := by kernel_rfl
theorem in43 : infoSB Try.prog 43 = some (1, 24) := by kernel_rfl
theorem sz44 : szOf Try.prog 44 = some 1 := by kernel_rfl
theorem ag44 : isAggT Try.prog 44 = some false := by kernel_rfl
theorem zc44 : zeroCells Try.prog 44 = some [.nilptr] := by kernel_rfl
theorem za44 : zeroAV Try.prog 44 = some (.nilptr) := by kernel_rfl
theorem in44 : infoSB Try.prog 44 = some (1, 8) := by kernel_rfl
theorem sz45 : szOf Try.prog 45 = some 1 := by kernel_rfl
theorem ag45 : isAggT Try.prog 45 = some false := by kernel_rfl
theorem zc45 : zeroCells Try.prog 45 = some [.nilslice] := by kernel_rfl
theorem za45 : zeroAV Try.prog 45 = some (.nilslice) := by kernel_rfl
theorem in45 : infoSB Try.prog 45 = some (1, 24) := by kernel_rfl
theorem sz47 : szOf Try.prog 47 = some 2 := by kernel_rfl
theorem ag47 : isAggT Try.prog 47 = some true := by kernel_rfl
theorem zc47 : zeroCells Try.prog 47 = some [.int .i64 0, .nilslice] := by kernel_rfl
theorem za47 : zeroAV Try.prog 47 = some (.agg [.int .i64 0, .nilslice]) := by kernel_rfl
theorem in47 : infoSB Try.prog 47 = some (2, 32) := by kernel_rfl
theorem sz49 : szOf Try.prog 49 = some 5 := by kernel_rfl
theorem ag49 : isAggT Try.prog 49 = some true := by kernel_rfl
theorem zc49 : zeroCells Try.prog 49 = some [.int .i64 0, .int .i64 0, .int .i64 0, .int .i64 0, .bool false] := by kernel_rfl
theorem za49 : zeroAV Try.prog 49 = some (.agg [.int .i64 0, .int .i64 0, .int .i64 0, .int .i64 0, .bool false]) := by kernel_rfl
theorem in49 : infoSB Try.prog 49 = some (5, 40) := by kernel_rfl
theorem sz54 : szOf Try.prog 54 = some 11 := by kernel_rfl
theorem ag54 : isAggT Try.prog 54 = some true := by kernel_rfl
theorem zc54 : zeroCells Try.prog 54 = some [.int .i64 0, .int .i64 0, .int .i64 0, .bool false, .bool false, .bool false, .bool false, .int .i64 0, .int .i64 0, .bool false, .int .i64 0] := by kernel_rfl
theorem za54 : zeroAV Try.prog 54 = some (.agg [.int .i64 0, .int .i64 0, .int .i64 0, .bool false, .bool false, .bool false, .bool false, .int .i64 0, .int .i64 0, .bool false, .int .i64 0]) := by kernel_rfl
theorem in54 : infoSB Try.prog 54 = some (11, 64) := by kernel_rfl
theorem sz58 : szOf Try.prog 58 = some 1 := by kernel_rfl
theorem ag58 : isAggT Try.prog 58 = some false := by kernel_rfl
theorem zc58 : zeroCells Try.prog 58 = some [.nilslice] := by kernel_rfl
theorem za58 : zeroAV Try.prog 58 = some (.nilslice) := by kernel_rfl
theorem in58 : infoSB Try.prog 58 = some (1, 24) := by kernel_rfl
theorem sz59 : szOf Try.prog 59 = some 1 := by kernel_rfl
theorem ag59 : isAggT Try.prog 59 = some false := by kernel_rfl
theorem zc59 : zeroCells Try.prog 59 = some [.nilslice] := by kernel_rfl
theorem za59 : zeroAV Try.prog 59 = some (.nilslice) := by kernel_rfl
theorem in59 : infoSB Try.prog 59 = some (1, 24) := by kernel_rfl
theorem sz62 : szOf Try.prog 62 = some 1 := by kernel_rfl
theorem ag62 : isAggT Try.prog 62 = some false := by kernel_rfl
theorem zc62 : zeroCells Try.prog 62 = some [.nilptr] := by kernel_rfl
theorem za62 : zeroAV Try.prog 62 = some (.nilptr) := by kernel_rfl
theorem in62 : infoSB Try.prog 62 = some (1, 8) := by kernel_rfl
theorem sz64 : szOf Try.prog 64 = some 1 := by kernel_rfl
theorem ag64 : isAggT Try.prog 64 = some false := by kernel_rfl
theorem zc64 : zeroCells Try.prog 64 = some [.nilslice] := by kernel_rfl
theorem za64 : zeroAV Try.prog 64 = some (.nilslice) := by kernel_rfl
theorem in64 : infoSB Try.prog 64 = some (1, 24) := by kernel_rfl
theorem sz66 : szOf Try.prog 66 = some 2 := by kernel_rfl
theorem ag66 : isAggT Try.prog 66 = some true := by kernel_rfl
theorem zc66 : zeroCells Try.prog 66 = some [.nilptr, .nilslice] := by kernel_rfl
theorem za66 : zeroAV Try.prog 66 = some (.agg [.nilptr, .nilslice]) := by kernel_rfl
theorem in66 : infoSB Try.prog 66 = some (2, 32) := by kernel_rfl
theorem sz69 : szOf Try.prog 69 = some 1 := by kernel_rfl
theorem ag69 : isAggT Try.prog 69 = some false := by kernel_rfl
theorem zc69 : zeroCells Try.prog 69 = some [.nilptr] := by kernel_rfl
theorem za69 : zeroAV Try.prog 69 = some (.nilptr) := by kernel_rfl
theorem in69 : infoSB Try.prog 69 = some (1, 8) := by kernel_rfl
theorem sz75 : szOf Try.prog 75 = some 1 := by kernel_rfl
theorem ag75 : isAggT Try.prog 75 = some false := by kernel_rfl
theorem zc75 : zeroCells Try.prog 75 = some [.nilmap] := by kernel_rfl
theorem za75 : zeroAV Try.prog 75 = some (.nilmap) := by kernel_rfl
theorem in75 : infoSB Try.prog 75 = some (1, 8) := by kernel_rfl
theorem sz76 : szOf Try.prog 76 = some 1 := by kernel_rfl
theorem ag76 : isAggT Try.prog 76 = some false := by kernel_rfl
theorem zc76 : zeroCells Try.prog 76 = some [.nilptr] := by kernel_rfl
theorem za76 : zeroAV Try.prog 76 = some (.nilptr) := by kernel_rfl
theorem in76 : infoSB Try.prog 76 = some (1, 8) := by kernel_rfl
theorem sz77 : szOf Try.prog 77 = some 1 := by kernel_rfl
theorem ag77 : isAggT Try.prog 77 = some false := by kernel_rfl
theorem zc77 : zeroCells Try.prog 77 = some [.nilslice] := by kernel_rfl
theorem za77 : zeroAV Try.prog 77 = some (.nilslice) := by kernel_rfl
theorem in77 : infoSB Try.prog 77 = some (1, 24) := by kernel_rfl
theorem sz79 : szOf Try.prog 79 = some 4 := by kernel_rfl
theorem ag79 : isAggT Try.prog 79 = some true := by kernel_rfl
theorem zc79 : zeroCells Try.prog 79 = some [.nilslice, .nilslice, .nilmap, .nilptr] := by kernel_rfl
theorem za79 : zeroAV Try.prog 79 = some (.agg [.nilslice, .nilslice, .nilmap, .nilptr]) := by kernel_rfl
theorem in79 : infoSB Try.prog 79 = some (4, 64) := by kernel_rfl
theorem sz87 : szOf Try.prog 87 = some 1 := by kernel_rfl
theorem ag87 : isAggT Try.prog 87 = some false := by kernel_rfl
theorem zc87 : zeroCells Try.prog 87 = some [.nilfunc] := by kernel_rfl
theorem za87 : zeroAV Try.prog 87 = some (.nilfunc) := by kernel_rfl
theorem in87 : infoSB Try.prog 87 = some (1, 8) := by kernel_rfl
theorem sz90 : szOf Try.prog 90 = some 1 := by kernel_rfl
theorem ag90 : isAggT Try.prog 90 = some false := by kernel_rfl
theorem zc90 : zeroCells Try.prog 90 = some [.niliface] := by kernel_rfl
theorem za90 : zeroAV Try.prog 90 = some (.niliface) := by kernel_rfl
theorem in90 : infoSB Try.prog 90 = some (1, 16) := by kernel_rfl
/-- all facts on types in one -/
theorem tyR : type_of% (And.intro @sz3 <| And.intro @ag3 <| And.intro @zc3 <| And.intro @za3 <| And.intro @in3 <| And.intro @Try.underlying3 <| And.intro @sz4 <| And.intro @ag4 <| And.intro @zc4 <| And.intro @za4 <| And.intro @in4 <| And.intro @Try.underlying4 <| And.intro @sz5 <| And.intro @ag5 <| And.intro @zc5 <| And.intro @za5 <| And.intro @in5 <| And.intro @Try.underlying5 <| And.intro @sz20 <| And.intro @ag20 <| And.intro @zc20 <| And.intro @za20 <| And.intro @in20 <| And.intro @Try.underlying20 <| And.intro @sz22 <| And.intro @ag22 <| And.intro @zc22 <| And.intro @za22 <| And.intro @in22 <| And.intro @Try.underlying22 <| And.intro @sz24 <| And.intro @ag24 <| And.intro @zc24 <| And.intro @za24 <| And.intro @in24 <| And.intro @Try.underlying24 <| And.intro @sz26 <| And.intro @ag26 <| And.intro @zc26 <| And.intro @za26 <| And.intro @in26 <| And.intro @Try.underlying26 <| And.intro @sz28 <| And.intro @ag28 <| And.intro @zc28 <| And.intro @za28 <| And.intro @in28 <| And.intro @Try.underlying28 <| And.intro @sz35 <| And.intro @ag35 <| And.intro @zc35 <| And.intro @za35 <| And.intro @in35 <| And.intro @Try.underlying35 <| And.intro @sz40 <| And.intro @ag40 <| And.intro @zc40 <| And.intro @za40 <| And.intro @in40 <| And.intro @Try.underlying40 <| And.intro @sz43 <| And.intro @ag43 <| And.intro @zc43 <| And.intro @za43 <| And.intro @in43 <| And.intro @Try.underlying43 <| And.intro @sz44 <| And.intro @ag44 <| And.intro @zc44 <| And.intro @za44 <| And.intro @in44 <| And.intro @Try.underlying44 <| And.intro @sz45 <| And.intro @ag45 <| And.intro @zc45 <| And.intro @za45 <| And.intro @in45 <| And.intro @Try.underlying45 <| And.intro @sz47 <| And.intro @ag47 <| And.intro @zc47 <| And.intro @za47 <| And.intro @in47 <| And.intro @Try.underlying47 <| And.intro @sz49 <| And.intro @ag49 <| And.intro @zc49 <| And.intro @za49 <| And.intro @in49 <| And.intro @Try.underlying49 <| And.intro @sz54 <| And.intro @ag54 <| And.intro @zc54 <| And.intro @za54 <| And.intro @in54 <| And.intro @Try.underlying54 <| And.intro @sz58 <| And.intro @ag58 <| And.intro @zc58 <| And.intro @za58 <| And.intro @in58 <| And.intro @Try.underlying58 <| And.intro @sz59 <| And.intro @ag59 <| And.intro @zc59 <| And.intro @za59 <| And.intro @in59 <| And.intro @Try.underlying59 <| And.intro @sz62 <| And.intro @ag62 <| And.intro @zc62 <| And.intro @za62 <| And.intro @in62 <| And.intro @Try.underlying62 <| And.intro @sz64 <| And.intro @ag64 <| And.intro @zc64 <| And.intro @za64 <| And.intro @in64 <| And.intro @Try.underlying64 <| And.intro @sz66 <| And.intro @ag66 <| And.intro @zc66 <| And.intro @za66 <| And.intro @in66 <| And.intro @Try.underlying66 <| And.intro @sz69 <| And.intro @ag69 <| And.intro @zc69 <| And.intro @za69 <| And.intro @in69 <| And.intro @Try.underlying69 <| And.intro @sz75 <| And.intro @ag75 <| And.intro @zc75 <| And.intro @za75 <| And.intro @in75 <| And.intro @Try.underlying75 <| And.intro @sz76 <| And.intro @ag76 <| And.intro @zc76 <| And.intro @za76 <| And.intro @in76 <| And.intro @Try.underlying76 <| And.intro @sz77 <| And.intro @ag77 <| And.intro @zc77 <| And.intro @za77 <| And.intro @in77 <| And.intro @Try.underlying77 <| And.intro @sz79 <| And.intro @ag79 <| And.intro @zc79 <| And.intro @za79 <| And.intro @in79 <| And.intro @Try.underlying79 <| And.intro @sz87 <| And.intro @ag87 <| And.intro @zc87 <| And.intro @za87 <| And.intro @in87 <| And.intro @Try.underlying87 <| And.intro @sz90 <| And.intro @ag90 <| And.intro @zc90 <| And.intro @za90 <| And.intro @in90 @Try.underlying90) := And.intro @sz3 <| And.intro @ag3 <| And.intro @zc3 <| And.intro @za3 <| And.intro @in3 <| And.intro @Try.underlying3 <| And.intro @sz4 <| And.intro @ag4 <| And.intro @zc4 <| And.intro @za4 <| And.intro @in4 <| And.intro @Try.underlying4 <| And.intro @sz5 <| And.intro @ag5 <| And.intro @zc5 <| And.intro @za5 <| And.intro @in5 <| And.intro @Try.underlying5 <| And.intro @sz20 <| And.intro @ag20 <| And.intro @zc20 <| And.intro @za20 <| And.intro @in20 <| And.intro @Try.underlying20 <| And.intro @sz22 <| And.intro @ag22 <| And.intro @zc22 <| And.intro @za22 <| And.intro @in22 <| And.intro @Try.underlying22 <| And.intro @sz24 <| And.intro @ag24 <| And.intro @zc24 <| And.intro @za24 <| And.intro @in24 <| And.intro @Try.underlying24 <| And.intro @sz26 <| And.intro @ag26 <| And.intro @zc26 <| And.intro @za26 <| And.intro @in26 <| And.intro @Try.underlying26 <| And.intro @sz28 <| And.intro @ag28 <| And.intro @zc28 <| And.intro @za28 <| And.intro @in28 <| And.intro @Try.underlying28 <| And.intro @sz35 <| And.intro @ag35 <| And.intro @zc35 <| And.intro @za35 <| And.intro @in35 <| And.intro @Try.underlying35 <| And.intro @sz40 <| And.intro @ag40 <| And.intro @zc40 <| And.intro @za40 <| And.intro @in40 <| And.intro @Try.underlying40 <| And.intro @sz43 <| And.intro @ag43 <| And.intro @zc43 <| And.intro @za43 <| And.intro @in43 <| And.intro @Try.underlying43 <| And.intro @sz44 <| And.intro @ag44 <| And.intro @zc44 <| And.intro @za44 <| And.intro @in44 <| And.intro @Try.underlying44 <| And.intro @sz45 <| And.intro @ag45 <| And.intro @zc45 <| And.intro @za45 <| And.intro @in45 <| And.intro @Try.underlying45 <| And.intro @sz47 <| And.intro @ag47 <| And.intro @zc47 <| And.intro @za47 <| And.intro @in47 <| And.intro @Try.underlying47 <| And.intro @sz49 <| And.intro @ag49 <| And.intro @zc49 <| And.intro @za49 <| And.intro @in49 <| And.intro @Try.underlying49 <| And.intro @sz54 <| And.intro @ag54 <| And.intro @zc54 <| And.intro @za54 <| And.intro @in54 <| And.intro @Try.underlying54 <| And.intro @sz58 <| And.intro @ag58 <| And.intro @zc58 <| And.intro @za58 <| And.intro @in58 <| And.intro @Try.underlying58 <| And.intro @sz59 <| And.intro @ag59 <| And.intro @zc59 <| And.intro @za59 <| And.intro @in59 <| And.intro @Try.underlying59 <| And.intro @sz62 <| And.intro @ag62 <| And.intro @zc62 <| And.intro @za62 <| And.intro @in62 <| And.intro @Try.underlying62 <| And.intro @sz64 <| And.intro @ag64 <| And.intro @zc64 <| And.intro @za64 <| And.intro @in64 <| And.intro @Try.underlying64 <| And.intro @sz66 <| And.intro @ag66 <| And.intro @zc66 <| And.intro @za66 <| And.intro @in66 <| And.intro @Try.underlying66 <| And.intro @sz69 <| And.intro @ag69 <| And.intro @zc69 <| And.intro @za69 <| And.intro @in69 <| And.intro @Try.underlying69 <| And.intro @sz75 <| And.intro @ag75 <| And.intro @zc75 <| And.intro @za75 <| And.intro @in75 <| And.intro @Try.underlying75 <| And.intro @sz76 <| And.intro @ag76 <| And.intro @zc76 <| And.intro @za76 <| And.intro @in76 <| And.intro @Try.underlying76 <| And.intro @sz77 <| And.intro @ag77 <| And.intro @zc77 <| And.intro @za77 <| And.intro @in77 <| And.intro @Try.underlying77 <| And.intro @sz79 <| And.intro @ag79 <| And.intro @zc79 <| And.intro @za79 <| And.intro @in79 <| And.intro @Try.underlying79 <| And.intro @sz87 <| And.intro @ag87 <| And.intro @zc87 <| And.intro @za87 <| And.intro @in87 <| And.intro @Try.underlying87 <| And.intro @sz90 <| And.intro @ag90 <| And.intro @zc90 <| And.intro @za90 <| And.intro @in90 @Try.underlying90

end Go.Proofs.Ytecfofmndpgnjaa.sy
