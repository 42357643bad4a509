/- slices.SortFunc by ID over rows of jobs.Task (own work over the shelf's contract). -/
import Derived.Test.YtcbholgcbjddjaaM7
import Derived.Test.YtcbholgcbjddjaaM8
import Derived.Shelf.SlicesG.Cmp
import Derived.Ground.SlsfProg
import Derived.Ground.SlgcProg
import Derived.Shelf.LaySoft
import Derived.KernelRfl
namespace Go.Proofs.Ytcbholgcbjddjaa.sorts
open Go.Sort (grow putRow Holds putCells mapBlock grow_empty pdq SWO flatK size_flatK get_flatK HoldsK putRowK)
open Go.RowKit Go.Shelf Go.AM Go.AM.Jb
set_option linter.unusedVariables false
set_option linter.unusedSimpArgs false
def sortF_ren : Go.Shelf.Ren := ⟨fun | 6 => 17 | 15 => 28 | 14 => 27 | 28 => 46 | 29 => 47 | 20 => 38 | 21 => 39 | 22 => 40 | 23 => 41 | 24 => 42 | 25 => 43 | 26 => 44 | 27 => 45 | 46 => 58 | 47 => 59 | 48 => 60 | 49 => 61 | 50 => 62 | 57 => 68 | n => n, fun | 22 => 34 | 24 => 51 | 25 => 54 | 3 => 3 | 39 => 64 | 0 => 0 | 53 => 86 | 55 => 69 | 4 => 4 | 46 => 79 | 45 => 78 | 50 => 83 | 5 => 5 | 9 => 9 | 66 => 96 | 70 => 100 | 76 => 104 | 77 => 105 | n => n, fun | n => n⟩
theorem sortF : Go.Proofs.SlLaysF0.n6 Try.prog sortF_ren := {
  mixed := by kernel_rfl
  f6 := ⟨Try.f17.name, by decide, Try.func17.trans (congrArg some (by kernel_rfl))⟩
  f14 := ⟨Try.f27.name, by decide, Try.func27.trans (congrArg some (by kernel_rfl))⟩
  f15 := Try.func28.trans (congrArg some (by kernel_rfl))
  f20 := ⟨Try.f38.name, by decide, Try.func38.trans (congrArg some (by kernel_rfl))⟩
  f21 := ⟨Try.f39.name, by decide, Try.func39.trans (congrArg some (by kernel_rfl))⟩
  f22 := ⟨Try.f40.name, by decide, Try.func40.trans (congrArg some (by kernel_rfl))⟩
  f23 := ⟨Try.f41.name, by decide, Try.func41.trans (congrArg some (by kernel_rfl))⟩
  f24 := ⟨Try.f42.name, by decide, Try.func42.trans (congrArg some (by kernel_rfl))⟩
  f25 := ⟨Try.f43.name, by decide, Try.func43.trans (congrArg some (by kernel_rfl))⟩
  f26 := ⟨Try.f44.name, by decide, Try.func44.trans (congrArg some (by kernel_rfl))⟩
  f27 := ⟨Try.f45.name, by decide, Try.func45.trans (congrArg some (by kernel_rfl))⟩
  f28 := Try.func46.trans (congrArg some (by kernel_rfl))
  f29 := Try.func47.trans (congrArg some (by kernel_rfl))
  f46 := ⟨Try.f58.name, by decide, Try.func58.trans (congrArg some (by kernel_rfl))⟩
  f47 := Try.func59.trans (congrArg some (by kernel_rfl))
  f48 := Try.func60.trans (congrArg some (by kernel_rfl))
  f49 := ⟨Try.f61.name, by decide, Try.func61.trans (congrArg some (by kernel_rfl))⟩
  f50 := ⟨Try.f62.name, by decide, Try.func62.trans (congrArg some (by kernel_rfl))⟩
  f57 := ⟨Try.f68.name, by decide, Try.func68.trans (congrArg some (by kernel_rfl))⟩
  t0 := Try.underlying0
  a0 := Try.isAgg0
  z0 := Try.sizeOf0
  v0 := Try.zeroValue0
  t3 := Try.underlying3
  a3 := Try.isAgg3
  z3 := Try.sizeOf3
  v3 := Try.zeroValue3
  t4 := Try.underlying4
  a4 := Try.isAgg4
  z4 := Try.sizeOf4
  v4 := Try.zeroValue4
  t5 := Try.underlying5
  a5 := Try.isAgg5
  z5 := Try.sizeOf5
  v5 := Try.zeroValue5
  t9 := Try.underlying9
  a9 := Try.isAgg9
  z9 := Try.sizeOf9
  v9 := Try.zeroValue9
  t22 := Try.underlying34
  a22 := Try.isAgg34
  z22 := Try.sizeOf34
  v22 := Try.zeroValue34
  t25 := Try.underlying54
  a25 := Try.isAgg54
  z25 := Try.sizeOf54
  v25 := Try.zeroValue54
  t39 := Try.underlying64
  a39 := Try.isAgg64
  z39 := Try.sizeOf64
  v39 := Try.zeroValue64
  t45 := Try.underlying78
  a45 := Try.isAgg78
  z45 := Try.sizeOf78
  v45 := Try.zeroValue78
  t46 := Try.underlying79
  a46 := Try.isAgg79
  z46 := Try.sizeOf79
  v46 := Try.zeroValue79
  t50 := Try.underlying83
  a50 := Try.isAgg83
  z50 := Try.sizeOf83
  v50 := Try.zeroValue83
  t53 := Try.underlying86
  a53 := Try.isAgg86
  z53 := Try.sizeOf86
  v53 := Try.zeroValue86
  t55 := Try.underlying69
  a55 := Try.isAgg69
  z55 := Try.sizeOf69
  v55 := Try.zeroValue69
  t66 := Try.underlying96
  a66 := Try.isAgg96
  z66 := Try.sizeOf96
  v66 := Try.zeroValue96
  t70 := Try.underlying100
  a70 := Try.isAgg100
  z70 := Try.sizeOf100
  v70 := Try.zeroValue100
  t76 := Try.underlying104
  a76 := Try.isAgg104
  z76 := Try.sizeOf104
  v76 := Try.zeroValue104
  t77 := Try.underlying105
  a77 := Try.isAgg105
  z77 := Try.sizeOf105
  v77 := Try.zeroValue105 }
def cmpA_ren : Go.Shelf.Ren := ⟨fun | 5 => 19 | 7 => 29 | n => n, fun | 22 => 3 | 3 => 3 | 4 => 4 | n => n, fun | n => n⟩
theorem cmpA : Go.Proofs.SlLaysC2.n5 Try.prog cmpA_ren := {
  mixed := by kernel_rfl
  f5 := ⟨Try.f19.name, by decide, Try.func19.trans (congrArg some (by kernel_rfl))⟩
  f7 := ⟨Try.f29.name, by decide, Try.func29.trans (congrArg some (by kernel_rfl))⟩
  t3 := Try.underlying3
  a3 := Try.isAgg3
  z3 := Try.sizeOf3
  v3 := Try.zeroValue3
  t4 := Try.underlying4
  a4 := Try.isAgg4
  z4 := Try.sizeOf4
  v4 := Try.zeroValue4
  t22 := Try.underlying3
  a22 := Try.isAgg3
  z22 := Try.sizeOf3
  v22 := Try.zeroValue3 }

instance : Inhabited Tk := ⟨tk0⟩
def encV (x : Tk) : List Value := [.int .i64 x.id, .int .i64 x.e, .int .i64 x.p, .bool x.sp, .bool x.lv, .bool x.wt, .bool x.ac, .int .i64 x.rl, .int .i64 x.gt, .bool x.dn, .int .i64 x.ct]
def cfT (x y : Tk) : Int := Go.Lib.compareInt x.id y.id
theorem ltT (x y : Tk) : ltOf cfT x y = decide (x.id < y.id) := by
  unfold ltOf cfT Go.Lib.compareInt
  by_cases h1 : x.id < y.id
  · simp [h1]
  · by_cases h2 : y.id < x.id <;> simp [h1, h2]
theorem swoT : SWO (ltOf cfT) where
  irrefl x := by rw [ltT]; simp
  trans x y z h1 h2 := by rw [ltT] at *; simp at *; omega
  ntrans x y z h1 h2 := by rw [ltT] at *; simp at *; omega
set_option maxHeartbeats 1000000 in
/-- The closure: a.ID against b.ID; two blocks are laid. -/
theorem closureT (x y : Tk) (W : World) : Calls Try.prog 18 #[.agg (encV x).toArray, .agg (encV y).toArray] W fun e w' => e = .returned (.int .i64 (cfT x y)) ∧ ∃ q os', w' = grow (W.drewN q) os' := by
  have hcon := fun W' => AnyG.cmp_Compare_int cmpA x.id y.id W'
  change ∀ W', Calls Try.prog 19 _ _ _ at hcon
  unfold cfT encV
  generalize Go.Lib.compareInt x.id y.id = r at hcon ⊢
  go_enter Try.func18, Try.ntmps18
  go_wp2_with (go_at_call 19; refine (hcon _).mono ?_; rintro e w' ⟨rfl, rfl⟩)
  go_ret
  exact ⟨rfl, 0, _, by rw [Go.Sort.alloc_eq_grow, Go.Sort.alloc_eq_grow, Go.Sort.grow_grow]; rfl⟩
theorem twin : SortG.Twin wT encV := by
  refine SortG.Twin.of (fun x => ?_) (fun x v hv => ?_)
  · exact ⟨SortG.plain_int _ _, SortG.plain_int _ _, SortG.plain_int _ _, SortG.plain_bool _, SortG.plain_bool _, SortG.plain_bool _, SortG.plain_bool _, SortG.plain_int _ _, SortG.plain_int _ _, SortG.plain_bool _, SortG.plain_int _ _, trivial⟩
  · simp only [encV, List.mem_cons, List.mem_nil_iff, or_false] at hv
    rcases hv with rfl | rfl | rfl | rfl | rfl | rfl | rfl | rfl | rfl | rfl | rfl <;> rfl
variable {G : List Nat → Option (List AV)} {base : Nat} {w0 : World}
theorem spec : sy.SortSpec (sy.kn G base w0) (SortG.srt cfT) := by
  refine ⟨fun l => ?_, fun {K v xs} ho hl => ?_⟩
  · obtain ⟨a, b, c⟩ := SortG.srt_facts cfT swoT l
    refine ⟨a, b, c.imp fun {x y} h => ?_⟩
    rw [ltT] at h
    simpa using h
  · have aE : ∀ w_, (isAgg 51).run Try.prog w_ = .ok true w_ := fun w_ => by change Sem.run Try.prog (isAgg 51) w_ = _; go_simp
    have zE : ∀ w_, (Go.sizeOf 51).run Try.prog w_ = .ok 11 w_ := fun w_ => by change Sem.run Try.prog (sizeOf 51) w_ = _; go_simp
    have eg : ∀ args w, (callFunc 18 args).run Try.prog w = .ok (.enter 18 args) w := enters_of Try.func18 (by kernel_rfl) rfl
    rcases ho with ⟨rfl, rfl⟩ | ⟨b, rfl, hb⟩
    · have e : SortG.srt cfT [] = [] := List.length_eq_zero_iff.1 ((SortG.srt_facts cfT swoT []).1)
      have h := SortG.pt_nil (κ := sy.kn G base w0) (H := K) rfl sortF 18
      rw [e]
      exact ⟨K, h, OwnF.nil, Keep.refl _⟩
    · have h := SortG.pt (κ := sy.kn G base w0) (H := K) rfl sortF twin aE zE cfT swoT 18 eg closureT hb (by omega)
      refine ⟨_, h, .inr ⟨b, ?_, hrow_at (hb.lt)⟩, ?_⟩
      · rw [(SortG.srt_facts cfT swoT xs).1]
      · refine ⟨by simp [hrow], fun j _ hj => hrow_ne fun e => hj ?_⟩
        rw [e]; rfl
end Go.Proofs.Ytcbholgcbjddjaa.sorts
