/-
  SLICES.SORTED OVER MAPS.KEYS AT THIS DUMP (own work over the shelf's contracts): the keys of a map, sorted, as a function that the abstract machine knows.
-/
import Derived.Test.YtecfofmndpgnjaaAmKeys
import Derived.Shelf.SortM.Plain
import Derived.Shelf.SortM.SortNone
import Derived.Test.YtecfofmndpgnjaaProg
import Derived.KernelRfl
namespace Go.Proofs.Ytecfofmndpgnjaa.skeys
open Go.RowKit Go.Shelf Go.AM Go.Maps Go.Sort

def keysA_ren : Go.Shelf.Ren := ⟨fun | 7 => 42 | 10 => 47 | n => n, fun | 23 => 75 | 26 => 3 | 3 => 3 | 28 => 87 | 0 => 0 | 27 => 86 | 33 => 55 | 4 => 4 | n => n, fun | n => n⟩
theorem keysA : Go.Proofs.SlLaysZI.n7 Try.prog keysA_ren := {
  mixed := by kernel_rfl
  f7 := ⟨Try.f42.name, by decide, Try.func42.trans (congrArg some (by kernel_rfl))⟩
  f10 := ⟨Try.f47.name, by decide, Try.func47.trans (congrArg some (by kernel_rfl))⟩
  t0 := Try.underlying0
  a0 := Try.isAgg0
  z0 := Try.sizeOf0
  v0 := Try.zeroValue0
  t4 := Try.underlying4
  a4 := Try.isAgg4
  z4 := Try.sizeOf4
  v4 := Try.zeroValue4
  t23 := Try.underlying75
  a23 := Try.isAgg75
  z23 := Try.sizeOf75
  v23 := Try.zeroValue75
  t26 := Try.underlying3
  a26 := Try.isAgg3
  z26 := Try.sizeOf3
  v26 := Try.zeroValue3
  t27 := Try.underlying86
  a27 := Try.isAgg86
  z27 := Try.sizeOf86
  v27 := Try.zeroValue86
  t28 := Try.underlying87
  a28 := Try.isAgg87
  z28 := Try.sizeOf87
  v28 := Try.zeroValue87
  t33 := Try.underlying55
  a33 := Try.isAgg55
  z33 := Try.sizeOf55
  v33 := Try.zeroValue55 }
def sortedA_ren : Go.Shelf.Ren := ⟨fun | 6 => 41 | 8 => 45 | 9 => 46 | 11 => 48 | 13 => 50 | 12 => 49 | 23 => 60 | 24 => 61 | 14 => 51 | 15 => 52 | 16 => 53 | 17 => 54 | 18 => 55 | 19 => 56 | 20 => 57 | 21 => 58 | 22 => 59 | 25 => 62 | 26 => 63 | 27 => 64 | 28 => 65 | 29 => 66 | 30 => 67 | 31 => 68 | n => n, fun | 26 => 3 | 28 => 87 | 24 => 28 | 0 => 0 | 3 => 3 | 37 => 100 | 48 => 109 | 50 => 111 | 4 => 4 | 40 => 103 | 39 => 102 | 45 => 81 | 5 => 5 | 9 => 9 | 51 => 112 | 55 => 116 | 57 => 118 | 58 => 119 | 33 => 55 | n => n, fun | n => n⟩
theorem sortedA : Go.Proofs.SlLaysZI.n6 Try.prog sortedA_ren := {
  mixed := by kernel_rfl
  f6 := ⟨Try.f41.name, by decide, Try.func41.trans (congrArg some (by kernel_rfl))⟩
  f8 := ⟨Try.f45.name, by decide, Try.func45.trans (congrArg some (by kernel_rfl))⟩
  f11 := ⟨Try.f48.name, by decide, Try.func48.trans (congrArg some (by kernel_rfl))⟩
  t0 := Try.underlying0
  a0 := Try.isAgg0
  z0 := Try.sizeOf0
  v0 := Try.zeroValue0
  t24 := Try.underlying28
  a24 := Try.isAgg28
  z24 := Try.sizeOf28
  v24 := Try.zeroValue28
  t26 := Try.underlying3
  a26 := Try.isAgg3
  z26 := Try.sizeOf3
  v26 := Try.zeroValue3
  t28 := Try.underlying87
  a28 := Try.isAgg87
  z28 := Try.sizeOf87
  v28 := Try.zeroValue87
  i26 := by kernel_rfl }
def sortA_ren : Go.Shelf.Ren := ⟨fun | 5 => 46 | 8 => 50 | 7 => 49 | 19 => 60 | 20 => 61 | 10 => 51 | 11 => 52 | 12 => 53 | 13 => 54 | 14 => 55 | 15 => 56 | 16 => 57 | 17 => 58 | 18 => 59 | 30 => 62 | 31 => 63 | 32 => 64 | 33 => 65 | 34 => 66 | 35 => 67 | 40 => 68 | n => n, fun | 23 => 28 | 25 => 3 | 3 => 3 | 32 => 100 | 22 => 28 | 0 => 0 | 44 => 109 | 46 => 111 | 4 => 4 | 36 => 103 | 35 => 102 | 41 => 81 | 5 => 5 | 9 => 9 | 53 => 112 | 57 => 116 | 63 => 118 | 64 => 119 | n => n, fun | n => n⟩
theorem sortA : Go.Proofs.SlLaysM.n5 Try.prog sortA_ren := {
  mixed := by kernel_rfl
  f5 := ⟨Try.f46.name, by decide, Try.func46.trans (congrArg some (by kernel_rfl))⟩
  f7 := ⟨Try.f49.name, by decide, Try.func49.trans (congrArg some (by kernel_rfl))⟩
  f8 := Try.func50.trans (congrArg some (by kernel_rfl))
  f10 := ⟨Try.f51.name, by decide, Try.func51.trans (congrArg some (by kernel_rfl))⟩
  f11 := ⟨Try.f52.name, by decide, Try.func52.trans (congrArg some (by kernel_rfl))⟩
  f12 := ⟨Try.f53.name, by decide, Try.func53.trans (congrArg some (by kernel_rfl))⟩
  f13 := ⟨Try.f54.name, by decide, Try.func54.trans (congrArg some (by kernel_rfl))⟩
  f14 := ⟨Try.f55.name, by decide, Try.func55.trans (congrArg some (by kernel_rfl))⟩
  f15 := ⟨Try.f56.name, by decide, Try.func56.trans (congrArg some (by kernel_rfl))⟩
  f16 := ⟨Try.f57.name, by decide, Try.func57.trans (congrArg some (by kernel_rfl))⟩
  f17 := ⟨Try.f58.name, by decide, Try.func58.trans (congrArg some (by kernel_rfl))⟩
  f18 := ⟨Try.f59.name, by decide, Try.func59.trans (congrArg some (by kernel_rfl))⟩
  f19 := Try.func60.trans (congrArg some (by kernel_rfl))
  f20 := Try.func61.trans (congrArg some (by kernel_rfl))
  f30 := ⟨Try.f62.name, by decide, Try.func62.trans (congrArg some (by kernel_rfl))⟩
  f31 := Try.func63.trans (congrArg some (by kernel_rfl))
  f32 := Try.func64.trans (congrArg some (by kernel_rfl))
  f33 := ⟨Try.f65.name, by decide, Try.func65.trans (congrArg some (by kernel_rfl))⟩
  f34 := ⟨Try.f66.name, by decide, Try.func66.trans (congrArg some (by kernel_rfl))⟩
  f35 := ⟨Try.f67.name, by decide, Try.func67.trans (congrArg some (by kernel_rfl))⟩
  f40 := ⟨Try.f68.name, by decide, Try.func68.trans (congrArg some (by kernel_rfl))⟩
  t0 := Try.underlying0
  a0 := Try.isAgg0
  z0 := Try.sizeOf0
  v0 := Try.zeroValue0
  t3 := Try.underlying3
  a3 := Try.isAgg3
  z3 := Try.sizeOf3
  v3 := Try.zeroValue3
  t4 := Try.underlying4
  a4 := Try.isAgg4
  z4 := Try.sizeOf4
  v4 := Try.zeroValue4
  t5 := Try.underlying5
  a5 := Try.isAgg5
  z5 := Try.sizeOf5
  v5 := Try.zeroValue5
  t9 := Try.underlying9
  a9 := Try.isAgg9
  z9 := Try.sizeOf9
  v9 := Try.zeroValue9
  t22 := Try.underlying28
  a22 := Try.isAgg28
  z22 := Try.sizeOf28
  v22 := Try.zeroValue28
  t23 := Try.underlying28
  a23 := Try.isAgg28
  z23 := Try.sizeOf28
  v23 := Try.zeroValue28
  t25 := Try.underlying3
  a25 := Try.isAgg3
  z25 := Try.sizeOf3
  v25 := Try.zeroValue3
  t32 := Try.underlying100
  a32 := Try.isAgg100
  z32 := Try.sizeOf100
  v32 := Try.zeroValue100
  t35 := Try.underlying102
  a35 := Try.isAgg102
  z35 := Try.sizeOf102
  v35 := Try.zeroValue102
  t36 := Try.underlying103
  a36 := Try.isAgg103
  z36 := Try.sizeOf103
  v36 := Try.zeroValue103
  t41 := Try.underlying81
  a41 := Try.isAgg81
  z41 := Try.sizeOf81
  v41 := Try.zeroValue81
  t44 := Try.underlying109
  a44 := Try.isAgg109
  z44 := Try.sizeOf109
  v44 := Try.zeroValue109
  t46 := Try.underlying111
  a46 := Try.isAgg111
  z46 := Try.sizeOf111
  v46 := Try.zeroValue111
  t53 := Try.underlying112
  a53 := Try.isAgg112
  z53 := Try.sizeOf112
  v53 := Try.zeroValue112
  t57 := Try.underlying116
  a57 := Try.isAgg116
  z57 := Try.sizeOf116
  v57 := Try.zeroValue116
  t63 := Try.underlying118
  a63 := Try.isAgg118
  z63 := Try.sizeOf118
  v63 := Try.zeroValue118
  t64 := Try.underlying119
  a64 := Try.isAgg119
  z64 := Try.sizeOf119
  v64 := Try.zeroValue119 }

theorem sortsA (m : Nat) : AnyZI.SortsIn Try.prog sortedA_ren Fence.wide m :=
  ⟨fun blk off cap ss W hH hblk hsz => callsIn_wide.2 (AnyM.slices_Sort_int sortA blk off cap ss W hH hblk hsz),
   fun p cap W => callsIn_wide.2 (AnyM.slices_Sort_int_none sortA p cap W)⟩

/-- slices.Sorted over maps.Keys -/
def prim (c : Ctx) : List AV → AHeap → Option (AV × AHeap)
  | [.func (.func 47) [] [.ptr l off]], H => (AM.rd c H l off 1).bind fun r => match r with
    | [.map (.own i)] => match hat H i with
      | some (.map es clock) => (intsOf (es.map (·.1))).bind fun zs =>
        if mapOk es clock zs then (if zs.isEmpty then some (.nilslice, H) else some (.slice (fresh H) 1 0 (isortI zs).length, hnew H (.row 3 1 ((isortI zs).map (AV.int .i64))))) else none
      | _ => none
    | _ => none
  | _, _ => none

theorem prim_ok {c : Ctx} (hP : c.P = Try.prog) {base : Nat} {w0 : World} : CallOK c base w0 (fun f args H => if f = 41 then prim c args H else none) := by
  intro f args H v H' e ρ w xs h hf hx
  simp only at e
  split at e
  · rename_i hf22
    subst hf22
    unfold prim at e
    split at e
    · rename_i l off
      obtain ⟨y, ys, rfl, hy, hys⟩ := hx
      simp only [VRs] at hys
      subst hys
      obtain ⟨a1, a2, h1, h2, rfl⟩ := hy
      simp only [VRs] at h1
      subst h1
      obtain ⟨y2, ys2, rfl, ⟨p, hp, rfl⟩, h3⟩ := h2
      simp only [VRs] at h3
      subst h3
      simp only [Option.bind_eq_some_iff] at e
      obtain ⟨r, hr, e⟩ := e
      obtain ⟨us, hul, hur, huc, _⟩ := rd_sound h hr hp
      split at e
      · rename_i i _hall
        split at e
        · rename_i es clock ho
          simp only [Option.bind_eq_some_iff] at e
          obtain ⟨zs, hzs, e⟩ := e
          split at e
          · rename_i hck
            obtain ⟨u, us', rfl, ⟨q, hq, rfl⟩, hus'⟩ := hur
            have hcell := huc 0 _ rfl
            obtain ⟨q', hq', ⟨ents, hb, hE⟩, _⟩ := h.own i _ ho
            obtain rfl : q = q' := by rw [hq] at hq'; exact Option.some.inj hq'
            have hc0 : w.cell? ⟨p.b, p.off + off, none⟩ = some (.map (some q.b)) := by simpa [Addr.add] using hcell
            obtain ⟨D0, hown, hperm, hsz⟩ := owns_of (P := Try.prog) (k := 3) Try.underlying3 hb hE hzs hck
            have hlen : zs.length ≤ 1000000 := by
              simp only [mapOk, Bool.and_eq_true, Nat.ble_eq] at hck
              exact hck.1
            have hseq : SeqGives Fence.wide 2 Try.prog 47 #[.pointer (some ⟨p.b, p.off + off, none⟩)] encZ (fun ss => ss.Perm (intKeys D0)) (Maps.size D0) w :=
              keys_own (ρ := keysA_ren) { keysA with } Fence.wide _ trivial rfl (by omega) p.b (p.off + off) q.b ents.size D0 w (World.block_lt_of_cell? w _ hc0) hc0 hown
            have cS := AnyZI.sorted_in sortedA Fence.wide 5 trivial trivial trivial trivial rfl (by omega) (sortsA _) (enters_of Try.func46 (by kernel_rfl) rfl) 47 #[.pointer (some ⟨p.b, p.off + off, none⟩)] trivial (enters_of Try.func47 (by kernel_rfl) rfl) _ _ (by rw [hsz]; simp [maxLen]; omega) (by rw [hsz]; omega) _ hseq
            have cc' := callsIn_wide.1 cS
            rw [hP]
            refine Calls.mono cc' ?_
            rintro e' w' ⟨v', ss, rfl, hss, hrow, hnil, hb⟩
            have hpz : ss.Perm zs := hss.trans hperm
            rw [sort_eq hpz] at hrow
            have hl : ss.length = (isortI zs).length := by rw [hpz.length_eq, (isortI_perm zs).length_eq]
            rw [hl] at hrow
            split at e
            · rename_i hz0
              cases e
              have hz1 : zs = [] := by simpa using hz0
              subst hz1
              have : ss = [] := hpz.eq_nil
              exact ⟨ρ, v', rfl, hnil.2 this, post_grow h hb⟩
            · rename_i hz0
              cases e
              obtain ⟨ρ', hv, hpost⟩ := post_ints h (hf _ (Nat.le_refl _)) hb hrow (by
                intro h0
                have := (isortI_perm zs).length_eq
                rw [h0] at this
                exact hz0 (by cases zs <;> simp_all))
              exact ⟨ρ', v', rfl, hv, hpost⟩
          · cases e
        · cases e
      · cases e
    · cases e
  · cases e

/-- the functions that are known otherwise -/
def prims (c : Ctx) : Prims := fun f => if f = 41 then some (prim c) else none

theorem prims_ok {c : Ctx} (hP : c.P = Try.prog) (base : Nat) (w0 : World) : PrimsOK c base w0 (prims c) := by
  intro f g hfg
  simp only [prims] at hfg
  split at hfg
  · rename_i hf
    cases hfg
    subst hf
    exact prim_ok hP
  · cases hfg

end Go.Proofs.Ytecfofmndpgnjaa.skeys
