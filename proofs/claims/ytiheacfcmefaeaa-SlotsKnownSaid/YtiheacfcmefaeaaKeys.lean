/-
  SLICES.SORTED OVER MAPS.KEYS AT THIS DUMP (own work over the shelf's contracts): the keys of a map, sorted, as a function that the abstract machine knows.
-/
import Derived.Test.YtiheacfcmefaeaaAmKeys
import Derived.Shelf.SortM.Plain
import Derived.Shelf.SortM.SortNone
import Derived.Test.YtiheacfcmefaeaaProg
import Derived.KernelRfl
namespace Go.Proofs.Ytiheacfcmefaeaa.skeys
open Go.RowKit Go.Shelf Go.AM Go.Maps Go.Sort

def keysA_ren : Go.Shelf.Ren := ⟨fun | 7 => 19 | 10 => 24 | n => n, fun | 23 => 44 | 26 => 3 | 3 => 3 | 28 => 53 | 0 => 0 | 27 => 52 | 33 => 33 | 4 => 4 | n => n, fun | n => n⟩
theorem keysA : Go.Proofs.SlLaysZI.n7 Try.prog keysA_ren := {
  mixed := by kernel_rfl
  f7 := ⟨Try.f19.name, by decide, Try.func19.trans (congrArg some (by kernel_rfl))⟩
  f10 := ⟨Try.f24.name, by decide, Try.func24.trans (congrArg some (by kernel_rfl))⟩
  t0 := Try.underlying0
  a0 := Try.isAgg0
  z0 := Try.sizeOf0
  v0 := Try.zeroValue0
  t4 := Try.underlying4
  a4 := Try.isAgg4
  z4 := Try.sizeOf4
  v4 := Try.zeroValue4
  t23 := Try.underlying44
  a23 := Try.isAgg44
  z23 := Try.sizeOf44
  v23 := Try.zeroValue44
  t26 := Try.underlying3
  a26 := Try.isAgg3
  z26 := Try.sizeOf3
  v26 := Try.zeroValue3
  t27 := Try.underlying52
  a27 := Try.isAgg52
  z27 := Try.sizeOf52
  v27 := Try.zeroValue52
  t28 := Try.underlying53
  a28 := Try.isAgg53
  z28 := Try.sizeOf53
  v28 := Try.zeroValue53
  t33 := Try.underlying33
  a33 := Try.isAgg33
  z33 := Try.sizeOf33
  v33 := Try.zeroValue33 }
def sortedA_ren : Go.Shelf.Ren := ⟨fun | 6 => 18 | 8 => 22 | 9 => 23 | 11 => 25 | 13 => 27 | 12 => 26 | 23 => 37 | 24 => 38 | 14 => 28 | 15 => 29 | 16 => 30 | 17 => 31 | 18 => 32 | 19 => 33 | 20 => 34 | 21 => 35 | 22 => 36 | 25 => 39 | 26 => 40 | 27 => 41 | 28 => 42 | 29 => 43 | 30 => 44 | 31 => 45 | n => n, fun | 26 => 3 | 28 => 53 | 24 => 26 | 0 => 0 | 3 => 3 | 37 => 42 | 48 => 75 | 50 => 77 | 4 => 4 | 40 => 69 | 39 => 68 | 45 => 34 | 5 => 5 | 9 => 9 | 51 => 78 | 55 => 82 | 57 => 84 | 58 => 85 | 33 => 33 | n => n, fun | n => n⟩
theorem sortedA : Go.Proofs.SlLaysZI.n6 Try.prog sortedA_ren := {
  mixed := by kernel_rfl
  f6 := ⟨Try.f18.name, by decide, Try.func18.trans (congrArg some (by kernel_rfl))⟩
  f8 := ⟨Try.f22.name, by decide, Try.func22.trans (congrArg some (by kernel_rfl))⟩
  f11 := ⟨Try.f25.name, by decide, Try.func25.trans (congrArg some (by kernel_rfl))⟩
  t0 := Try.underlying0
  a0 := Try.isAgg0
  z0 := Try.sizeOf0
  v0 := Try.zeroValue0
  t24 := Try.underlying26
  a24 := Try.isAgg26
  z24 := Try.sizeOf26
  v24 := Try.zeroValue26
  t26 := Try.underlying3
  a26 := Try.isAgg3
  z26 := Try.sizeOf3
  v26 := Try.zeroValue3
  t28 := Try.underlying53
  a28 := Try.isAgg53
  z28 := Try.sizeOf53
  v28 := Try.zeroValue53
  i26 := by kernel_rfl }
def sortA_ren : Go.Shelf.Ren := ⟨fun | 5 => 23 | 8 => 27 | 7 => 26 | 19 => 37 | 20 => 38 | 10 => 28 | 11 => 29 | 12 => 30 | 13 => 31 | 14 => 32 | 15 => 33 | 16 => 34 | 17 => 35 | 18 => 36 | 30 => 39 | 31 => 40 | 32 => 41 | 33 => 42 | 34 => 43 | 35 => 44 | 40 => 45 | n => n, fun | 23 => 26 | 25 => 3 | 3 => 3 | 32 => 42 | 22 => 26 | 0 => 0 | 44 => 75 | 46 => 77 | 4 => 4 | 36 => 69 | 35 => 68 | 41 => 34 | 5 => 5 | 9 => 9 | 53 => 78 | 57 => 82 | 63 => 84 | 64 => 85 | n => n, fun | n => n⟩
theorem sortA : Go.Proofs.SlLaysM.n5 Try.prog sortA_ren := {
  mixed := by kernel_rfl
  f5 := ⟨Try.f23.name, by decide, Try.func23.trans (congrArg some (by kernel_rfl))⟩
  f7 := ⟨Try.f26.name, by decide, Try.func26.trans (congrArg some (by kernel_rfl))⟩
  f8 := Try.func27.trans (congrArg some (by kernel_rfl))
  f10 := ⟨Try.f28.name, by decide, Try.func28.trans (congrArg some (by kernel_rfl))⟩
  f11 := ⟨Try.f29.name, by decide, Try.func29.trans (congrArg some (by kernel_rfl))⟩
  f12 := ⟨Try.f30.name, by decide, Try.func30.trans (congrArg some (by kernel_rfl))⟩
  f13 := ⟨Try.f31.name, by decide, Try.func31.trans (congrArg some (by kernel_rfl))⟩
  f14 := ⟨Try.f32.name, by decide, Try.func32.trans (congrArg some (by kernel_rfl))⟩
  f15 := ⟨Try.f33.name, by decide, Try.func33.trans (congrArg some (by kernel_rfl))⟩
  f16 := ⟨Try.f34.name, by decide, Try.func34.trans (congrArg some (by kernel_rfl))⟩
  f17 := ⟨Try.f35.name, by decide, Try.func35.trans (congrArg some (by kernel_rfl))⟩
  f18 := ⟨Try.f36.name, by decide, Try.func36.trans (congrArg some (by kernel_rfl))⟩
  f19 := Try.func37.trans (congrArg some (by kernel_rfl))
  f20 := Try.func38.trans (congrArg some (by kernel_rfl))
  f30 := ⟨Try.f39.name, by decide, Try.func39.trans (congrArg some (by kernel_rfl))⟩
  f31 := Try.func40.trans (congrArg some (by kernel_rfl))
  f32 := Try.func41.trans (congrArg some (by kernel_rfl))
  f33 := ⟨Try.f42.name, by decide, Try.func42.trans (congrArg some (by kernel_rfl))⟩
  f34 := ⟨Try.f43.name, by decide, Try.func43.trans (congrArg some (by kernel_rfl))⟩
  f35 := ⟨Try.f44.name, by decide, Try.func44.trans (congrArg some (by kernel_rfl))⟩
  f40 := ⟨Try.f45.name, by decide, Try.func45.trans (congrArg some (by kernel_rfl))⟩
  t0 := Try.underlying0
  a0 := Try.isAgg0
  z0 := Try.sizeOf0
  v0 := Try.zeroValue0
  t3 := Try.underlying3
  a3 := Try.isAgg3
  z3 := Try.sizeOf3
  v3 := Try.zeroValue3
  t4 := Try.underlying4
  a4 := Try.isAgg4
  z4 := Try.sizeOf4
  v4 := Try.zeroValue4
  t5 := Try.underlying5
  a5 := Try.isAgg5
  z5 := Try.sizeOf5
  v5 := Try.zeroValue5
  t9 := Try.underlying9
  a9 := Try.isAgg9
  z9 := Try.sizeOf9
  v9 := Try.zeroValue9
  t22 := Try.underlying26
  a22 := Try.isAgg26
  z22 := Try.sizeOf26
  v22 := Try.zeroValue26
  t23 := Try.underlying26
  a23 := Try.isAgg26
  z23 := Try.sizeOf26
  v23 := Try.zeroValue26
  t25 := Try.underlying3
  a25 := Try.isAgg3
  z25 := Try.sizeOf3
  v25 := Try.zeroValue3
  t32 := Try.underlying42
  a32 := Try.isAgg42
  z32 := Try.sizeOf42
  v32 := Try.zeroValue42
  t35 := Try.underlying68
  a35 := Try.isAgg68
  z35 := Try.sizeOf68
  v35 := Try.zeroValue68
  t36 := Try.underlying69
  a36 := Try.isAgg69
  z36 := Try.sizeOf69
  v36 := Try.zeroValue69
  t41 := Try.underlying34
  a41 := Try.isAgg34
  z41 := Try.sizeOf34
  v41 := Try.zeroValue34
  t44 := Try.underlying75
  a44 := Try.isAgg75
  z44 := Try.sizeOf75
  v44 := Try.zeroValue75
  t46 := Try.underlying77
  a46 := Try.isAgg77
  z46 := Try.sizeOf77
  v46 := Try.zeroValue77
  t53 := Try.underlying78
  a53 := Try.isAgg78
  z53 := Try.sizeOf78
  v53 := Try.zeroValue78
  t57 := Try.underlying82
  a57 := Try.isAgg82
  z57 := Try.sizeOf82
  v57 := Try.zeroValue82
  t63 := Try.underlying84
  a63 := Try.isAgg84
  z63 := Try.sizeOf84
  v63 := Try.zeroValue84
  t64 := Try.underlying85
  a64 := Try.isAgg85
  z64 := Try.sizeOf85
  v64 := Try.zeroValue85 }

theorem sortsA (m : Nat) : AnyZI.SortsIn Try.prog sortedA_ren Fence.wide m :=
  ⟨fun blk off cap ss W hH hblk hsz => callsIn_wide.2 (AnyM.slices_Sort_int sortA blk off cap ss W hH hblk hsz),
   fun p cap W => callsIn_wide.2 (AnyM.slices_Sort_int_none sortA p cap W)⟩

/-- slices.Sorted over maps.Keys -/
def prim (c : Ctx) : List AV → AHeap → Option (AV × AHeap)
  | [.func (.func 24) [] [.ptr l off]], H => (AM.rd c H l off 1).bind fun r => match r with
    | [.map (.own i)] => match hat H i with
      | some (.map es clock) => (intsOf (es.map (·.1))).bind fun zs =>
        if mapOk es clock zs then (if zs.isEmpty then some (.nilslice, H) else some (.slice (fresh H) 1 0 (isortI zs).length, hnew H (.row 3 1 ((isortI zs).map (AV.int .i64))))) else none
      | _ => none
    | _ => none
  | _, _ => none

theorem prim_ok {c : Ctx} (hP : c.P = Try.prog) {base : Nat} {w0 : World} : CallOK c base w0 (fun f args H => if f = 18 then prim c args H else none) := by
  intro f args H v H' e ρ w xs h hf hx
  simp only at e
  split at e
  · rename_i hf22
    subst hf22
    unfold prim at e
    split at e
    · rename_i l off
      obtain ⟨y, ys, rfl, hy, hys⟩ := hx
      simp only [VRs] at hys
      subst hys
      obtain ⟨a1, a2, h1, h2, rfl⟩ := hy
      simp only [VRs] at h1
      subst h1
      obtain ⟨y2, ys2, rfl, ⟨p, hp, rfl⟩, h3⟩ := h2
      simp only [VRs] at h3
      subst h3
      simp only [Option.bind_eq_some_iff] at e
      obtain ⟨r, hr, e⟩ := e
      obtain ⟨us, hul, hur, huc, _⟩ := rd_sound h hr hp
      split at e
      · rename_i i _hall
        split at e
        · rename_i es clock ho
          simp only [Option.bind_eq_some_iff] at e
          obtain ⟨zs, hzs, e⟩ := e
          split at e
          · rename_i hck
            obtain ⟨u, us', rfl, ⟨q, hq, rfl⟩, hus'⟩ := hur
            have hcell := huc 0 _ rfl
            obtain ⟨q', hq', ⟨ents, hb, hE⟩, _⟩ := h.own i _ ho
            obtain rfl : q = q' := by rw [hq] at hq'; exact Option.some.inj hq'
            have hc0 : w.cell? ⟨p.b, p.off + off, none⟩ = some (.map (some q.b)) := by simpa [Addr.add] using hcell
            obtain ⟨D0, hown, hperm, hsz⟩ := owns_of (P := Try.prog) (k := 3) Try.underlying3 hb hE hzs hck
            have hlen : zs.length ≤ 1000000 := by
              simp only [mapOk, Bool.and_eq_true, Nat.ble_eq] at hck
              exact hck.1
            have hseq : SeqGives Fence.wide 2 Try.prog 24 #[.pointer (some ⟨p.b, p.off + off, none⟩)] encZ (fun ss => ss.Perm (intKeys D0)) (Maps.size D0) w :=
              keys_own (ρ := keysA_ren) { keysA with } Fence.wide _ trivial rfl (by omega) p.b (p.off + off) q.b ents.size D0 w (World.block_lt_of_cell? w _ hc0) hc0 hown
            have cS := AnyZI.sorted_in sortedA Fence.wide 5 trivial trivial trivial trivial rfl (by omega) (sortsA _) (enters_of Try.func23 (by kernel_rfl) rfl) 24 #[.pointer (some ⟨p.b, p.off + off, none⟩)] trivial (enters_of Try.func24 (by kernel_rfl) rfl) _ _ (by rw [hsz]; simp [maxLen]; omega) (by rw [hsz]; omega) _ hseq
            have cc' := callsIn_wide.1 cS
            rw [hP]
            refine Calls.mono cc' ?_
            rintro e' w' ⟨v', ss, rfl, hss, hrow, hnil, hb⟩
            have hpz : ss.Perm zs := hss.trans hperm
            rw [sort_eq hpz] at hrow
            have hl : ss.length = (isortI zs).length := by rw [hpz.length_eq, (isortI_perm zs).length_eq]
            rw [hl] at hrow
            split at e
            · rename_i hz0
              cases e
              have hz1 : zs = [] := by simpa using hz0
              subst hz1
              have : ss = [] := hpz.eq_nil
              exact ⟨ρ, v', rfl, hnil.2 this, post_grow h hb⟩
            · rename_i hz0
              cases e
              obtain ⟨ρ', hv, hpost⟩ := post_ints h (hf _ (Nat.le_refl _)) hb hrow (by
                intro h0
                have := (isortI_perm zs).length_eq
                rw [h0] at this
                exact hz0 (by cases zs <;> simp_all))
              exact ⟨ρ', v', rfl, hv, hpost⟩
          · cases e
        · cases e
      · cases e
    · cases e
  · cases e

/-- the functions that are known otherwise -/
def prims (c : Ctx) : Prims := fun f => if f = 18 then some (prim c) else none

theorem prims_ok {c : Ctx} (hP : c.P = Try.prog) (base : Nat) (w0 : World) : PrimsOK c base w0 (prims c) := by
  intro f g hfg
  simp only [prims] at hfg
  split at hfg
  · rename_i hf
    cases hfg
    subst hf
    exact prim_ok hP
  · cases hfg

end Go.Proofs.Ytiheacfcmefaeaa.skeys
