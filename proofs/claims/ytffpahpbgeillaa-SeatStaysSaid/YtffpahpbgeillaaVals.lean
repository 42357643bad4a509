/-
  SLICES.VALUES AND SLICES.COLLECT AT THIS DUMP (own work, after the worked text on slices.Values): slices.Collect(slices.Values(l)) is a copy of l.
-/
import Derived.Test.YtffpahpbgeillaaAmIter
import Derived.Test.YtffpahpbgeillaaAmFrame
import Derived.Test.YtffpahpbgeillaaProg
import Derived.KernelRfl
namespace Go.Proofs.Ytffpahpbgeillaa.vals
open Go.RowKit Go.Shelf Go.AM Go.Maps Go.Sort

attribute [local go_sem] Oper.semAt_some

def collectA_ren : Go.Shelf.Ren := ⟨fun | 8 => 22 | 11 => 25 | n => n, fun | 26 => 3 | 28 => 52 | 24 => 26 | 0 => 0 | 33 => 62 | 4 => 4 | n => n, fun | n => n⟩
theorem collectA : Go.Proofs.SlLaysZI.n8 Try.prog collectA_ren := {
  mixed := by kernel_rfl
  f8 := ⟨Try.f22.name, by decide, Try.func22.trans (congrArg some (by kernel_rfl))⟩
  f11 := ⟨Try.f25.name, by decide, Try.func25.trans (congrArg some (by kernel_rfl))⟩
  t0 := Try.underlying0
  a0 := Try.isAgg0
  z0 := Try.sizeOf0
  v0 := Try.zeroValue0
  t24 := Try.underlying26
  a24 := Try.isAgg26
  z24 := Try.sizeOf26
  v24 := Try.zeroValue26
  t26 := Try.underlying3
  a26 := Try.isAgg3
  z26 := Try.sizeOf3
  v26 := Try.zeroValue3
  t28 := Try.underlying52
  a28 := Try.isAgg52
  z28 := Try.sizeOf52
  v28 := Try.zeroValue52
  i26 := by kernel_rfl }

def upto (f : Nat → Int) (k : Nat) : List Int := (List.range k).map f
theorem upto_succ (f : Nat → Int) (k : Nat) : upto f (k + 1) = upto f k ++ [f k] := by simp [upto, List.range_succ]
theorem upto_length (f : Nat → Int) (k : Nat) : (upto f k).length = k := by simp [upto]
theorem upto_all (zs : List Int) : upto (fun j => zs[j]?.getD 0) zs.length = zs := by
  apply List.ext_getElem
  · simp [upto]
  · intro i h1 h2
    simp [upto, h2]

set_option maxRecDepth 100000 in
set_option maxHeartbeats 2000000 in
theorem vals1 (F : Fence) (n : Nat) (h7 : F.fn 24) (hro : F.round = none) (hn : 1 ≤ n) (l Bs o n₀ b off len cap : Nat) (zs : List Int) (hreach : len * 8 ≤ 140737488351232) (hb : b < n₀) (J : List Int → World → Prop)
    (hY : ∀ pre x W, J pre W → pre.length < len → YieldAt F (n - 1) Try.prog l #[.int .i64 x] W fun e W' => e = .returned (.bool true) ∧ J (pre ++ [x]) W' ∧ Below n₀ W W')
    (W : World) (hBs : W.cell? ⟨Bs, o, none⟩ = some (.slice (some ⟨b, off, none⟩) len cap)) (hc : ∀ j, j < len → W.cell? ⟨b, off + j, none⟩ = some (.int .i64 (zs[j]?.getD 0))) (h0 : J [] W) :
    CallsIn F n Try.prog 24 #[.func (.yield l) #[] #[], .pointer (some ⟨Bs, o, none⟩)] W fun e W' => (∃ v, e = .returned v) ∧ J (upto (fun j => zs[j]?.getD 0) len) W' := by
  refine callsIn_of_wp Try.func24 rfl h7 ?_ hro
  simp only [Try.ntmps24, List.size_toArray, List.length_cons, List.length_nil, Nat.reduceAdd, Nat.reduceSub, Array.replicate_succ, Array.replicate_zero, List.push_toArray, List.append_toArray, List.nil_append, List.cons_append]
  gi_wp2
  gi_loopw [7] (fun i wr => ∃ k : Nat, k ≤ len ∧ i = .int .i64 k ∧ J (upto (fun j => zs[j]?.getD 0) k) wr ∧ Below n₀ W wr)
    (fun i _ => len - (Go.RowKit.intOf i).toNat)
  case atStart => exact ⟨0, Nat.zero_le _, rfl, h0, Below.refl _ _⟩
  case round =>
    obtain ⟨k, hk, rfl, hJs, hnx⟩ := hrel
    have hcx : k < len → wr.cell? ⟨b, off + k, none⟩ = some (.int .i64 (zs[k]?.getD 0)) := fun h => (hnx.cell (p := ⟨b, off + k, none⟩) hb).trans (hc k h)
    by_cases hlt : k < len
    · obtain ⟨fn, tmps, assign, body, hy, hR⟩ := hY _ (zs[k]?.getD 0) wr hJs (by rw [upto_length]; exact hlt)
      have hcx' := hcx hlt
      gi_wp2
      refine hR.mono ?_
      rintro e W3 ⟨rfl, hJ3, hk3⟩
      gi_wp2
      go_roundw
      case rel => exact ⟨k + 1, by omega, by simp, by rw [upto_succ]; exact hJ3, hnx.trans hk3⟩
      case measure => simp [Go.RowKit.intOf]; omega
    · obtain rfl : k = len := by omega
      gi_wp2
      go_end0
      exact ⟨⟨_, rfl⟩, hJs⟩

set_option maxRecDepth 100000 in
set_option maxHeartbeats 1000000 in
theorem gives_vals (n : Nat) (hn : 1 ≤ n) (Bs o b off cap : Nat) (zs : List Int) (hreach : zs.length * 8 ≤ 140737488351232) (w : World) (hBs : Bs < w.heap.size) (hb : b < w.heap.size)
    (hc : w.cell? ⟨Bs, o, none⟩ = some (.slice (some ⟨b, off, none⟩) zs.length cap)) (hcs : ∀ j, j < zs.length → w.cell? ⟨b, off + j, none⟩ = some (.int .i64 (zs[j]?.getD 0))) :
    Gives Fence.wide n Try.prog 24 #[.pointer (some ⟨Bs, o, none⟩)] zs w := fun l J W hW hY h0 => by
  refine (vals1 Fence.wide n trivial rfl hn l Bs o w.heap.size b off zs.length cap zs hreach hb J hY W ((cell_below hW hBs).trans hc) (fun j hj => (cell_below hW hb).trans (hcs j hj)) h0).mono ?_
  rintro e W' ⟨hv, hj⟩
  exact ⟨hv, upto_all zs ▸ hj⟩

set_option maxRecDepth 100000 in
set_option maxHeartbeats 1000000 in
theorem vals1_nil (F : Fence) (n : Nat) (h7 : F.fn 24) (hro : F.round = none) (l Bs o cap : Nat) (a : Option Addr) (J : List Int → World → Prop) (W : World) (hBs : W.cell? ⟨Bs, o, none⟩ = some (.slice a 0 cap)) (h0 : J [] W) :
    CallsIn F n Try.prog 24 #[.func (.yield l) #[] #[], .pointer (some ⟨Bs, o, none⟩)] W fun e W' => (∃ v, e = .returned v) ∧ J [] W' := by
  refine callsIn_of_wp Try.func24 rfl h7 ?_ hro
  simp only [Try.ntmps24, List.size_toArray, List.length_cons, List.length_nil, Nat.reduceAdd, Nat.reduceSub, Array.replicate_succ, Array.replicate_zero, List.push_toArray, List.append_toArray, List.nil_append, List.cons_append]
  gi_wp2
  gi_loopw [7] (fun i wr => i = .int .i64 0 ∧ J [] wr) (fun _ _ => 0)
  case atStart => exact ⟨rfl, h0⟩
  case round =>
    obtain ⟨rfl, hJs⟩ := hrel
    gi_wp2
    go_end0
    exact ⟨⟨_, rfl⟩, hJs⟩

theorem gives_nil (n : Nat) (Bs o cap : Nat) (a : Option Addr) (w : World) (hBs : Bs < w.heap.size) (hc : w.cell? ⟨Bs, o, none⟩ = some (.slice a 0 cap)) :
    Gives Fence.wide n Try.prog 24 #[.pointer (some ⟨Bs, o, none⟩)] [] w := fun l J W hW _ h0 =>
  vals1_nil Fence.wide n trivial rfl l Bs o cap a J W ((cell_below hW hBs).trans hc) h0

/-- slices.Collect over slices.Values -/
def prim (c : Ctx) : List AV → AHeap → Option (AV × AHeap)
  | [.func (.func 24) [] [.ptr l off]], H => (rd c H l off 1).bind fun r => match r with
    | [.nilslice] => some (.nilslice, H)
    | [.odd _] => some (.nilslice, H)
    | [.slice m 1 start n] => if n = 0 then some (.nilslice, H) else (rd c H m start n).bind fun cs => (intsOf cs).bind fun zs => if n ≤ 1000000 then some (.slice (fresh H) 1 0 n, hnew H (.row 3 1 (zs.map (AV.int .i64)))) else none
    | _ => none
  | _, _ => none

theorem prim_ok {c : Ctx} (hP : c.P = Try.prog) {base : Nat} {w0 : World} : CallOK c base w0 (fun f args H => if f = 22 then prim c args H else none) := by
  intro f args H v H' e ρ w xs h hf hx
  simp only at e
  split at e
  · rename_i hf22
    subst hf22
    unfold prim at e
    split at e
    · rename_i l off
      obtain ⟨y, ys, rfl, hy, hys⟩ := hx
      simp only [VRs] at hys
      subst hys
      obtain ⟨a1, a2, h1, h2, rfl⟩ := hy
      simp only [VRs] at h1
      subst h1
      obtain ⟨y2, ys2, rfl, ⟨p, hp, rfl⟩, h3⟩ := h2
      simp only [VRs] at h3
      subst h3
      simp only [Option.bind_eq_some_iff] at e
      obtain ⟨r, hr, e⟩ := e
      obtain ⟨us, hul, hur, huc, _⟩ := rd_sound h hr hp
      have empty : ∀ {a : Option Addr} {cap : Nat}, w.cell? ⟨p.b, p.off + off, none⟩ = some (.slice a 0 cap) →
          Calls c.P 22 #[.func (.func 24) #[] #[.pointer (some ⟨p.b, p.off + off, none⟩)]] w fun e w' => ∃ ρ' x, e = .returned x ∧ VR ρ' .nilslice x ∧ Post c base w0 ρ H w ρ' H w' := by
        intro a cap hc0
        have cc := collect_own collectA Fence.wide 3 trivial trivial rfl (by omega) 24 #[.pointer (some ⟨p.b, p.off + off, none⟩)] trivial (enters_of Try.func24 (by kernel_rfl) rfl) [] (by simp [maxLen]) (by simp) w (gives_nil 1 p.b (p.off + off) cap a w (World.block_lt_of_cell? w _ hc0) hc0)
        rw [hP]
        refine Calls.mono (callsIn_wide.1 cc) ?_
        rintro e' w' ⟨v', rfl, _, hnil, hb⟩
        exact ⟨ρ, v', rfl, hnil.2 rfl, post_grow h hb⟩
      split at e
      · cases e
        obtain ⟨u, us', rfl, hu, _⟩ := hur
        simp only [VR] at hu
        subst hu
        have hcell := huc 0 _ rfl
        exact empty (a := none) (cap := 0) (by simpa [Addr.add] using hcell)
      · cases e
        obtain ⟨u, us', rfl, hu, _⟩ := hur
        simp only [VR] at hu
        subst hu
        have hcell := huc 0 _ rfl
        exact empty (cap := 0) (by simpa [Addr.add] using hcell)
      · rename_i m start n _hall
        split at e
        · rename_i hn0
          cases e
          subst hn0
          obtain ⟨u, us', rfl, ⟨q, hq, _, rfl⟩, _⟩ := hur
          have hcell := huc 0 _ rfl
          exact empty (by simpa [Addr.add] using hcell)
        · rename_i hn0
          simp only [Option.bind_eq_some_iff] at e
          obtain ⟨cs, hcs, zs, hzs, e⟩ := e
          split at e
          · rename_i hn
            cases e
            obtain ⟨u, us', rfl, ⟨q, hq, _, rfl⟩, hus'⟩ := hur
            have hcell := huc 0 _ rfl
            obtain ⟨vs, hvl, hvr, hvc, _⟩ := rd_sound h hcs hq
            have hcsz := intsOf_eq hzs
            subst hcsz
            have hlen : zs.length = n := by have := hvr.length; simp at this; omega
            subst hlen
            have hcells : ∀ j, j < zs.length → w.cell? ⟨q.b, q.off + start + j, none⟩ = some (.int .i64 (zs[j]?.getD 0)) := by
              intro j hj
              obtain ⟨x, hx1, hx2⟩ := hvr.get (j := j) (v := .int .i64 zs[j]) (by simp [hj])
              simp only [VR] at hx2
              subst hx2
              have := hvc j _ hx1
              rw [addr_add] at this
              simpa [hj] using this
            have hc0 : w.cell? ⟨p.b, p.off + off, none⟩ = some (.slice (some ⟨q.b, q.off + start, none⟩) zs.length (q.cap - start)) := by simpa [Addr.add] using hcell
            have hpos : 0 < zs.length := by omega
            have g := gives_vals 1 (Nat.le_refl _) p.b (p.off + off) q.b (q.off + start) (q.cap - start) zs (by omega) w (World.block_lt_of_cell? w _ hc0) (World.block_lt_of_cell? w _ (hcells 0 hpos)) hc0 hcells
            have cc := collect_own collectA Fence.wide 3 trivial trivial rfl (by omega) 24 #[.pointer (some ⟨p.b, p.off + off, none⟩)] trivial (enters_of Try.func24 (by kernel_rfl) rfl) zs (by simp [maxLen]; omega) (by omega) w g
            have cc' := callsIn_wide.1 cc
            rw [hP]
            refine Calls.mono cc' ?_
            rintro e' w' ⟨v', rfl, hrow, hnil, hb⟩
            obtain ⟨ρ', hv, hpost⟩ := post_ints h (hf _ (Nat.le_refl _)) hb hrow (by intro h0; rw [h0] at hpos; simp at hpos)
            exact ⟨ρ', v', rfl, hv, hpost⟩
          · cases e
      · cases e
    · cases e
  · cases e

/-- the functions that are known otherwise -/
def prims (c : Ctx) : Prims := fun f => if f = 22 then some (prim c) else none

theorem prims_ok {c : Ctx} (hP : c.P = Try.prog) (base : Nat) (w0 : World) : PrimsOK c base w0 (prims c) := by
  intro f g hfg
  simp only [prims] at hfg
  split at hfg
  · rename_i hf
    cases hfg
    subst hf
    exact prim_ok hP
  · cases hfg

end Go.Proofs.Ytffpahpbgeillaa.vals
