/- sync.Once and the counter of names, as facts on calls (own work). -/
import Derived.Test.YtldiaopobcebpaaDoorOn
import Derived.Test.YtldiaopobcebpaaDoorM5
namespace Go.Proofs.YtldiaopobcebpaaDoor.sy
open Go.AM Go.RowKit
set_option linter.unusedSimpArgs false
set_option linter.unusedVariables false
variable {G : List Nat → Option (List AV)} {base : Nat} {w0 : World} {H : AHeap}
theorem once_done {n : Nat} {cs : List AV} {fv : AV} (hn : hat H n = some (.row 54 8 cs)) (c0 : cs[0]? = some (.int .u32 1)) : Pt (kn G base w0) 20 [.ptr (.own n) 0, fv] H (.tuple []) H := by
  intro ρ w xs hr hf hx
  obtain ⟨y, ys, rfl, ⟨p, hp, rfl⟩, z, zs, rfl, hz, hzs⟩ := hx
  simp only [VRs] at hzs
  subst hzs
  obtain ⟨x0, hx0, hv0, hz0⟩ := cell_at hr hn c0 hp
  simp only [VR] at hv0
  subst hv0
  refine (on_done ⟨p.b, p.off + 0, none⟩ 1 (by decide) z w hx0).mono ?_
  rintro e w' ⟨rfl, rfl⟩
  exact ⟨ρ, _, rfl, ⟨[], rfl, rfl⟩, Post.refl hr⟩
theorem made_p {n : Nat} {cs : List AV} {x : Int} (hn : hat H n = some (.row 54 8 cs)) (c3 : cs[3]? = some (.int .i64 x)) : Pt (kn G base w0) 16 [.ptr (.own n) 3] H (.int .i64 x) H := by
  intro ρ w xs hr hf hx
  obtain ⟨y, ys, rfl, ⟨p, hp, rfl⟩, hzs⟩ := hx
  simp only [VRs] at hzs
  subst hzs
  obtain ⟨x0, hx0, hv0, hz0⟩ := cell_at hr hn c3 hp
  simp only [VR] at hv0
  subst hv0
  refine (on_made p.b (p.off + 3) x w hx0).mono ?_
  rintro e w' ⟨rfl, rfl⟩
  exact ⟨ρ, _, rfl, rfl, Post.refl hr⟩
theorem add1_p {n : Nat} {cs : List AV} (hn : hat H n = some (.row 54 8 cs)) (c3 : cs[3]? = some (.int .i64 0)) : Pt (kn G base w0) 23 [.ptr (.own n) 3, .int .i64 1] H (.int .i64 1) (H.set n (some (.row 54 8 (cs.set 3 (.int .i64 1))))) := by
  intro ρ w xs hr hf hx
  obtain ⟨y, ys, rfl, ⟨p, hp, rfl⟩, z, zs, rfl, hz, hzs⟩ := hx
  simp only [VRs] at hzs
  subst hzs
  simp only [VR] at hz
  subst hz
  obtain ⟨x0, hx0, hv0, hz0⟩ := cell_at hr hn c3 hp
  simp only [VR] at hv0
  subst hv0
  refine (on_add p.b (p.off + 3) w hx0 hz0).mono ?_
  rintro e w' ⟨rfl, rfl⟩
  exact ⟨ρ, _, rfl, rfl, post_cell hr hn (k := 3) (v := .int .i64 1) (x := .int .i64 1) (List.getElem?_eq_some_iff.1 c3).1 rfl rfl hp⟩
theorem once_first {n pl : Nat} {H2 : AHeap} {cs cs2 : List AV} (hn : hat H n = some (.row 54 8 cs)) (c0 : cs[0]? = some (.int .u32 0)) (c1 : cs[1]? = some (.int .i32 0))
    (hc : Pt (kn G base w0) 21 [.ptr (.own pl) 0] (H.set n (some (.row 54 8 (cs.set 1 (.int .i32 1))))) (.tuple []) H2)
    (hn2 : hat H2 n = some (.row 54 8 cs2)) (d0 : cs2[0]? = some (.int .u32 0)) (d1 : cs2[1]? = some (.int .i32 1)) :
    Pt (kn G base w0) 20 [.ptr (.own n) 0, .func (.func 21) [] [.ptr (.own pl) 0]] H (.tuple []) (H2.set n (some (.row 54 8 ((cs2.set 0 (.int .u32 1)).set 1 (.int .i32 0))))) := by
  intro ρ w xs hr hf hx
  obtain ⟨y, ys, rfl, ⟨p, hp, rfl⟩, z, zs, rfl, ⟨fs, gs, hfs, hgs, rfl⟩, hzs⟩ := hx
  obtain ⟨g, gs', rfl, ⟨q, hq, rfl⟩, hg⟩ := hgs
  simp only [VRs] at hzs hfs hg
  subst hzs hfs hg
  obtain ⟨x0, hx0, hv0, hz0⟩ := cell_at hr hn c0 hp
  obtain ⟨x1, hx1, hv1, hz1⟩ := cell_at hr hn c1 hp
  simp only [VR] at hv0 hv1
  subst hv0 hv1
  have P1 := post_cell hr hn (k := 1) (v := .int .i32 1) (x := .int .i32 1) (List.getElem?_eq_some_iff.1 c1).1 rfl rfl hp
  have hcl := hc ρ _ [.pointer (some ⟨q.b, q.off + 0, none⟩)] P1.rel (P1.fresh hf) ⟨_, _, rfl, ⟨q, hq, rfl⟩, rfl⟩
  have hof := on_first p.b p.off ⟨q.b, q.off + 0, none⟩ w (fun w2 => ∃ ρ2, Post (kn G base w0).c base w0 ρ (H.set n (some (.row 54 8 (cs.set 1 (.int .i32 1))))) (w.setCell ⟨p.b, p.off + 1, none⟩ (.int .i32 1)) ρ2 H2 w2) hx0 hx1 hz0 hz1 (by
      refine hcl.mono ?_
      rintro e w' ⟨ρ2, x, rfl, ⟨ts, hts, rfl⟩, hp2⟩
      simp only [VRs] at hts
      subst hts
      exact ⟨rfl, ρ2, hp2⟩) (by
      rintro w2 ⟨ρ2, hp2⟩
      have hpn := hp2.ext _ _ hp
      obtain ⟨y0, hy0, hv0, hf0⟩ := cell_at hp2.rel hn2 d0 hpn
      obtain ⟨y1, hy1, hv1, hf1⟩ := cell_at hp2.rel hn2 d1 hpn
      simp only [VR] at hv0 hv1
      subst hv0 hv1
      exact ⟨hy0, hf0, hy1, hf1⟩)
  refine Calls.mono hof ?_
  rintro e w' ⟨rfl, w2, ⟨ρ2, hp2⟩, rfl⟩
  have hpn := hp2.ext _ _ hp
  have hn2l := hat_lt hn2
  have P3 := post_drew hp2.rel
  have P4 := post_cell P3.rel hn2 (k := 0) (v := .int .u32 1) (x := .int .u32 1) (List.getElem?_eq_some_iff.1 d0).1 rfl rfl hpn
  have hn4 : hat (H2.set n (some (.row 54 8 (cs2.set 0 (.int .u32 1))))) n = some (.row 54 8 (cs2.set 0 (.int .u32 1))) := by rw [hat_set _ _ _ _ hn2l, if_pos rfl]
  have P5 := post_cell P4.rel hn4 (k := 1) (v := .int .i32 0) (x := .int .i32 0) (by rw [List.length_set]; exact (List.getElem?_eq_some_iff.1 d1).1) rfl rfl hpn
  have P := (((P1.trans hp2).trans P3).trans P4).trans P5
  rw [List.set_set] at P
  exact ⟨ρ2, _, rfl, ⟨[], rfl, rfl⟩, P⟩
end Go.Proofs.YtldiaopobcebpaaDoor.sy
