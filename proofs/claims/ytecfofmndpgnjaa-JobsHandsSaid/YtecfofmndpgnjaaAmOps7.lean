/-
  THE OPERATIONS, the whole (own work): 'op_sound': what the abstract machine tells of an operation is what the model's does.
-/
import Derived.Laws.Externs
import Derived.KernelRfl
import Derived.Test.YtecfofmndpgnjaaAmOps6
namespace Go.AM
open Go.RowKit
set_option linter.unusedSimpArgs false

variable {c : Ctx} {base : Nat} {w0 w : World} {ρ : Pl} {H : AHeap}

theorem clear_sound (h : Rel c base w0 ρ H w) {t ty : TypeId} {x : AV} {H' : AHeap} (e : aclear c H t x = some H') {x' : Value} (hx : VR ρ x x') (ts : Array TypeId) (hts : ts[0]? = some t) :
    ∃ w', (Builtin.clear_ ts ty #[x']).run c.P w = .ok (.tuple #[]) w' ∧ Post c base w0 ρ H w ρ H' w' := by
  simp only [aclear, Option.bind_eq_some_iff] at e
  obtain ⟨d, hd, e⟩ := e
  split at e
  · cases e; simp only [VR] at hx; subst hx
    exact ⟨w, by simp [Builtin.clear_, hts, run_underlying hd], Post.refl h⟩
  · rename_i el l esz start n
    obtain ⟨p, hp, hcap, rfl⟩ := hx
    split at e
    · rename_i hn; subst hn; cases e
      exact ⟨w, by simp [Builtin.clear_, hts, run_underlying hd], Post.refl h⟩
    · rename_i hn
      simp only [Option.bind_eq_some_iff] at e
      obtain ⟨z, hz, e⟩ := e
      split at e
      · rename_i hzl
        obtain ⟨zz, hzz, hv⟩ := zeroCells_run (c := c) (ρ := ρ) hz (w := w)
        by_cases hz0 : z.length = 0
        · -- elements of no cell
          have hz' : z = [] := List.eq_nil_of_length_eq_zero hz0
          subst hz'
          have hr0 : ∀ n, reps n [] = [] := by intro n; induction n with | zero => rfl | succ n ih => simp [reps, ih]
          rw [hr0] at e
          obtain ⟨w', hw', hpost⟩ := wr_sound h e hp (xs := []) rfl
          have hzs : zz.cells.size = 0 := by have := hv.length; simpa using this
          refine ⟨w', ?_, hpost⟩
          have hzc : (Builtin.zeroCells zz.cells n).toList = [] := by simp [Builtin.zeroCells, hzs]
          obtain ⟨m, rfl⟩ : ∃ m, n = m + 1 := ⟨n - 1, by omega⟩
          simp only [Builtin.clear_, hts, List.getElem?_toArray, List.getElem?_cons_zero, Sem.run_bind, run_underlying hd, Result.andThen_ok, hzz, hzc, hw', Sem.run_pure]
        · have hr := reps_sound hv (by omega) n
          obtain ⟨w', hw', hpost⟩ := wr_sound h e hp hr
          refine ⟨w', ?_, hpost⟩
          have hzs := zeroCells_size hv
          have hzc : Builtin.zeroCells zz.cells n = (Array.range (n * z.length)).map (zz.cells[· % zz.cells.size]!) := by rw [Builtin.zeroCells, hzs]
          obtain ⟨m, rfl⟩ : ∃ m, n = m + 1 := ⟨n - 1, by omega⟩
          simp only [Builtin.clear_, hts, List.getElem?_toArray, List.getElem?_cons_zero, Sem.run_bind, run_underlying hd, Result.andThen_ok, hzz, hzc, hw', Sem.run_pure]
      · cases e
  · cases e; simp only [VR] at hx; subst hx
    exact ⟨w, by simp [Builtin.clear_, hts, run_underlying hd], Post.refl h⟩
  · rename_i kt vt i
    obtain ⟨p, hp, rfl⟩ := hx
    split at e
    · rename_i es clock ho
      cases e
      obtain ⟨q, hq, ⟨ents, h1, h2⟩, _⟩ := h.own i _ ho
      obtain rfl : p = q := by rw [hp] at hq; exact Option.some.inj hq
      have hg : (getObj p.b).run c.P w = .ok (.map ents clock) w := by simp [getObj, Sem.run, h1]
      refine ⟨_, ?_, post_map h ho hp (ents := #[]) (clock' := clock) .nil⟩
      simp [Builtin.clear_, hts, run_underlying hd, hg, setObj_run (c := c) w p.b h1]
    · cases e
  · cases e

theorem minmax_sound {mx : Bool} {l : List AV} {v : AV} (e : aminmax mx l = some v) {xs : List Value} (hx : VRs ρ l xs) (ts : Array TypeId) (ty : TypeId) (w : World) :
    ∃ u, ((if mx then Builtin.max_ ts ty xs.toArray else Builtin.min_ ts ty xs.toArray) : Sem Value).run c.P w = .ok u w ∧ VR ρ v u := by
  unfold aminmax at e
  split at e
  · rename_i k x rest
    obtain ⟨y, ys, rfl, hy, hys⟩ := hx
    simp only [VR] at hy; subst hy
    have gen : ∀ (rest : List AV) (ys : List Value) (x : Int) (k : IntKind) (v : AV), VRs ρ rest ys →
        rest.foldlM (fun v y => match v, y with
          | .int k x, .int k' y => if k = k' then some (.int k (if mx then (if x < y then y else x) else (if y < x then y else x))) else none
          | _, _ => none) (AV.int k x) = some v →
        ∃ u, ((if mx then ys.foldlM Builtin.max2 (.int k x) else ys.foldlM Builtin.min2 (.int k x)) : Sem Value).run c.P w = .ok u w ∧ VR ρ v u := by
      intro rest
      induction rest with
      | nil => intro ys x k v h e; simp [VRs] at h; subst h; simp at e; subst e; cases mx <;> exact ⟨_, by simp, rfl⟩
      | cons a r ih =>
        intro ys x k v h e
        obtain ⟨y, ys, rfl, hy, hys⟩ := h
        simp only [List.foldlM_cons, Option.bind_eq_bind, Option.bind_eq_some_iff] at e
        obtain ⟨b, hb, e⟩ := e
        split at hb
        · rename_i k1 x1 k2 y1 heq
          cases heq
          simp only [VR] at hy; subst hy
          split at hb
          · cases hb
            obtain ⟨u, hu, hv⟩ := ih ys _ _ v hys e
            refine ⟨u, ?_, hv⟩
            cases mx <;> simpa [Builtin.max2, Builtin.min2] using hu
          · cases hb
        · cases hb
    obtain ⟨u, hu, hv⟩ := gen rest ys x k v hys e
    refine ⟨u, ?_, hv⟩
    cases mx <;> simpa [Builtin.max_, Builtin.min_] using hu
  · cases e

theorem wrapNil_run (ts : Array TypeId) (t : TypeId) (a : Addr) (s m : ByteArray) : Builtin.ssaWrapNilChk_ ts t #[.pointer (some a), .string s, .string m] = pure (.pointer (some a)) := rfl

theorem method_sound (h : Rel c base w0 ρ H w) {t : TypeId} {v : AV} {name : String} {f : FuncId} {r : AV} (e : amethod c H t v name = some (f, r)) {x : Value} (hx : VR ρ v x) (n : Nat) :
    ∃ y, (method (n + 1) t x name).run c.P w = .ok (f, y) w ∧ VR ρ r y := by
  simp only [amethod, Option.bind_eq_some_iff] at e
  obtain ⟨i, hi, m, hm, e⟩ := e
  split at e
  · rename_i hpe
    simp only [Option.bind_eq_some_iff] at e
    obtain ⟨⟨f', pr⟩, hfn, d, hd, e⟩ := e
    have hpath : m.path.toList = [] := by
      have : m.path = #[] := by simpa using hpe
      rw [this]
    have hgo : ∀ y, (receiverAt t (.val x) pr (if m.path.isEmpty then some ((name.splitOn ".").getLastD name) else none)).run c.P w = .ok y w → (method (n + 1) t x name).run c.P w = .ok (f', y) w := by
      intro y hy
      simp only [method, Sem.run_bind, info_run hi, hm, Result.andThen_ok, hpath, follow, Sem.run_pure, hfn, hy]
    split at e
    · rename_i el
      cases pr with
      | true =>
        simp only [if_true, Option.some.injEq, Prod.mk.injEq] at e
        obtain ⟨rfl, rfl⟩ := e
        exact ⟨x, hgo x (by simp [receiverAt, run_underlying hd, Place.get]), hx⟩
      | false =>
        simp only [Bool.false_eq_true, if_false, Option.map_eq_some_iff, Prod.mk.injEq] at e
        obtain ⟨u, hu, rfl, rfl⟩ := e
        obtain ⟨y, hy, hv⟩ := load_sound h hu hx
        refine ⟨y, hgo y ?_, hv⟩
        unfold aload at hu
        split at hu
        · obtain ⟨p, hp, rfl⟩ := hx
          simp only [Instr.loadAt, Instr.sureAddr, Sem.run_bind, Sem.run_pure, Result.andThen_ok] at hy
          simp only [receiverAt, Sem.run_bind, run_underlying hd, Result.andThen_ok, Place.get, Sem.run_pure, hpe, if_true, strVal, wrapNil_run, asAddr, hy]
        · cases hu
    · rename_i hnp
      cases pr with
      | true => simp at e
      | false =>
        simp only [Bool.false_eq_true, if_false, Option.some.injEq, Prod.mk.injEq] at e
        obtain ⟨rfl, rfl⟩ := e
        refine ⟨x, hgo x ?_, hx⟩
        simp only [receiverAt, Sem.run_bind, run_underlying hd, Result.andThen_ok]
        simp [Place.get]
  · cases e

theorem callFunc_run {f : FuncId} (hb : hasBody c.P f = true) (args : Array Value) (w : World) : (callFunc f args).run c.P w = .ok (.enter f args) w := by
  unfold hasBody at hb
  split at hb
  · rename_i fn hfn
    simp only [Bool.and_eq_true, Bool.not_eq_true'] at hb
    obtain ⟨h1, h2⟩ := hb
    have h1' : fn.body.isNone = false := by cases hq : fn.body <;> simp [hq] at h1 ⊢
    simp only [callFunc, Sem.run_bind, run_program, Result.andThen_ok, hfn, h2, Bool.false_eq_true, if_false, h1', Sem.run_pure]
  · cases hb

def PRes (ρ : Pl) : ARes → Next → Prop
  | .val v, .value x => VR ρ v x
  | .skip, .skip => True
  | .call f args, .enter g xs => f = g ∧ ∃ l, VRs ρ args l ∧ xs = l.toArray
  | _, _ => False

theorem builtin_sound (h : Rel c base w0 ρ H w) {b : Builtin} {ts : List TypeId} {args : List AV} {v : AV} {H' : AHeap} (e : abuiltin c H b ts args = some (v, H')) (hf : H.length < H'.length → ρ (.own H.length) = none) {xs : List Value} (hx : VRs ρ args xs) (ty : TypeId) (cs : Array Bool) :
    ∃ ρ' u w', (builtin b ts.toArray ty cs xs.toArray).run c.P w = .ok (.value u) w' ∧ VR ρ' v u ∧ Post c base w0 ρ H w ρ' H' w' := by
  unfold abuiltin at e
  split at e
  · rename_i t ts x
    simp only [Option.map_eq_some_iff, Prod.mk.injEq] at e
    obtain ⟨u, hu, rfl, rfl⟩ := e
    obtain ⟨y, _, rfl, hy, rfl⟩ := hx
    obtain ⟨z, hz, hv⟩ := len_sound (ty := ty) h hu hy (t :: ts).toArray (by simp)
    exact ⟨ρ, z, w, by simp [builtin, hz], hv, Post.refl h⟩
  · rename_i t t2 ts s x
    simp only [Option.bind_eq_some_iff] at e
    obtain ⟨d2, hd2, e⟩ := e
    split at e
    · cases e
    · rename_i hni
      obtain ⟨y, _, rfl, hy, y2, _, rfl, hy2, rfl⟩ := hx
      obtain ⟨ρ', u, w', h1, h2, h3⟩ := append_sound (ty := ty) h hf e hy hy2 (t :: t2 :: ts).toArray (by simp) (by simp) hd2 (fun k hk => hni k hk)
      exact ⟨ρ', u, w', by simp [builtin, h1], h2, h3⟩
  · rename_i t ts d s
    obtain ⟨y, _, rfl, hy, y2, _, rfl, hy2, rfl⟩ := hx
    obtain ⟨u, w', h1, h2, h3⟩ := copy_sound (ty := ty) (t2 := 0) h e hy hy2 (t :: ts).toArray (by simp) (.inr trivial)
    exact ⟨ρ, u, w', by simp [builtin, h1], h2, h3⟩
  · rename_i t ts m k
    simp only [Option.map_eq_some_iff, Prod.mk.injEq] at e
    obtain ⟨H2, hH, rfl, rfl⟩ := e
    obtain ⟨y, _, rfl, hy, y2, _, rfl, hy2, rfl⟩ := hx
    obtain ⟨w', h1, h2⟩ := delete_sound (ty := ty) h hH hy hy2 (t :: ts).toArray (by simp)
    exact ⟨ρ, _, w', by simp [builtin, h1], ⟨[], rfl, rfl⟩, h2⟩
  · rename_i t ts x
    simp only [Option.map_eq_some_iff, Prod.mk.injEq] at e
    obtain ⟨H2, hH, rfl, rfl⟩ := e
    obtain ⟨y, _, rfl, hy, rfl⟩ := hx
    obtain ⟨w', h1, h2⟩ := clear_sound (ty := ty) h hH hy (t :: ts).toArray (by simp)
    exact ⟨ρ, _, w', by simp [builtin, h1], ⟨[], rfl, rfl⟩, h2⟩
  · simp only [Option.map_eq_some_iff, Prod.mk.injEq] at e
    obtain ⟨u, hu, rfl, rfl⟩ := e
    obtain ⟨y, h1, h2⟩ := minmax_sound (c := c) hu hx ts.toArray ty w
    have h1' : (Builtin.max_ ts.toArray ty xs.toArray).run c.P w = .ok y w := h1
    exact ⟨ρ, y, w, by simp [builtin, h1'], h2, Post.refl h⟩
  · simp only [Option.map_eq_some_iff, Prod.mk.injEq] at e
    obtain ⟨u, hu, rfl, rfl⟩ := e
    obtain ⟨y, h1, h2⟩ := minmax_sound (c := c) hu hx ts.toArray ty w
    have h1' : (Builtin.min_ ts.toArray ty xs.toArray).run c.P w = .ok y w := h1
    exact ⟨ρ, y, w, by simp [builtin, h1'], h2, Post.refl h⟩
  · cases e

theorem depth_succ (P : Program) : ∃ n, P.types.size + Made.depth = n + 1 := ⟨P.types.size + 99, rfl⟩

theorem no_next : Extern.allNextRows.lookup "" = none := by kernel_rfl
theorem no_next_add : Extern.allNextRows.lookup "math/bits.Add64" = none := by kernel_rfl
theorem no_next_sub : Extern.allNextRows.lookup "math/bits.Sub64" = none := by kernel_rfl
theorem no_gen_add : Extern.allGenericRows.lookup "math/bits.Add64" = none := by kernel_rfl
theorem no_gen_sub : Extern.allGenericRows.lookup "math/bits.Sub64" = none := by kernel_rfl
theorem no_typ_add : Extern.allTypedRows.lookup "math/bits.Add64" = none := by kernel_rfl
theorem no_typ_sub : Extern.allTypedRows.lookup "math/bits.Sub64" = none := by kernel_rfl

/-- what stands in for math/bits.Sub64 -/
def subEntry : Array Value → Sem Value := fun args => do
  let (x, y, b) ← Extern.MathBitsCarry.three "Sub64" args
  pure (Extern.MathBitsCarry.pair ((x + Extern.MathBitsCarry.m64 - y - b) % Extern.MathBitsCarry.m64) (if x < y + b then 1 else 0))

theorem row_add : Extern.allRows.lookup "math/bits.Add64" = some add64Entry := by kernel_rfl
theorem row_sub : Extern.allRows.lookup "math/bits.Sub64" = some subEntry := by kernel_rfl

theorem run_subEntry {P : Program} (x y b : Nat) (hb : b ≤ 1) (w : World) :
    (subEntry #[.int .u64 x, .int .u64 y, .int .u64 b]).run P w =
      .ok (.tuple #[.int .u64 (((x + 18446744073709551616 - y - b) % 18446744073709551616 : Nat) : Int), .int .u64 ((if x < y + b then 1 else 0 : Nat) : Int)]) w := by
  have : b = 0 ∨ b = 1 := by omega
  rcases this with rfl | rfl <;> rfl

theorem ext_sound {f : FuncId} {args : List AV} {v : AV} (e : aext c.P f args = some v) {xs : List Value} (hx : VRs ρ args xs) (w : World) :
    ∃ x, (callFunc f xs.toArray).run c.P w = .ok (.value x) w ∧ VR ρ v x := by
  simp only [aext, Option.bind_eq_some_iff] at e
  obtain ⟨fn, hfn, e⟩ := e
  split at e
  · cases e
  · rename_i h0
    simp only [Bool.or_eq_true, Bool.not_eq_true', not_or, Bool.not_eq_true, Bool.not_eq_false] at h0
    obtain ⟨hb, hn, ho⟩ := h0
    have ho' : fn.origin = "" := by simpa using ho
    have hb' : fn.body.isNone = true := by cases hq : fn.body <;> simp_all
    split at e
    · rename_i hname
      have hname' : fn.name = "math/bits.Add64" := by simpa using hname
      split at e
      · rename_i x y k
        split at e
        · rename_i hc
          cases e
          obtain ⟨x1, r1, rfl, rfl, x2, r2, rfl, rfl, x3, r3, rfl, rfl, rfl⟩ := hx
          refine ⟨_, ?_, ⟨[.int .u64 _, .int .u64 _], ⟨_, _, rfl, rfl, _, _, rfl, rfl, rfl⟩, rfl⟩⟩
          rw [run_callFunc_extern hfn hn hb' (by simp [Extern.findNext, hname', ho', no_next, no_next_add]) (e := add64Entry) (by simp [Extern.find, hname', row_add, no_gen_add, no_typ_add])]
          have := run_add64 (P := c.P) x y k hc.1 hc.2.1 hc.2.2.1 hc.2.2.2 w
          simp only [List.toArray] at this ⊢
          rw [this]; rfl
        · cases e
      · cases e
    · split at e
      · rename_i hname
        have hname' : fn.name = "math/bits.Sub64" := by simpa using hname
        split at e
        · rename_i x y k
          split at e
          · rename_i hc
            cases e
            obtain ⟨x1, r1, rfl, rfl, x2, r2, rfl, rfl, x3, r3, rfl, rfl, rfl⟩ := hx
            refine ⟨_, ?_, ⟨[.int .u64 _, .int .u64 _], ⟨_, _, rfl, rfl, _, _, rfl, rfl, rfl⟩, rfl⟩⟩
            rw [run_callFunc_extern hfn hn hb' (by simp [Extern.findNext, hname', ho', no_next, no_next_sub]) (e := subEntry) (by simp [Extern.find, hname', row_sub, no_gen_sub, no_typ_sub])]
            obtain ⟨X, rfl⟩ := Int.eq_ofNat_of_zero_le hc.1
            obtain ⟨Y, rfl⟩ := Int.eq_ofNat_of_zero_le hc.2.1
            obtain ⟨K, rfl⟩ := Int.eq_ofNat_of_zero_le hc.2.2.1
            have := run_subEntry (P := c.P) X Y K (by omega) w
            simp only [List.toArray, Int.toNat_natCast] at this ⊢
            rw [this]; rfl
          · cases e
        · cases e
      · cases e

theorem callee_sound (h : Rel c base w0 ρ H w) {env : AEnv} {a : Act} (he : EnvR ρ env a.tmps) {cl : Call} {r : ARes} {H' : AHeap} (e : acallee c H env cl = some (r, H')) (hf : H.length < H'.length → ρ (.own H.length) = none) (ty : TypeId) :
    ∃ ρ' n w', ((do let d ← resolve a.eval cl ty; invoke d.target d.args) : Sem Next).run c.P w = .ok n w' ∧ PRes ρ' r n ∧ Post c base w0 ρ H w ρ' H' w' := by
  simp only [acallee, Option.bind_eq_some_iff] at e
  obtain ⟨args, hargs, e⟩ := e
  have hx := avals_sound h he hargs
  have hmap : cl.args.map a.eval = (cl.args.toList.map a.eval).toArray := by apply Array.ext'; simp
  split at e
  · rename_i b hcal
    simp only [Option.map_eq_some_iff, Prod.mk.injEq] at e
    obtain ⟨⟨v, H2⟩, hb, rfl, rfl⟩ := e
    obtain ⟨ρ', u, w', h1, h2, h3⟩ := builtin_sound h hb hf hx ty (cl.args.map fun | .const _ => true | _ => false)
    refine ⟨ρ', .value u, w', ?_, h2, h3⟩
    simp only [Array.toArray_toList] at h1
    simp only [resolve, hcal, Sem.run_bind, Sem.run_pure, Result.andThen_ok, invoke, hmap]
    exact h1
  · rename_i g hcal
    simp only [Option.bind_eq_some_iff] at e
    obtain ⟨gv, hg, e⟩ := e
    have hgr := aval_sound h he hg
    split at e
    · rename_i f first captured
      split at e
      · rename_i hb
        cases e
        obtain ⟨xs, ys, hxs, hys, hgv⟩ := hgr
        refine ⟨ρ, .enter f (xs ++ cl.args.toList.map a.eval ++ ys).toArray, w, ?_, ⟨rfl, _, (hxs.append hx).append hys, rfl⟩, Post.refl h⟩
        simp only [resolve, hcal, Sem.run_bind, hgv, Deferred.ofValue, Sem.run_pure, Result.andThen_ok, invoke, callFunc_run hb, hmap]
        simp
      · simp only [Option.map_eq_some_iff, Prod.mk.injEq] at e
        obtain ⟨v, hv, rfl, rfl⟩ := e
        obtain ⟨xs, ys, hxs, hys, hgv⟩ := hgr
        obtain ⟨x, hx1, hx2⟩ := ext_sound hv ((hxs.append hx).append hys) w
        refine ⟨ρ, .value x, w, ?_, hx2, Post.refl h⟩
        simp only [resolve, hcal, Sem.run_bind, hgv, Deferred.ofValue, Sem.run_pure, Result.andThen_ok, invoke, hmap]
        rw [← hx1]
        simp
    · rename_i name first captured
      obtain ⟨xs, ys, hxs, hys, hgv⟩ := hgr
      have hall := hxs.append hx
      split at e
      · rename_i t v rest heq
        rw [heq] at hall
        obtain ⟨y, zs, hyz, ⟨y', hy', rfl⟩, hzs⟩ := hall
        simp only [Option.bind_eq_some_iff] at e
        obtain ⟨⟨f, rv⟩, hm, e⟩ := e
        obtain ⟨k, hk⟩ := depth_succ c.P
        obtain ⟨z, hz, hzr⟩ := method_sound h hm hy' k
        rw [← hk] at hz
        split at e
        · rename_i hb
          cases e
          refine ⟨ρ, .enter f (z :: zs).toArray, w, ?_, ⟨rfl, _, ⟨z, zs, rfl, hzr, hzs⟩, rfl⟩, Post.refl h⟩
          have hargs' : xs.toArray ++ (cl.args.toList.map a.eval).toArray = (.iface t y' :: zs).toArray := by rw [← hyz]; simp
          simp only [resolve, hcal, Sem.run_bind, hgv, Deferred.ofValue, Sem.run_pure, Result.andThen_ok, invoke, hmap, hargs']
          simp only [List.getElem?_toArray, List.getElem?_cons_zero, callMethod, Sem.run_bind, run_program, Result.andThen_ok, hz, callFunc_run hb]
          simp
        · cases e
      · cases e
    · cases e
  · rename_i recv name hcal
    simp only [Option.bind_eq_some_iff] at e
    obtain ⟨rv, hrv, e⟩ := e
    have hrr := aval_sound h he hrv
    split at e
    · rename_i t v
      obtain ⟨y', hy', hye⟩ := hrr
      simp only [Option.bind_eq_some_iff] at e
      obtain ⟨⟨f, rv'⟩, hm, e⟩ := e
      obtain ⟨k, hk⟩ := depth_succ c.P
      obtain ⟨z, hz, hzr⟩ := method_sound h hm hy' k
      rw [← hk] at hz
      split at e
      · rename_i hb
        cases e
        refine ⟨ρ, .enter f (z :: cl.args.toList.map a.eval).toArray, w, ?_, ⟨rfl, _, ⟨z, _, rfl, hzr, hx⟩, rfl⟩, Post.refl h⟩
        simp only [resolve, hcal, Sem.run_bind, Sem.run_pure, Result.andThen_ok, invoke, hmap, hye]
        simp only [List.append_toArray, List.cons_append, List.nil_append, List.getElem?_toArray, List.getElem?_cons_zero, callMethod, Sem.run_bind, run_program, Result.andThen_ok, hz, callFunc_run hb]
        simp
        exact List.take_of_length_le (by simp)
      · cases e
    · cases e

theorem parts_sound (h : Rel c base w0 ρ H w) {env : AEnv} {a : Act} (he : EnvR ρ env a.tmps) : ∀ {ps : List (Nat × Operand)} {l : List (Nat × AV)}, mapO (fun p : Nat × Operand => (aval env p.2).map fun v => (p.1, v)) ps = some l → PartsR ρ l (ps.map fun p => (p.1, a.eval p.2))
  | [], l, e => by simp [mapO] at e; subst e; exact .nil
  | (i, x) :: r, l, e => by
    simp only [mapO, Option.bind_eq_some_iff, Option.map_eq_some_iff, Option.some.injEq] at e
    obtain ⟨_, ⟨v, hv, rfl⟩, z, hz, rfl⟩ := e
    exact .cons (aval_sound h he hv) (parts_sound h he hz)

theorem optval_sound (h : Rel c base w0 ρ H w) {env : AEnv} {a : Act} (he : EnvR ρ env a.tmps) {x : Option Operand} {v : Option AV} (e : optval env x = some v) : OVR ρ v (x.map a.eval) := by
  cases x with
  | none => simp [optval] at e; subst e; trivial
  | some x =>
    simp only [optval, Option.map_eq_some_iff] at e
    obtain ⟨u, hu, rfl⟩ := e
    exact aval_sound h he hu

/-- THE OPERATIONS. -/
theorem op_sound (h : Rel c base w0 ρ H w) {env : AEnv} {a : Act} (he : EnvR ρ env a.tmps) {o : Oper} {r : ARes} {H' : AHeap} (e : aop c env o.op H = some (r, H')) (hf : H.length < H'.length → ρ (.own H.length) = none) :
    ∃ ρ' n w', (execOp a.eval o).run c.P w = .ok n w' ∧ PRes ρ' r n ∧ Post c base w0 ρ H w ρ' H' w' := by
  have one : ∀ {q : Option AV} {K : AHeap}, pair q K = some (r, H') → ∃ v, q = some v ∧ r = .val v ∧ H' = K := by
    intro q K hq
    simp only [pair, Option.map_eq_some_iff, Prod.mk.injEq] at hq
    obtain ⟨v, hv, rfl, rfl⟩ := hq
    exact ⟨v, hv, rfl, rfl⟩
  have two : ∀ {q : Option (AV × AHeap)}, both q = some (r, H') → ∃ v, q = some (v, H') ∧ r = .val v := by
    intro q hq
    simp only [both, Option.map_eq_some_iff, Prod.mk.injEq] at hq
    obtain ⟨⟨v, K⟩, hv, rfl, rfl⟩ := hq
    exact ⟨v, hv, rfl⟩
  have non : ∀ {q : Option AHeap}, done q = some (r, H') → q = some H' ∧ r = .skip := by
    intro q hq
    simp only [done, Option.map_eq_some_iff, Prod.mk.injEq] at hq
    obtain ⟨K, hv, rfl, rfl⟩ := hq
    exact ⟨hv, rfl⟩
  have still : ∀ {v : AV} {x : Value}, r = .val v → H' = H → (execOp a.eval o).run c.P w = .ok (.value x) w → VR ρ v x → ∃ ρ' n w', (execOp a.eval o).run c.P w = .ok n w' ∧ PRes ρ' r n ∧ Post c base w0 ρ H w ρ' H' w' := by
    intro v x hr hH hrun hv
    subst hr hH
    exact ⟨ρ, .value x, w, hrun, hv, Post.refl h⟩
  have hA : ∀ (x : Array Operand), x.map a.eval = (x.toList.map a.eval).toArray := by intro x; apply Array.ext'; simp
  unfold aop at e
  split at e
  · rename_i x hop
    obtain ⟨v, hv, hr, hH⟩ := one e
    exact still hr hH (by simp [execOp, hop]) (aval_sound h he hv)
  · rename_i x hop
    obtain ⟨v, hv, hr, hH⟩ := one e
    exact still hr hH (by simp [execOp, hop]) (aval_sound h he hv)
  · rename_i q x y hop
    simp only [Option.bind_eq_some_iff] at e
    obtain ⟨u, hu, e⟩ := e
    have hq := aval_sound h he hu
    split at e
    · rename_i t
      simp only [VR] at hq
      obtain ⟨v, hv, hr, hH⟩ := one e
      cases t with
      | true => exact still hr hH (by simp [execOp, hop, hq, asBool]) (aval_sound h he hv)
      | false => exact still hr hH (by simp [execOp, hop, hq, asBool]) (aval_sound h he hv)
    · cases e
  · rename_i t hop
    simp only [Option.bind_eq_some_iff] at e
    obtain ⟨z, hz, e⟩ := e
    obtain ⟨v, hv, rfl⟩ := two e
    have hlen : H.length < H'.length := by
      simp only [anew, Option.bind_eq_some_iff] at hv
      obtain ⟨_, _, hv⟩ := hv
      split at hv <;> cases hv; simp [hnew]
    obtain ⟨ρ', x, w', h1, h2, h3⟩ := alloc_sound h hz hv (hf hlen)
    exact ⟨ρ', .value x, w', by simp [execOp, hop, h1], h2, h3⟩
  · rename_i t x hop
    simp only [Option.bind_eq_some_iff] at e
    obtain ⟨u, hu, e⟩ := e
    obtain ⟨v, hv, rfl⟩ := two e
    have hlen : H.length < H'.length := by
      simp only [anew, Option.bind_eq_some_iff] at hv
      obtain ⟨_, _, hv⟩ := hv
      split at hv <;> cases hv; simp [hnew]
    obtain ⟨ρ', y, w', h1, h2, h3⟩ := box_sound h hv (hf hlen) (aval_sound h he hu)
    exact ⟨ρ', .value y, w', by simp [execOp, hop, h1], h2, h3⟩
  · rename_i t ps hop
    simp only [Option.bind_eq_some_iff] at e
    obtain ⟨l, hl, e⟩ := e
    obtain ⟨v, hv, hr, hH⟩ := one e
    have hp := parts_sound h he hl
    obtain ⟨y, hy, hvr⟩ := build_sound (c := c) hv (xs := ps.map fun (i, x) => (i, a.eval x)) (by simpa using hp) w
    exact still hr hH (by simp [execOp, hop, hy]) hvr
  · rename_i t n ps hop
    simp only [Option.bind_eq_some_iff] at e
    obtain ⟨l, hl, e⟩ := e
    obtain ⟨v, hv, rfl⟩ := two e
    have hp := parts_sound h he hl
    have hlen : H.length < H'.length := by
      simp only [abuildSlice, Option.bind_eq_some_iff] at hv
      obtain ⟨_, _, hv⟩ := hv
      split at hv
      · simp only [Option.bind_eq_some_iff] at hv
        obtain ⟨_, _, _, _, hv⟩ := hv
        split at hv
        · simp only [Option.map_eq_some_iff, Prod.mk.injEq] at hv
          obtain ⟨_, _, _, rfl⟩ := hv
          simp [hnew]
        · split at hv <;> cases hv; simp [hnew]
      · cases hv
    obtain ⟨ρ', y, w', h1, h2, h3⟩ := buildSlice_sound h hv (hf hlen) (xs := ps.map fun (i, x) => (i, a.eval x)) (by simpa using hp)
    exact ⟨ρ', .value y, w', by simp [execOp, hop, h1], h2, h3⟩
  · rename_i t x hop
    simp only [Option.bind_eq_some_iff] at e
    obtain ⟨u, hu, e⟩ := e
    obtain ⟨v, hv, hr, hH⟩ := one e
    obtain ⟨y, hy, hvr⟩ := load_sound h hv (aval_sound h he hu)
    exact still hr hH (by simp [execOp, hop, hy]) hvr
  · rename_i t x y hop
    simp only [Option.bind_eq_some_iff] at e
    obtain ⟨u, hu, v, hv, e⟩ := e
    obtain ⟨hH, rfl⟩ := non e
    obtain ⟨w', h1, h2⟩ := store_sound h hH (aval_sound h he hu) (aval_sound h he hv)
    exact ⟨ρ, .skip, w', by simp [execOp, hop, h1], trivial, h2⟩
  · rename_i x hop
    simp only [Option.bind_eq_some_iff] at e
    obtain ⟨u, hu, e⟩ := e
    have hq := aval_sound h he hu
    split at e
    · cases e
      obtain ⟨p, hp, hx⟩ := hq
      exact still rfl rfl (x := .pointer (some ⟨p.b, p.off + _, none⟩)) (by simp [execOp, hop, hx]) ⟨p, hp, rfl⟩
    · cases e
      obtain ⟨xs, ys, hxs, hys, hx⟩ := hq
      exact still rfl rfl (x := .func (.func _) xs.toArray ys.toArray) (by simp [execOp, hop, hx]) ⟨xs, ys, hxs, hys, rfl⟩
    · cases e
      obtain ⟨y, hy, hx⟩ := hq
      exact still rfl rfl (x := .iface _ y) (by simp [execOp, hop, hx]) ⟨y, hy, rfl⟩
    · cases e
  · rename_i op t x y yt hop
    simp only [Option.bind_eq_some_iff] at e
    obtain ⟨u, hu, v, hv, e⟩ := e
    obtain ⟨q, hq, hr, hH⟩ := one e
    obtain ⟨z, hz, hvr⟩ := bin_sound (c := c) hq (aval_sound h he hu) (aval_sound h he hv) x y w
    exact still hr hH (by simp only [execOp, hop, Sem.run_bind, hz, Result.andThen_ok, Sem.run_pure]) hvr
  · rename_i op t x hop
    simp only [Option.bind_eq_some_iff] at e
    obtain ⟨u, hu, e⟩ := e
    obtain ⟨q, hq, hr, hH⟩ := one e
    obtain ⟨z, hz, hvr⟩ := un_sound (c := c) hq (aval_sound h he hu) w
    exact still hr hH (by simp [execOp, hop, hz]) hvr
  · rename_i src dst x hop
    simp only [Option.bind_eq_some_iff] at e
    obtain ⟨u, hu, e⟩ := e
    obtain ⟨q, hq, hr, hH⟩ := one e
    obtain ⟨z, hz, hvr⟩ := conv_sound (c := c) hq (aval_sound h he hu) w
    exact still hr hH (by simp [execOp, hop, hz]) hvr
  · rename_i t x hop
    simp only [Option.bind_eq_some_iff] at e
    obtain ⟨u, hu, d, hd, e⟩ := e
    split at e
    · cases e
    · rename_i hni
      cases e
      refine still rfl rfl (x := .iface t (a.eval x)) ?_ ⟨_, aval_sound h he hu, rfl⟩
      simp only [execOp, hop, Sem.run_bind, Instr.makeInterface, run_underlying hd, Result.andThen_ok]
      cases d <;> first | rfl | exact absurd rfl (hni _)
  · rename_i fn first captured hop
    simp only [Option.bind_eq_some_iff] at e
    obtain ⟨l1, hl1, l2, hl2, e⟩ := e
    cases e
    refine still rfl rfl (x := .func fn (first.map a.eval) (captured.map a.eval)) (by simp [execOp, hop, Instr.makeFunc]) ⟨_, _, avals_sound h he hl1, avals_sound h he hl2, by rw [hA, hA]⟩
  · rename_i t rsv hop
    have mk : (r, H') = (.val (.map (fresh H)), hnew H (.map [] 0)) → (execOp a.eval o).run c.P w = .ok (.value (.map (some w.heap.size))) (w.alloc (.map #[] 0)) → ∃ ρ' n w', (execOp a.eval o).run c.P w = .ok n w' ∧ PRes ρ' r n ∧ Post c base w0 ρ H w ρ' H' w' := by
      intro hq hrun
      cases hq
      have hf' := hf (by simp [hnew])
      exact ⟨upd ρ (.own H.length) ⟨w.heap.size, 0, 0⟩, _, _, hrun, ⟨_, upd_same _ _ _, rfl⟩, post_new h hf' _ ⟨w.heap.size, 0, 0⟩ _ rfl ⟨#[], heap_alloc_new w _, .nil⟩⟩
    split at e
    · cases e
      exact mk rfl (by simp [execOp, hop, Instr.makeMap])
    · rename_i hh
      simp only [Option.bind_eq_some_iff] at e
      obtain ⟨v, hv, d, hd, e⟩ := e
      have hq := aval_sound h he hv
      split at e
      · cases e
        simp only [VR] at hq
        exact mk rfl (by simp [execOp, hop, Instr.makeMap, run_underlying hd, hq, asInt, asIntOf])
      · cases e
  · rename_i t l m hop
    simp only [Option.bind_eq_some_iff] at e
    obtain ⟨u, hu, v, hv, e⟩ := e
    obtain ⟨q, hq, rfl⟩ := two e
    have hlen : H.length < H'.length := by
      unfold amakeSlice at hq
      split at hq
      · simp only [Option.bind_eq_some_iff] at hq
        obtain ⟨_, _, hq⟩ := hq
        split at hq
        · simp only [Option.bind_eq_some_iff] at hq
          obtain ⟨_, _, _, _, hq⟩ := hq
          split at hq <;> cases hq; simp [hnew]
        · cases hq
      · cases hq
    obtain ⟨ρ', y, w', h1, h2, h3⟩ := makeSlice_sound h hq (hf hlen) (aval_sound h he hu) (aval_sound h he hv)
    exact ⟨ρ', .value y, w', by simp [execOp, hop, h1], h2, h3⟩
  · rename_i t x lo hi mx hop
    simp only [Option.bind_eq_some_iff] at e
    obtain ⟨u, hu, l1, hl1, l2, hl2, l3, hl3, e⟩ := e
    obtain ⟨q, hq, rfl⟩ := two e
    obtain ⟨ρ', y, w', h1, h2, h3⟩ := slice_sound h hq hf (aval_sound h he hu) (optval_sound h he hl1) (optval_sound h he hl2) (optval_sound h he hl3)
    exact ⟨ρ', .value y, w', by simp [execOp, hop, h1], h2, h3⟩
  · rename_i s x f hop
    simp only [Option.bind_eq_some_iff] at e
    obtain ⟨u, hu, e⟩ := e
    obtain ⟨q, hq, hr, hH⟩ := one e
    obtain ⟨z, hz, hvr⟩ := fieldAddr_sound (c := c) hq (aval_sound h he hu) w
    exact still hr hH (by simp [execOp, hop, hz]) hvr
  · rename_i s x f hop
    simp only [Option.bind_eq_some_iff] at e
    obtain ⟨u, hu, e⟩ := e
    obtain ⟨q, hq, hr, hH⟩ := one e
    obtain ⟨z, hz, hvr⟩ := field_sound (c := c) hq (aval_sound h he hu) w
    exact still hr hH (by simp [execOp, hop, hz]) hvr
  · rename_i s x y hop
    simp only [Option.bind_eq_some_iff] at e
    obtain ⟨u, hu, v, hv, e⟩ := e
    obtain ⟨q, hq, hr, hH⟩ := one e
    obtain ⟨z, hz, hvr⟩ := indexAddr_sound (c := c) hq (aval_sound h he hu) (aval_sound h he hv) w
    exact still hr hH (by simp [execOp, hop, hz]) hvr
  · rename_i s x y hop
    simp only [Option.bind_eq_some_iff] at e
    obtain ⟨u, hu, v, hv, e⟩ := e
    obtain ⟨q, hq, hr, hH⟩ := one e
    obtain ⟨z, hz, hvr⟩ := index_sound (c := c) hq (aval_sound h he hu) (aval_sound h he hv) w
    exact still hr hH (by simp [execOp, hop, hz]) hvr
  · rename_i t m k ok hop
    simp only [Option.bind_eq_some_iff] at e
    obtain ⟨u, hu, v, hv, e⟩ := e
    obtain ⟨q, hq, hr, hH⟩ := one e
    obtain ⟨z, hz, hvr⟩ := lookup_sound h hq (aval_sound h he hu) (aval_sound h he hv)
    exact still hr hH (by simp [execOp, hop, hz]) hvr
  · rename_i t m k x hop
    simp only [Option.bind_eq_some_iff] at e
    obtain ⟨u, hu, v, hv, y, hy, e⟩ := e
    obtain ⟨hH, rfl⟩ := non e
    obtain ⟨w', h1, h2⟩ := mapUpdate_sound h hH (aval_sound h he hu) (aval_sound h he hv) (aval_sound h he hy)
    exact ⟨ρ, .skip, w', by simp [execOp, hop, h1], trivial, h2⟩
  · rename_i t m k x hop
    simp only [Option.bind_eq_some_iff] at e
    obtain ⟨u, hu, v, hv, y, hy, e⟩ := e
    obtain ⟨hH, rfl⟩ := non e
    obtain ⟨w', h1, h2⟩ := mapUpdate_sound h hH (aval_sound h he hu) (aval_sound h he hv) (aval_sound h he hy)
    exact ⟨ρ, .skip, w', by simp [execOp, hop, h1], trivial, h2⟩
  · rename_i t m k hop
    simp only [Option.bind_eq_some_iff] at e
    obtain ⟨u, hu, v, hv, e⟩ := e
    obtain ⟨q, hq, rfl⟩ := two e
    obtain ⟨y, w', h1, h2, h3⟩ := mapEntry_sound h hq (aval_sound h he hu) (aval_sound h he hv)
    exact ⟨ρ, .value y, w', by simp [execOp, hop, h1], h2, h3⟩
  · rename_i t m k x hop
    simp only [Option.bind_eq_some_iff] at e
    obtain ⟨u, hu, v, hv, y, hy, e⟩ := e
    obtain ⟨hH, rfl⟩ := non e
    obtain ⟨w', h1, h2⟩ := entryStore_sound h t hH (aval_sound h he hu) (aval_sound h he hv) (aval_sound h he hy)
    exact ⟨ρ, .skip, w', by simp [execOp, hop, h1], trivial, h2⟩
  · rename_i x xt t ok hop
    simp only [Option.bind_eq_some_iff] at e
    obtain ⟨u, hu, d, hd, e⟩ := e
    have hq := aval_sound h he hu
    split at e
    · cases e
    · rename_i u' w2 hni
      obtain ⟨y, hy, hx⟩ := hq
      split at e
      · rename_i hut
        subst hut
        cases e
        cases ok with
        | true =>
          refine still rfl rfl (x := .tuple #[y, .bool true]) ?_ ⟨[y, .bool true], ⟨y, [.bool true], rfl, hy, .bool true, [], rfl, rfl, rfl⟩, rfl⟩
          simp only [execOp, hop, hx, Sem.run_bind, Instr.typeAssert, run_underlying hd, Result.andThen_ok]
          cases d <;> first | (simp; done) | exact absurd rfl (hni _)
        | false =>
          refine still rfl rfl (x := y) ?_ hy
          simp only [execOp, hop, hx, Sem.run_bind, Instr.typeAssert, run_underlying hd, Result.andThen_ok]
          cases d <;> first | (simp; done) | exact absurd rfl (hni _)
      · rename_i hut
        split at e
        · rename_i hok
          subst hok
          simp only [Option.map_eq_some_iff, Prod.mk.injEq] at e
          obtain ⟨z, hz, rfl, rfl⟩ := e
          obtain ⟨zz, hzz, hv⟩ := zeroAV_run (c := c) (ρ := ρ) hz w
          refine still rfl rfl (x := .tuple #[zz, .bool false]) ?_ ⟨[zz, .bool false], ⟨zz, [.bool false], rfl, hv, .bool false, [], rfl, rfl, rfl⟩, rfl⟩
          simp only [execOp, hop, hx, Sem.run_bind, Instr.typeAssert, run_underlying hd, Result.andThen_ok]
          cases d <;> first | (simp [hut, hzz]; done) | exact absurd rfl (hni _)
        · cases e
    · rename_i hni
      simp only [VR] at hq
      split at e
      · rename_i hok
        subst hok
        simp only [Option.map_eq_some_iff, Prod.mk.injEq] at e
        obtain ⟨z, hz, rfl, rfl⟩ := e
        obtain ⟨zz, hzz, hv⟩ := zeroAV_run (c := c) (ρ := ρ) hz w
        refine still rfl rfl (x := .tuple #[zz, .bool false]) ?_ ⟨[zz, .bool false], ⟨zz, [.bool false], rfl, hv, .bool false, [], rfl, rfl, rfl⟩, rfl⟩
        simp only [execOp, hop, hq, Sem.run_bind, Instr.typeAssert, run_underlying hd, Result.andThen_ok]
        cases d <;> first | (simp [hzz]; done) | exact absurd rfl (hni _)
      · cases e
    · cases e
  · rename_i x i hop
    simp only [Option.bind_eq_some_iff] at e
    obtain ⟨u, hu, e⟩ := e
    have hq := aval_sound h he hu
    split at e
    · obtain ⟨v, hv, hr, hH⟩ := one e
      obtain ⟨z, hz, hvr⟩ := extract_sound (c := c) hv hq w
      exact still hr hH (by simp [execOp, hop, hz]) hvr
    · cases e
  · rename_i cl hop
    obtain ⟨ρ', n, w', h1, h2, h3⟩ := callee_sound h he e hf o.type
    exact ⟨ρ', n, w', by simpa [execOp, hop] using h1, h2, h3⟩
  · cases e

end Go.AM
