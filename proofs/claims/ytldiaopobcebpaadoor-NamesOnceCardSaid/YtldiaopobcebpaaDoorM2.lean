/- Texts of the proof in one file (own work): AmOps7, AmCode, AmDraw, AmFree. -/
import Derived.Laws.Externs
import Derived.KernelRfl
import Derived.Test.YtldiaopobcebpaaDoorM1
import Derived.Orders
import Derived.LoopN
/-
  THE OPERATIONS, the whole (own work): 'op_sound': what the abstract machine tells of an operation is what the model's does.
-/
namespace Go.AM
open Go.RowKit
set_option linter.unusedSimpArgs false

variable {c : Ctx} {base : Nat} {w0 w : World} {ρ : Pl} {H : AHeap}

theorem clear_sound (h : Rel c base w0 ρ H w) {t ty : TypeId} {x : AV} {H' : AHeap} (e : aclear c H t x = some H') {x' : Value} (hx : VR ρ x x') (ts : Array TypeId) (hts : ts[0]? = some t) :
    ∃ w', (Builtin.clear_ ts ty #[x']).run c.P w = .ok (.tuple #[]) w' ∧ Post c base w0 ρ H w ρ H' w' := by
  simp only [aclear, Option.bind_eq_some_iff] at e
  obtain ⟨d, hd, e⟩ := e
  split at e
  · cases e; simp only [VR] at hx; subst hx
    exact ⟨w, by simp [Builtin.clear_, hts, run_underlying hd], Post.refl h⟩
  · rename_i el l esz start n
    obtain ⟨p, hp, hcap, rfl⟩ := hx
    split at e
    · rename_i hn; subst hn; cases e
      exact ⟨w, by simp [Builtin.clear_, hts, run_underlying hd], Post.refl h⟩
    · rename_i hn
      simp only [Option.bind_eq_some_iff] at e
      obtain ⟨z, hz, e⟩ := e
      split at e
      · rename_i hzl
        obtain ⟨zz, hzz, hv⟩ := zeroCells_run (c := c) (ρ := ρ) hz (w := w)
        by_cases hz0 : z.length = 0
        · -- elements of no cell
          have hz' : z = [] := List.eq_nil_of_length_eq_zero hz0
          subst hz'
          have hr0 : ∀ n, reps n [] = [] := by intro n; induction n with | zero => rfl | succ n ih => simp [reps, ih]
          rw [hr0] at e
          obtain ⟨w', hw', hpost⟩ := wr_sound h e hp (xs := []) rfl
          have hzs : zz.cells.size = 0 := by have := hv.length; simpa using this
          refine ⟨w', ?_, hpost⟩
          have hzc : (Builtin.zeroCells zz.cells n).toList = [] := by simp [Builtin.zeroCells, hzs]
          obtain ⟨m, rfl⟩ : ∃ m, n = m + 1 := ⟨n - 1, by omega⟩
          simp only [Builtin.clear_, hts, List.getElem?_toArray, List.getElem?_cons_zero, Sem.run_bind, run_underlying hd, Result.andThen_ok, hzz, hzc, hw', Sem.run_pure]
        · have hr := reps_sound hv (by omega) n
          obtain ⟨w', hw', hpost⟩ := wr_sound h e hp hr
          refine ⟨w', ?_, hpost⟩
          have hzs := zeroCells_size hv
          have hzc : Builtin.zeroCells zz.cells n = (Array.range (n * z.length)).map (zz.cells[· % zz.cells.size]!) := by rw [Builtin.zeroCells, hzs]
          obtain ⟨m, rfl⟩ : ∃ m, n = m + 1 := ⟨n - 1, by omega⟩
          simp only [Builtin.clear_, hts, List.getElem?_toArray, List.getElem?_cons_zero, Sem.run_bind, run_underlying hd, Result.andThen_ok, hzz, hzc, hw', Sem.run_pure]
      · cases e
  · cases e; simp only [VR] at hx; subst hx
    exact ⟨w, by simp [Builtin.clear_, hts, run_underlying hd], Post.refl h⟩
  · rename_i kt vt i
    obtain ⟨p, hp, rfl⟩ := hx
    split at e
    · rename_i es clock ho
      cases e
      obtain ⟨q, hq, ⟨ents, h1, h2⟩, _⟩ := h.own i _ ho
      obtain rfl : p = q := by rw [hp] at hq; exact Option.some.inj hq
      have hg : (getObj p.b).run c.P w = .ok (.map ents clock) w := by simp [getObj, Sem.run, h1]
      refine ⟨_, ?_, post_map h ho hp (ents := #[]) (clock' := clock) .nil⟩
      simp [Builtin.clear_, hts, run_underlying hd, hg, setObj_run (c := c) w p.b h1]
    · cases e
  · cases e

theorem minmax_sound {mx : Bool} {l : List AV} {v : AV} (e : aminmax mx l = some v) {xs : List Value} (hx : VRs ρ l xs) (ts : Array TypeId) (ty : TypeId) (w : World) :
    ∃ u, ((if mx then Builtin.max_ ts ty xs.toArray else Builtin.min_ ts ty xs.toArray) : Sem Value).run c.P w = .ok u w ∧ VR ρ v u := by
  unfold aminmax at e
  split at e
  · rename_i k x rest
    obtain ⟨y, ys, rfl, hy, hys⟩ := hx
    simp only [VR] at hy; subst hy
    have gen : ∀ (rest : List AV) (ys : List Value) (x : Int) (k : IntKind) (v : AV), VRs ρ rest ys →
        rest.foldlM (fun v y => match v, y with
          | .int k x, .int k' y => if k = k' then some (.int k (if mx then (if x < y then y else x) else (if y < x then y else x))) else none
          | _, _ => none) (AV.int k x) = some v →
        ∃ u, ((if mx then ys.foldlM Builtin.max2 (.int k x) else ys.foldlM Builtin.min2 (.int k x)) : Sem Value).run c.P w = .ok u w ∧ VR ρ v u := by
      intro rest
      induction rest with
      | nil => intro ys x k v h e; simp [VRs] at h; subst h; simp at e; subst e; cases mx <;> exact ⟨_, by simp, rfl⟩
      | cons a r ih =>
        intro ys x k v h e
        obtain ⟨y, ys, rfl, hy, hys⟩ := h
        simp only [List.foldlM_cons, Option.bind_eq_bind, Option.bind_eq_some_iff] at e
        obtain ⟨b, hb, e⟩ := e
        split at hb
        · rename_i k1 x1 k2 y1 heq
          cases heq
          simp only [VR] at hy; subst hy
          split at hb
          · cases hb
            obtain ⟨u, hu, hv⟩ := ih ys _ _ v hys e
            refine ⟨u, ?_, hv⟩
            cases mx <;> simpa [Builtin.max2, Builtin.min2] using hu
          · cases hb
        · cases hb
    obtain ⟨u, hu, hv⟩ := gen rest ys x k v hys e
    refine ⟨u, ?_, hv⟩
    cases mx <;> simpa [Builtin.max_, Builtin.min_] using hu
  · cases e

theorem wrapNil_run (ts : Array TypeId) (t : TypeId) (a : Addr) (s m : ByteArray) : Builtin.ssaWrapNilChk_ ts t #[.pointer (some a), .string s, .string m] = pure (.pointer (some a)) := rfl

theorem method_sound (h : Rel c base w0 ρ H w) {t : TypeId} {v : AV} {name : String} {f : FuncId} {r : AV} (e : amethod c H t v name = some (f, r)) {x : Value} (hx : VR ρ v x) (n : Nat) :
    ∃ y, (method (n + 1) t x name).run c.P w = .ok (f, y) w ∧ VR ρ r y := by
  simp only [amethod, Option.bind_eq_some_iff] at e
  obtain ⟨i, hi, m, hm, e⟩ := e
  split at e
  · rename_i hpe
    simp only [Option.bind_eq_some_iff] at e
    obtain ⟨⟨f', pr⟩, hfn, d, hd, e⟩ := e
    have hpath : m.path.toList = [] := by
      have : m.path = #[] := by simpa using hpe
      rw [this]
    have hgo : ∀ y, (receiverAt t (.val x) pr (if m.path.isEmpty then some ((name.splitOn ".").getLastD name) else none)).run c.P w = .ok y w → (method (n + 1) t x name).run c.P w = .ok (f', y) w := by
      intro y hy
      simp only [method, Sem.run_bind, info_run hi, hm, Result.andThen_ok, hpath, follow, Sem.run_pure, hfn, hy]
    split at e
    · rename_i el
      cases pr with
      | true =>
        simp only [if_true, Option.some.injEq, Prod.mk.injEq] at e
        obtain ⟨rfl, rfl⟩ := e
        exact ⟨x, hgo x (by simp [receiverAt, run_underlying hd, Place.get]), hx⟩
      | false =>
        simp only [Bool.false_eq_true, if_false, Option.map_eq_some_iff, Prod.mk.injEq] at e
        obtain ⟨u, hu, rfl, rfl⟩ := e
        obtain ⟨y, hy, hv⟩ := load_sound h hu hx
        refine ⟨y, hgo y ?_, hv⟩
        unfold aload at hu
        split at hu
        · obtain ⟨p, hp, rfl⟩ := hx
          simp only [Instr.loadAt, Instr.sureAddr, Sem.run_bind, Sem.run_pure, Result.andThen_ok] at hy
          simp only [receiverAt, Sem.run_bind, run_underlying hd, Result.andThen_ok, Place.get, Sem.run_pure, hpe, if_true, strVal, wrapNil_run, asAddr, hy]
        · cases hu
    · rename_i hnp
      cases pr with
      | true => simp at e
      | false =>
        simp only [Bool.false_eq_true, if_false, Option.some.injEq, Prod.mk.injEq] at e
        obtain ⟨rfl, rfl⟩ := e
        refine ⟨x, hgo x ?_, hx⟩
        simp only [receiverAt, Sem.run_bind, run_underlying hd, Result.andThen_ok]
        simp [Place.get]
  · cases e

theorem callFunc_run {f : FuncId} (hb : hasBody c.P f = true) (args : Array Value) (w : World) : (callFunc f args).run c.P w = .ok (.enter f args) w := by
  unfold hasBody at hb
  split at hb
  · rename_i fn hfn
    simp only [Bool.and_eq_true, Bool.not_eq_true'] at hb
    obtain ⟨h1, h2⟩ := hb
    have h1' : fn.body.isNone = false := by cases hq : fn.body <;> simp [hq] at h1 ⊢
    simp only [callFunc, Sem.run_bind, run_program, Result.andThen_ok, hfn, h2, Bool.false_eq_true, if_false, h1', Sem.run_pure]
  · cases hb

def PRes (ρ : Pl) : ARes → Next → Prop
  | .val v, .value x => VR ρ v x
  | .skip, .skip => True
  | .call f args, .enter g xs => f = g ∧ ∃ l, VRs ρ args l ∧ xs = l.toArray
  | _, _ => False

theorem builtin_sound (h : Rel c base w0 ρ H w) {b : Builtin} {ts : List TypeId} {args : List AV} {v : AV} {H' : AHeap} (e : abuiltin c H b ts args = some (v, H')) (hf : H.length < H'.length → ρ (.own H.length) = none) {xs : List Value} (hx : VRs ρ args xs) (ty : TypeId) (cs : Array Bool) :
    ∃ ρ' u w', (builtin b ts.toArray ty cs xs.toArray).run c.P w = .ok (.value u) w' ∧ VR ρ' v u ∧ Post c base w0 ρ H w ρ' H' w' := by
  unfold abuiltin at e
  split at e
  · rename_i t ts x
    simp only [Option.map_eq_some_iff, Prod.mk.injEq] at e
    obtain ⟨u, hu, rfl, rfl⟩ := e
    obtain ⟨y, _, rfl, hy, rfl⟩ := hx
    obtain ⟨z, hz, hv⟩ := len_sound (ty := ty) h hu hy (t :: ts).toArray (by simp)
    exact ⟨ρ, z, w, by simp [builtin, hz], hv, Post.refl h⟩
  · rename_i t t2 ts s x
    simp only [Option.bind_eq_some_iff] at e
    obtain ⟨d2, hd2, e⟩ := e
    split at e
    · cases e
    · rename_i hni
      obtain ⟨y, _, rfl, hy, y2, _, rfl, hy2, rfl⟩ := hx
      obtain ⟨ρ', u, w', h1, h2, h3⟩ := append_sound (ty := ty) h hf e hy hy2 (t :: t2 :: ts).toArray (by simp) (by simp) hd2 (fun k hk => hni k hk)
      exact ⟨ρ', u, w', by simp [builtin, h1], h2, h3⟩
  · rename_i t ts d s
    obtain ⟨y, _, rfl, hy, y2, _, rfl, hy2, rfl⟩ := hx
    obtain ⟨u, w', h1, h2, h3⟩ := copy_sound (ty := ty) (t2 := 0) h e hy hy2 (t :: ts).toArray (by simp) (.inr trivial)
    exact ⟨ρ, u, w', by simp [builtin, h1], h2, h3⟩
  · rename_i t ts m k
    simp only [Option.map_eq_some_iff, Prod.mk.injEq] at e
    obtain ⟨H2, hH, rfl, rfl⟩ := e
    obtain ⟨y, _, rfl, hy, y2, _, rfl, hy2, rfl⟩ := hx
    obtain ⟨w', h1, h2⟩ := delete_sound (ty := ty) h hH hy hy2 (t :: ts).toArray (by simp)
    exact ⟨ρ, _, w', by simp [builtin, h1], ⟨[], rfl, rfl⟩, h2⟩
  · rename_i t ts x
    simp only [Option.map_eq_some_iff, Prod.mk.injEq] at e
    obtain ⟨H2, hH, rfl, rfl⟩ := e
    obtain ⟨y, _, rfl, hy, rfl⟩ := hx
    obtain ⟨w', h1, h2⟩ := clear_sound (ty := ty) h hH hy (t :: ts).toArray (by simp)
    exact ⟨ρ, _, w', by simp [builtin, h1], ⟨[], rfl, rfl⟩, h2⟩
  · simp only [Option.map_eq_some_iff, Prod.mk.injEq] at e
    obtain ⟨u, hu, rfl, rfl⟩ := e
    obtain ⟨y, h1, h2⟩ := minmax_sound (c := c) hu hx ts.toArray ty w
    have h1' : (Builtin.max_ ts.toArray ty xs.toArray).run c.P w = .ok y w := h1
    exact ⟨ρ, y, w, by simp [builtin, h1'], h2, Post.refl h⟩
  · simp only [Option.map_eq_some_iff, Prod.mk.injEq] at e
    obtain ⟨u, hu, rfl, rfl⟩ := e
    obtain ⟨y, h1, h2⟩ := minmax_sound (c := c) hu hx ts.toArray ty w
    have h1' : (Builtin.min_ ts.toArray ty xs.toArray).run c.P w = .ok y w := h1
    exact ⟨ρ, y, w, by simp [builtin, h1'], h2, Post.refl h⟩
  · cases e

theorem depth_succ (P : Program) : ∃ n, P.types.size + Made.depth = n + 1 := ⟨P.types.size + 99, rfl⟩

theorem no_next : Extern.allNextRows.lookup "" = none := by kernel_rfl
theorem no_next_add : Extern.allNextRows.lookup "math/bits.Add64" = none := by kernel_rfl
theorem no_next_sub : Extern.allNextRows.lookup "math/bits.Sub64" = none := by kernel_rfl
theorem no_gen_add : Extern.allGenericRows.lookup "math/bits.Add64" = none := by kernel_rfl
theorem no_gen_sub : Extern.allGenericRows.lookup "math/bits.Sub64" = none := by kernel_rfl
theorem no_typ_add : Extern.allTypedRows.lookup "math/bits.Add64" = none := by kernel_rfl
theorem no_typ_sub : Extern.allTypedRows.lookup "math/bits.Sub64" = none := by kernel_rfl

/-- what stands in for math/bits.Sub64 -/
def subEntry : Array Value → Sem Value := fun args => do
  let (x, y, b) ← Extern.MathBitsCarry.three "Sub64" args
  pure (Extern.MathBitsCarry.pair ((x + Extern.MathBitsCarry.m64 - y - b) % Extern.MathBitsCarry.m64) (if x < y + b then 1 else 0))

theorem row_add : Extern.allRows.lookup "math/bits.Add64" = some add64Entry := by kernel_rfl
theorem row_sub : Extern.allRows.lookup "math/bits.Sub64" = some subEntry := by kernel_rfl

theorem run_subEntry {P : Program} (x y b : Nat) (hb : b ≤ 1) (w : World) :
    (subEntry #[.int .u64 x, .int .u64 y, .int .u64 b]).run P w =
      .ok (.tuple #[.int .u64 (((x + 18446744073709551616 - y - b) % 18446744073709551616 : Nat) : Int), .int .u64 ((if x < y + b then 1 else 0 : Nat) : Int)]) w := by
  have : b = 0 ∨ b = 1 := by omega
  rcases this with rfl | rfl <;> rfl

theorem ext_sound {f : FuncId} {args : List AV} {v : AV} (e : aext c.P f args = some v) {xs : List Value} (hx : VRs ρ args xs) (w : World) :
    ∃ x, (callFunc f xs.toArray).run c.P w = .ok (.value x) w ∧ VR ρ v x := by
  simp only [aext, Option.bind_eq_some_iff] at e
  obtain ⟨fn, hfn, e⟩ := e
  split at e
  · cases e
  · rename_i h0
    simp only [Bool.or_eq_true, Bool.not_eq_true', not_or, Bool.not_eq_true, Bool.not_eq_false] at h0
    obtain ⟨hb, hn, ho⟩ := h0
    have ho' : fn.origin = "" := by simpa using ho
    have hb' : fn.body.isNone = true := by cases hq : fn.body <;> simp_all
    split at e
    · rename_i hname
      have hname' : fn.name = "math/bits.Add64" := by simpa using hname
      split at e
      · rename_i x y k
        split at e
        · rename_i hc
          cases e
          obtain ⟨x1, r1, rfl, rfl, x2, r2, rfl, rfl, x3, r3, rfl, rfl, rfl⟩ := hx
          refine ⟨_, ?_, ⟨[.int .u64 _, .int .u64 _], ⟨_, _, rfl, rfl, _, _, rfl, rfl, rfl⟩, rfl⟩⟩
          rw [run_callFunc_extern hfn hn hb' (by simp [Extern.findNext, hname', ho', no_next, no_next_add]) (e := add64Entry) (by simp [Extern.find, hname', row_add, no_gen_add, no_typ_add])]
          have := run_add64 (P := c.P) x y k hc.1 hc.2.1 hc.2.2.1 hc.2.2.2 w
          simp only [List.toArray] at this ⊢
          rw [this]; rfl
        · cases e
      · cases e
    · split at e
      · rename_i hname
        have hname' : fn.name = "math/bits.Sub64" := by simpa using hname
        split at e
        · rename_i x y k
          split at e
          · rename_i hc
            cases e
            obtain ⟨x1, r1, rfl, rfl, x2, r2, rfl, rfl, x3, r3, rfl, rfl, rfl⟩ := hx
            refine ⟨_, ?_, ⟨[.int .u64 _, .int .u64 _], ⟨_, _, rfl, rfl, _, _, rfl, rfl, rfl⟩, rfl⟩⟩
            rw [run_callFunc_extern hfn hn hb' (by simp [Extern.findNext, hname', ho', no_next, no_next_sub]) (e := subEntry) (by simp [Extern.find, hname', row_sub, no_gen_sub, no_typ_sub])]
            obtain ⟨X, rfl⟩ := Int.eq_ofNat_of_zero_le hc.1
            obtain ⟨Y, rfl⟩ := Int.eq_ofNat_of_zero_le hc.2.1
            obtain ⟨K, rfl⟩ := Int.eq_ofNat_of_zero_le hc.2.2.1
            have := run_subEntry (P := c.P) X Y K (by omega) w
            simp only [List.toArray, Int.toNat_natCast] at this ⊢
            rw [this]; rfl
          · cases e
        · cases e
      · cases e

theorem callee_sound (h : Rel c base w0 ρ H w) {env : AEnv} {a : Act} (he : EnvR ρ env a.tmps) {cl : Call} {r : ARes} {H' : AHeap} (e : acallee c H env cl = some (r, H')) (hf : H.length < H'.length → ρ (.own H.length) = none) (ty : TypeId) :
    ∃ ρ' n w', ((do let d ← resolve a.eval cl ty; invoke d.target d.args) : Sem Next).run c.P w = .ok n w' ∧ PRes ρ' r n ∧ Post c base w0 ρ H w ρ' H' w' := by
  simp only [acallee, Option.bind_eq_some_iff] at e
  obtain ⟨args, hargs, e⟩ := e
  have hx := avals_sound h he hargs
  have hmap : cl.args.map a.eval = (cl.args.toList.map a.eval).toArray := by apply Array.ext'; simp
  split at e
  · rename_i b hcal
    simp only [Option.map_eq_some_iff, Prod.mk.injEq] at e
    obtain ⟨⟨v, H2⟩, hb, rfl, rfl⟩ := e
    obtain ⟨ρ', u, w', h1, h2, h3⟩ := builtin_sound h hb hf hx ty (cl.args.map fun | .const _ => true | _ => false)
    refine ⟨ρ', .value u, w', ?_, h2, h3⟩
    simp only [Array.toArray_toList] at h1
    simp only [resolve, hcal, Sem.run_bind, Sem.run_pure, Result.andThen_ok, invoke, hmap]
    exact h1
  · rename_i g hcal
    simp only [Option.bind_eq_some_iff] at e
    obtain ⟨gv, hg, e⟩ := e
    have hgr := aval_sound h he hg
    split at e
    · rename_i f first captured
      split at e
      · rename_i hb
        cases e
        obtain ⟨xs, ys, hxs, hys, hgv⟩ := hgr
        refine ⟨ρ, .enter f (xs ++ cl.args.toList.map a.eval ++ ys).toArray, w, ?_, ⟨rfl, _, (hxs.append hx).append hys, rfl⟩, Post.refl h⟩
        simp only [resolve, hcal, Sem.run_bind, hgv, Deferred.ofValue, Sem.run_pure, Result.andThen_ok, invoke, callFunc_run hb, hmap]
        simp
      · simp only [Option.map_eq_some_iff, Prod.mk.injEq] at e
        obtain ⟨v, hv, rfl, rfl⟩ := e
        obtain ⟨xs, ys, hxs, hys, hgv⟩ := hgr
        obtain ⟨x, hx1, hx2⟩ := ext_sound hv ((hxs.append hx).append hys) w
        refine ⟨ρ, .value x, w, ?_, hx2, Post.refl h⟩
        simp only [resolve, hcal, Sem.run_bind, hgv, Deferred.ofValue, Sem.run_pure, Result.andThen_ok, invoke, hmap]
        rw [← hx1]
        simp
    · rename_i name first captured
      obtain ⟨xs, ys, hxs, hys, hgv⟩ := hgr
      have hall := hxs.append hx
      split at e
      · rename_i t v rest heq
        rw [heq] at hall
        obtain ⟨y, zs, hyz, ⟨y', hy', rfl⟩, hzs⟩ := hall
        simp only [Option.bind_eq_some_iff] at e
        obtain ⟨⟨f, rv⟩, hm, e⟩ := e
        obtain ⟨k, hk⟩ := depth_succ c.P
        obtain ⟨z, hz, hzr⟩ := method_sound h hm hy' k
        rw [← hk] at hz
        split at e
        · rename_i hb
          cases e
          refine ⟨ρ, .enter f (z :: zs).toArray, w, ?_, ⟨rfl, _, ⟨z, zs, rfl, hzr, hzs⟩, rfl⟩, Post.refl h⟩
          have hargs' : xs.toArray ++ (cl.args.toList.map a.eval).toArray = (.iface t y' :: zs).toArray := by rw [← hyz]; simp
          simp only [resolve, hcal, Sem.run_bind, hgv, Deferred.ofValue, Sem.run_pure, Result.andThen_ok, invoke, hmap, hargs']
          simp only [List.getElem?_toArray, List.getElem?_cons_zero, callMethod, Sem.run_bind, run_program, Result.andThen_ok, hz, callFunc_run hb]
          simp
        · cases e
      · cases e
    · cases e
  · rename_i recv name hcal
    simp only [Option.bind_eq_some_iff] at e
    obtain ⟨rv, hrv, e⟩ := e
    have hrr := aval_sound h he hrv
    split at e
    · rename_i t v
      obtain ⟨y', hy', hye⟩ := hrr
      simp only [Option.bind_eq_some_iff] at e
      obtain ⟨⟨f, rv'⟩, hm, e⟩ := e
      obtain ⟨k, hk⟩ := depth_succ c.P
      obtain ⟨z, hz, hzr⟩ := method_sound h hm hy' k
      rw [← hk] at hz
      split at e
      · rename_i hb
        cases e
        refine ⟨ρ, .enter f (z :: cl.args.toList.map a.eval).toArray, w, ?_, ⟨rfl, _, ⟨z, _, rfl, hzr, hx⟩, rfl⟩, Post.refl h⟩
        simp only [resolve, hcal, Sem.run_bind, Sem.run_pure, Result.andThen_ok, invoke, hmap, hye]
        simp only [List.append_toArray, List.cons_append, List.nil_append, List.getElem?_toArray, List.getElem?_cons_zero, callMethod, Sem.run_bind, run_program, Result.andThen_ok, hz, callFunc_run hb]
        simp
        exact List.take_of_length_le (by simp)
      · cases e
    · cases e

theorem parts_sound (h : Rel c base w0 ρ H w) {env : AEnv} {a : Act} (he : EnvR ρ env a.tmps) : ∀ {ps : List (Nat × Operand)} {l : List (Nat × AV)}, mapO (fun p : Nat × Operand => (aval env p.2).map fun v => (p.1, v)) ps = some l → PartsR ρ l (ps.map fun p => (p.1, a.eval p.2))
  | [], l, e => by simp [mapO] at e; subst e; exact .nil
  | (i, x) :: r, l, e => by
    simp only [mapO, Option.bind_eq_some_iff, Option.map_eq_some_iff, Option.some.injEq] at e
    obtain ⟨_, ⟨v, hv, rfl⟩, z, hz, rfl⟩ := e
    exact .cons (aval_sound h he hv) (parts_sound h he hz)

theorem optval_sound (h : Rel c base w0 ρ H w) {env : AEnv} {a : Act} (he : EnvR ρ env a.tmps) {x : Option Operand} {v : Option AV} (e : optval env x = some v) : OVR ρ v (x.map a.eval) := by
  cases x with
  | none => simp [optval] at e; subst e; trivial
  | some x =>
    simp only [optval, Option.map_eq_some_iff] at e
    obtain ⟨u, hu, rfl⟩ := e
    exact aval_sound h he hu

/-- THE OPERATIONS. -/
theorem op_sound (h : Rel c base w0 ρ H w) {env : AEnv} {a : Act} (he : EnvR ρ env a.tmps) {o : Oper} {r : ARes} {H' : AHeap} (e : aop c env o.op H = some (r, H')) (hf : H.length < H'.length → ρ (.own H.length) = none) :
    ∃ ρ' n w', (execOp a.eval o).run c.P w = .ok n w' ∧ PRes ρ' r n ∧ Post c base w0 ρ H w ρ' H' w' := by
  have one : ∀ {q : Option AV} {K : AHeap}, pair q K = some (r, H') → ∃ v, q = some v ∧ r = .val v ∧ H' = K := by
    intro q K hq
    simp only [pair, Option.map_eq_some_iff, Prod.mk.injEq] at hq
    obtain ⟨v, hv, rfl, rfl⟩ := hq
    exact ⟨v, hv, rfl, rfl⟩
  have two : ∀ {q : Option (AV × AHeap)}, both q = some (r, H') → ∃ v, q = some (v, H') ∧ r = .val v := by
    intro q hq
    simp only [both, Option.map_eq_some_iff, Prod.mk.injEq] at hq
    obtain ⟨⟨v, K⟩, hv, rfl, rfl⟩ := hq
    exact ⟨v, hv, rfl⟩
  have non : ∀ {q : Option AHeap}, done q = some (r, H') → q = some H' ∧ r = .skip := by
    intro q hq
    simp only [done, Option.map_eq_some_iff, Prod.mk.injEq] at hq
    obtain ⟨K, hv, rfl, rfl⟩ := hq
    exact ⟨hv, rfl⟩
  have still : ∀ {v : AV} {x : Value}, r = .val v → H' = H → (execOp a.eval o).run c.P w = .ok (.value x) w → VR ρ v x → ∃ ρ' n w', (execOp a.eval o).run c.P w = .ok n w' ∧ PRes ρ' r n ∧ Post c base w0 ρ H w ρ' H' w' := by
    intro v x hr hH hrun hv
    subst hr hH
    exact ⟨ρ, .value x, w, hrun, hv, Post.refl h⟩
  have hA : ∀ (x : Array Operand), x.map a.eval = (x.toList.map a.eval).toArray := by intro x; apply Array.ext'; simp
  unfold aop at e
  split at e
  · rename_i x hop
    obtain ⟨v, hv, hr, hH⟩ := one e
    exact still hr hH (by simp [execOp, hop]) (aval_sound h he hv)
  · rename_i x hop
    obtain ⟨v, hv, hr, hH⟩ := one e
    exact still hr hH (by simp [execOp, hop]) (aval_sound h he hv)
  · rename_i q x y hop
    simp only [Option.bind_eq_some_iff] at e
    obtain ⟨u, hu, e⟩ := e
    have hq := aval_sound h he hu
    split at e
    · rename_i t
      simp only [VR] at hq
      obtain ⟨v, hv, hr, hH⟩ := one e
      cases t with
      | true => exact still hr hH (by simp [execOp, hop, hq, asBool]) (aval_sound h he hv)
      | false => exact still hr hH (by simp [execOp, hop, hq, asBool]) (aval_sound h he hv)
    · cases e
  · rename_i t hop
    simp only [Option.bind_eq_some_iff] at e
    obtain ⟨z, hz, e⟩ := e
    obtain ⟨v, hv, rfl⟩ := two e
    have hlen : H.length < H'.length := by
      simp only [anew, Option.bind_eq_some_iff] at hv
      obtain ⟨_, _, hv⟩ := hv
      split at hv <;> cases hv; simp [hnew]
    obtain ⟨ρ', x, w', h1, h2, h3⟩ := alloc_sound h hz hv (hf hlen)
    exact ⟨ρ', .value x, w', by simp [execOp, hop, h1], h2, h3⟩
  · rename_i t x hop
    simp only [Option.bind_eq_some_iff] at e
    obtain ⟨u, hu, e⟩ := e
    obtain ⟨v, hv, rfl⟩ := two e
    have hlen : H.length < H'.length := by
      simp only [anew, Option.bind_eq_some_iff] at hv
      obtain ⟨_, _, hv⟩ := hv
      split at hv <;> cases hv; simp [hnew]
    obtain ⟨ρ', y, w', h1, h2, h3⟩ := box_sound h hv (hf hlen) (aval_sound h he hu)
    exact ⟨ρ', .value y, w', by simp [execOp, hop, h1], h2, h3⟩
  · rename_i t ps hop
    simp only [Option.bind_eq_some_iff] at e
    obtain ⟨l, hl, e⟩ := e
    obtain ⟨v, hv, hr, hH⟩ := one e
    have hp := parts_sound h he hl
    obtain ⟨y, hy, hvr⟩ := build_sound (c := c) hv (xs := ps.map fun (i, x) => (i, a.eval x)) (by simpa using hp) w
    exact still hr hH (by simp [execOp, hop, hy]) hvr
  · rename_i t n ps hop
    simp only [Option.bind_eq_some_iff] at e
    obtain ⟨l, hl, e⟩ := e
    obtain ⟨v, hv, rfl⟩ := two e
    have hp := parts_sound h he hl
    have hlen : H.length < H'.length := by
      simp only [abuildSlice, Option.bind_eq_some_iff] at hv
      obtain ⟨_, _, hv⟩ := hv
      split at hv
      · simp only [Option.bind_eq_some_iff] at hv
        obtain ⟨_, _, _, _, hv⟩ := hv
        split at hv
        · simp only [Option.map_eq_some_iff, Prod.mk.injEq] at hv
          obtain ⟨_, _, _, rfl⟩ := hv
          simp [hnew]
        · split at hv <;> cases hv; simp [hnew]
      · cases hv
    obtain ⟨ρ', y, w', h1, h2, h3⟩ := buildSlice_sound h hv (hf hlen) (xs := ps.map fun (i, x) => (i, a.eval x)) (by simpa using hp)
    exact ⟨ρ', .value y, w', by simp [execOp, hop, h1], h2, h3⟩
  · rename_i t x hop
    simp only [Option.bind_eq_some_iff] at e
    obtain ⟨u, hu, e⟩ := e
    obtain ⟨v, hv, hr, hH⟩ := one e
    obtain ⟨y, hy, hvr⟩ := load_sound h hv (aval_sound h he hu)
    exact still hr hH (by simp [execOp, hop, hy]) hvr
  · rename_i t x y hop
    simp only [Option.bind_eq_some_iff] at e
    obtain ⟨u, hu, v, hv, e⟩ := e
    obtain ⟨hH, rfl⟩ := non e
    obtain ⟨w', h1, h2⟩ := store_sound h hH (aval_sound h he hu) (aval_sound h he hv)
    exact ⟨ρ, .skip, w', by simp [execOp, hop, h1], trivial, h2⟩
  · rename_i x hop
    simp only [Option.bind_eq_some_iff] at e
    obtain ⟨u, hu, e⟩ := e
    have hq := aval_sound h he hu
    split at e
    · cases e
      obtain ⟨p, hp, hx⟩ := hq
      exact still rfl rfl (x := .pointer (some ⟨p.b, p.off + _, none⟩)) (by simp [execOp, hop, hx]) ⟨p, hp, rfl⟩
    · cases e
      obtain ⟨xs, ys, hxs, hys, hx⟩ := hq
      exact still rfl rfl (x := .func (.func _) xs.toArray ys.toArray) (by simp [execOp, hop, hx]) ⟨xs, ys, hxs, hys, rfl⟩
    · cases e
      obtain ⟨y, hy, hx⟩ := hq
      exact still rfl rfl (x := .iface _ y) (by simp [execOp, hop, hx]) ⟨y, hy, rfl⟩
    · cases e
  · rename_i op t x y yt hop
    simp only [Option.bind_eq_some_iff] at e
    obtain ⟨u, hu, v, hv, e⟩ := e
    obtain ⟨q, hq, hr, hH⟩ := one e
    obtain ⟨z, hz, hvr⟩ := bin_sound (c := c) hq (aval_sound h he hu) (aval_sound h he hv) x y w
    exact still hr hH (by simp only [execOp, hop, Sem.run_bind, hz, Result.andThen_ok, Sem.run_pure]) hvr
  · rename_i op t x hop
    simp only [Option.bind_eq_some_iff] at e
    obtain ⟨u, hu, e⟩ := e
    obtain ⟨q, hq, hr, hH⟩ := one e
    obtain ⟨z, hz, hvr⟩ := un_sound (c := c) hq (aval_sound h he hu) w
    exact still hr hH (by simp [execOp, hop, hz]) hvr
  · rename_i src dst x hop
    simp only [Option.bind_eq_some_iff] at e
    obtain ⟨u, hu, e⟩ := e
    obtain ⟨q, hq, hr, hH⟩ := one e
    obtain ⟨z, hz, hvr⟩ := conv_sound (c := c) hq (aval_sound h he hu) w
    exact still hr hH (by simp [execOp, hop, hz]) hvr
  · rename_i t x hop
    simp only [Option.bind_eq_some_iff] at e
    obtain ⟨u, hu, d, hd, e⟩ := e
    split at e
    · cases e
    · rename_i hni
      cases e
      refine still rfl rfl (x := .iface t (a.eval x)) ?_ ⟨_, aval_sound h he hu, rfl⟩
      simp only [execOp, hop, Sem.run_bind, Instr.makeInterface, run_underlying hd, Result.andThen_ok]
      cases d <;> first | rfl | exact absurd rfl (hni _)
  · rename_i fn first captured hop
    simp only [Option.bind_eq_some_iff] at e
    obtain ⟨l1, hl1, l2, hl2, e⟩ := e
    cases e
    refine still rfl rfl (x := .func fn (first.map a.eval) (captured.map a.eval)) (by simp [execOp, hop, Instr.makeFunc]) ⟨_, _, avals_sound h he hl1, avals_sound h he hl2, by rw [hA, hA]⟩
  · rename_i t rsv hop
    have mk : (r, H') = (.val (.map (fresh H)), hnew H (.map [] 0)) → (execOp a.eval o).run c.P w = .ok (.value (.map (some w.heap.size))) (w.alloc (.map #[] 0)) → ∃ ρ' n w', (execOp a.eval o).run c.P w = .ok n w' ∧ PRes ρ' r n ∧ Post c base w0 ρ H w ρ' H' w' := by
      intro hq hrun
      cases hq
      have hf' := hf (by simp [hnew])
      exact ⟨upd ρ (.own H.length) ⟨w.heap.size, 0, 0⟩, _, _, hrun, ⟨_, upd_same _ _ _, rfl⟩, post_new h hf' _ ⟨w.heap.size, 0, 0⟩ _ rfl ⟨#[], heap_alloc_new w _, .nil⟩⟩
    split at e
    · cases e
      exact mk rfl (by simp [execOp, hop, Instr.makeMap])
    · rename_i hh
      simp only [Option.bind_eq_some_iff] at e
      obtain ⟨v, hv, d, hd, e⟩ := e
      have hq := aval_sound h he hv
      split at e
      · cases e
        simp only [VR] at hq
        exact mk rfl (by simp [execOp, hop, Instr.makeMap, run_underlying hd, hq, asInt, asIntOf])
      · cases e
  · rename_i t l m hop
    simp only [Option.bind_eq_some_iff] at e
    obtain ⟨u, hu, v, hv, e⟩ := e
    obtain ⟨q, hq, rfl⟩ := two e
    have hlen : H.length < H'.length := by
      unfold amakeSlice at hq
      split at hq
      · simp only [Option.bind_eq_some_iff] at hq
        obtain ⟨_, _, hq⟩ := hq
        split at hq
        · simp only [Option.bind_eq_some_iff] at hq
          obtain ⟨_, _, _, _, hq⟩ := hq
          split at hq <;> cases hq; simp [hnew]
        · cases hq
      · cases hq
    obtain ⟨ρ', y, w', h1, h2, h3⟩ := makeSlice_sound h hq (hf hlen) (aval_sound h he hu) (aval_sound h he hv)
    exact ⟨ρ', .value y, w', by simp [execOp, hop, h1], h2, h3⟩
  · rename_i t x lo hi mx hop
    simp only [Option.bind_eq_some_iff] at e
    obtain ⟨u, hu, l1, hl1, l2, hl2, l3, hl3, e⟩ := e
    obtain ⟨q, hq, rfl⟩ := two e
    obtain ⟨ρ', y, w', h1, h2, h3⟩ := slice_sound h hq hf (aval_sound h he hu) (optval_sound h he hl1) (optval_sound h he hl2) (optval_sound h he hl3)
    exact ⟨ρ', .value y, w', by simp [execOp, hop, h1], h2, h3⟩
  · rename_i s x f hop
    simp only [Option.bind_eq_some_iff] at e
    obtain ⟨u, hu, e⟩ := e
    obtain ⟨q, hq, hr, hH⟩ := one e
    obtain ⟨z, hz, hvr⟩ := fieldAddr_sound (c := c) hq (aval_sound h he hu) w
    exact still hr hH (by simp [execOp, hop, hz]) hvr
  · rename_i s x f hop
    simp only [Option.bind_eq_some_iff] at e
    obtain ⟨u, hu, e⟩ := e
    obtain ⟨q, hq, hr, hH⟩ := one e
    obtain ⟨z, hz, hvr⟩ := field_sound (c := c) hq (aval_sound h he hu) w
    exact still hr hH (by simp [execOp, hop, hz]) hvr
  · rename_i s x y hop
    simp only [Option.bind_eq_some_iff] at e
    obtain ⟨u, hu, v, hv, e⟩ := e
    obtain ⟨q, hq, hr, hH⟩ := one e
    obtain ⟨z, hz, hvr⟩ := indexAddr_sound (c := c) hq (aval_sound h he hu) (aval_sound h he hv) w
    exact still hr hH (by simp [execOp, hop, hz]) hvr
  · rename_i s x y hop
    simp only [Option.bind_eq_some_iff] at e
    obtain ⟨u, hu, v, hv, e⟩ := e
    obtain ⟨q, hq, hr, hH⟩ := one e
    obtain ⟨z, hz, hvr⟩ := index_sound (c := c) hq (aval_sound h he hu) (aval_sound h he hv) w
    exact still hr hH (by simp [execOp, hop, hz]) hvr
  · rename_i t m k ok hop
    simp only [Option.bind_eq_some_iff] at e
    obtain ⟨u, hu, v, hv, e⟩ := e
    obtain ⟨q, hq, hr, hH⟩ := one e
    obtain ⟨z, hz, hvr⟩ := lookup_sound h hq (aval_sound h he hu) (aval_sound h he hv)
    exact still hr hH (by simp [execOp, hop, hz]) hvr
  · rename_i t m k x hop
    simp only [Option.bind_eq_some_iff] at e
    obtain ⟨u, hu, v, hv, y, hy, e⟩ := e
    obtain ⟨hH, rfl⟩ := non e
    obtain ⟨w', h1, h2⟩ := mapUpdate_sound h hH (aval_sound h he hu) (aval_sound h he hv) (aval_sound h he hy)
    exact ⟨ρ, .skip, w', by simp [execOp, hop, h1], trivial, h2⟩
  · rename_i t m k x hop
    simp only [Option.bind_eq_some_iff] at e
    obtain ⟨u, hu, v, hv, y, hy, e⟩ := e
    obtain ⟨hH, rfl⟩ := non e
    obtain ⟨w', h1, h2⟩ := mapUpdate_sound h hH (aval_sound h he hu) (aval_sound h he hv) (aval_sound h he hy)
    exact ⟨ρ, .skip, w', by simp [execOp, hop, h1], trivial, h2⟩
  · rename_i t m k hop
    simp only [Option.bind_eq_some_iff] at e
    obtain ⟨u, hu, v, hv, e⟩ := e
    obtain ⟨q, hq, rfl⟩ := two e
    obtain ⟨y, w', h1, h2, h3⟩ := mapEntry_sound h hq (aval_sound h he hu) (aval_sound h he hv)
    exact ⟨ρ, .value y, w', by simp [execOp, hop, h1], h2, h3⟩
  · rename_i t m k x hop
    simp only [Option.bind_eq_some_iff] at e
    obtain ⟨u, hu, v, hv, y, hy, e⟩ := e
    obtain ⟨hH, rfl⟩ := non e
    obtain ⟨w', h1, h2⟩ := entryStore_sound h t hH (aval_sound h he hu) (aval_sound h he hv) (aval_sound h he hy)
    exact ⟨ρ, .skip, w', by simp [execOp, hop, h1], trivial, h2⟩
  · rename_i x xt t ok hop
    simp only [Option.bind_eq_some_iff] at e
    obtain ⟨u, hu, d, hd, e⟩ := e
    have hq := aval_sound h he hu
    split at e
    · cases e
    · rename_i u' w2 hni
      obtain ⟨y, hy, hx⟩ := hq
      split at e
      · rename_i hut
        subst hut
        cases e
        cases ok with
        | true =>
          refine still rfl rfl (x := .tuple #[y, .bool true]) ?_ ⟨[y, .bool true], ⟨y, [.bool true], rfl, hy, .bool true, [], rfl, rfl, rfl⟩, rfl⟩
          simp only [execOp, hop, hx, Sem.run_bind, Instr.typeAssert, run_underlying hd, Result.andThen_ok]
          cases d <;> first | (simp; done) | exact absurd rfl (hni _)
        | false =>
          refine still rfl rfl (x := y) ?_ hy
          simp only [execOp, hop, hx, Sem.run_bind, Instr.typeAssert, run_underlying hd, Result.andThen_ok]
          cases d <;> first | (simp; done) | exact absurd rfl (hni _)
      · rename_i hut
        split at e
        · rename_i hok
          subst hok
          simp only [Option.map_eq_some_iff, Prod.mk.injEq] at e
          obtain ⟨z, hz, rfl, rfl⟩ := e
          obtain ⟨zz, hzz, hv⟩ := zeroAV_run (c := c) (ρ := ρ) hz w
          refine still rfl rfl (x := .tuple #[zz, .bool false]) ?_ ⟨[zz, .bool false], ⟨zz, [.bool false], rfl, hv, .bool false, [], rfl, rfl, rfl⟩, rfl⟩
          simp only [execOp, hop, hx, Sem.run_bind, Instr.typeAssert, run_underlying hd, Result.andThen_ok]
          cases d <;> first | (simp [hut, hzz]; done) | exact absurd rfl (hni _)
        · cases e
    · rename_i hni
      simp only [VR] at hq
      split at e
      · rename_i hok
        subst hok
        simp only [Option.map_eq_some_iff, Prod.mk.injEq] at e
        obtain ⟨z, hz, rfl, rfl⟩ := e
        obtain ⟨zz, hzz, hv⟩ := zeroAV_run (c := c) (ρ := ρ) hz w
        refine still rfl rfl (x := .tuple #[zz, .bool false]) ?_ ⟨[zz, .bool false], ⟨zz, [.bool false], rfl, hv, .bool false, [], rfl, rfl, rfl⟩, rfl⟩
        simp only [execOp, hop, hq, Sem.run_bind, Instr.typeAssert, run_underlying hd, Result.andThen_ok]
        cases d <;> first | (simp [hzz]; done) | exact absurd rfl (hni _)
      · cases e
    · cases e
  · rename_i x i hop
    simp only [Option.bind_eq_some_iff] at e
    obtain ⟨u, hu, e⟩ := e
    have hq := aval_sound h he hu
    split at e
    · obtain ⟨v, hv, hr, hH⟩ := one e
      obtain ⟨z, hz, hvr⟩ := extract_sound (c := c) hv hq w
      exact still hr hH (by simp [execOp, hop, hz]) hvr
    · cases e
  · rename_i cl hop
    obtain ⟨ρ', n, w', h1, h2, h3⟩ := callee_sound h he e hf o.type
    exact ⟨ρ', n, w', by simpa [execOp, hop] using h1, h2, h3⟩
  · cases e

end Go.AM

/-
  CODE AND CALLS (own work): 'calls_sound': what the abstract machine tells of a call is so in the model, in whatever order a region's operations are run.
-/
namespace Go.AM
open Go.RowKit
set_option linter.unusedSimpArgs false

variable {c : Ctx} {base : Nat} {w0 w : World} {ρ : Pl} {H : AHeap}

def Fresh (ρ : Pl) (H : AHeap) : Prop := ∀ i, H.length ≤ i → ρ (.own i) = none

theorem Post.fresh {ρ' : Pl} {H' : AHeap} {w' : World} (h : Post c base w0 ρ H w ρ' H' w') (hf : Fresh ρ H) : Fresh ρ' H' := by
  intro i hi
  cases hq : ρ' (.own i) with
  | none => rfl
  | some p =>
    rcases h.new _ p hq with e | ⟨j, hj, _, hlt⟩
    · rw [hf i (Nat.le_trans h.len hi)] at e; cases e
    · cases hj; omega

/-- what is known of the functions called -/
def CallOK (c : Ctx) (base : Nat) (w0 : World) (call : Callee) : Prop :=
  ∀ f args H v H', call f args H = some (v, H') → ∀ ρ w xs, Rel c base w0 ρ H w → Fresh ρ H → VRs ρ args xs →
    Calls c.P f xs.toArray w fun e w' => ∃ ρ' x, e = .returned x ∧ VR ρ' v x ∧ Post c base w0 ρ H w ρ' H' w'

def Tr.fits : Nat → Nat → Bool
  | 0, _ => false
  | _ + 1, 0 => true
  | d + 1, q + 1 => Tr.fits d (q / 2)

theorem Tr.get_same {v : Option AV} : ∀ {d t : Nat} {x : Tr}, Tr.get d t (Tr.set v d t x) = if Tr.fits d t then v else none
  | 0, t, x => by simp [Tr.get, Tr.fits]
  | d + 1, 0, .leaf => by simp [Tr.set, Tr.get, Tr.fits]
  | d + 1, 0, .node u l r => by simp [Tr.set, Tr.get, Tr.fits]
  | d + 1, q + 1, .leaf => by
    simp only [Tr.set, Tr.fits]
    cases hq : Nat.beq (q % 2) 1 with
    | true => simp only [Tr.get, hq]; exact Tr.get_same
    | false => simp only [Tr.get, hq]; exact Tr.get_same
  | d + 1, q + 1, .node u l r => by
    simp only [Tr.set, Tr.fits]
    cases hq : Nat.beq (q % 2) 1 with
    | true => simp only [Tr.get, hq]; exact Tr.get_same
    | false => simp only [Tr.get, hq]; exact Tr.get_same

theorem half_ne {q p : Nat} (h : q ≠ p) (hb : Nat.beq (q % 2) 1 = Nat.beq (p % 2) 1) : q / 2 ≠ p / 2 := by
  intro e
  have h1 : q % 2 = p % 2 := by
    rcases Nat.mod_two_eq_zero_or_one q with a | a <;> rcases Nat.mod_two_eq_zero_or_one p with b | b <;> rw [a, b] at hb <;> simp_all
  omega

theorem Tr.get_leaf : ∀ (d t : Nat), Tr.get d t .leaf = none
  | 0, _ => rfl
  | _ + 1, _ => rfl

theorem Tr.get_other {v : Option AV} : ∀ {d t u : Nat} {x : Tr}, u ≠ t → Tr.get d u (Tr.set v d t x) = Tr.get d u x
  | 0, t, u, x, h => by simp [Tr.get]
  | d + 1, 0, 0, x, h => absurd rfl h
  | d + 1, 0, p + 1, .leaf, h => by
    simp only [Tr.set, Tr.get]
    cases Nat.beq (p % 2) 1 <;> simp [Tr.get_leaf]
  | d + 1, 0, p + 1, .node w l r, h => by simp only [Tr.set, Tr.get]
  | d + 1, q + 1, 0, .leaf, h => by
    simp only [Tr.set]
    cases Nat.beq (q % 2) 1 <;> simp [Tr.get]
  | d + 1, q + 1, 0, .node w l r, h => by
    simp only [Tr.set]
    cases Nat.beq (q % 2) 1 <;> simp [Tr.get]
  | d + 1, q + 1, p + 1, .leaf, h => by
    simp only [Tr.set]
    cases hq : Nat.beq (q % 2) 1 <;> cases hp : Nat.beq (p % 2) 1 <;> simp only [Tr.get, hp, Tr.get_leaf]
    · rw [Tr.get_other (half_ne (by omega) (hp.trans hq.symm))]; exact Tr.get_leaf _ _
    · rw [Tr.get_other (half_ne (by omega) (hp.trans hq.symm))]; exact Tr.get_leaf _ _
  | d + 1, q + 1, p + 1, .node w l r, h => by
    simp only [Tr.set]
    cases hq : Nat.beq (q % 2) 1 <;> cases hp : Nat.beq (p % 2) 1 <;> simp only [Tr.get, hp]
    · exact Tr.get_other (half_ne (by omega) (hp.trans hq.symm))
    · exact Tr.get_other (half_ne (by omega) (hp.trans hq.symm))

theorem eput_size (env : AEnv) (d : Option Tmp) (v : Option AV) : (eput env d v).size = env.size := by
  cases d with
  | none => rfl
  | some t => simp only [eput]; cases Nat.blt t env.size <;> rfl

theorem eget_tr {env : AEnv} {t : Nat} {v : AV} (h : eget env t = some v) : Nat.blt t env.size = true ∧ Tr.get 20 t env.tr = some v := by
  unfold eget at h
  split at h
  · rename_i hb; exact ⟨hb, h⟩
  · cases h

theorem eput_ne {env : AEnv} {d : Option Tmp} {v : Option AV} {t : Tmp} (h : d ≠ some t) : eget (eput env d v) t = eget env t := by
  cases d with
  | none => rfl
  | some s =>
    simp only [eput]
    cases Nat.blt s env.size with
    | false => rfl
    | true =>
      simp only [eget]
      rw [Tr.get_other (fun e => h (by rw [e]))]

theorem eput_eq {env env' : AEnv} (hl : env.size = env'.size) {v : Option AV} {t : Tmp} : eget (eput env (some t) v) t = eget (eput env' (some t) v) t := by
  simp only [eput, ← hl]
  cases hb : Nat.blt t env.size with
  | true => simp only [eget, hb, Tr.get_same]
  | false =>
    have hb' : Nat.blt t env'.size = false := by rw [← hl]; exact hb
    simp only [eget, hb, hb']

theorem EnvR.put {env : AEnv} {a : Act} (h : EnvR ρ env a.tmps) (d : Option Tmp) {v : Option AV} {x : Value} (hv : ∀ u, v = some u → VR ρ u x) : EnvR ρ (eput env d v) (a.put d x).tmps := by
  cases d with
  | none => exact h
  | some t =>
    refine ⟨by rw [eput_size]; simp [Act.put, h.1], fun s u hs => ?_⟩
    simp only [Act.put, Array.getElem?_setIfInBounds]
    by_cases hst : t = s
    · subst hst
      obtain ⟨hb, hg⟩ := eget_tr hs
      rw [eput_size] at hb
      have hlt := hb
      rw [Nat.blt_eq] at hlt
      rw [if_pos rfl, if_pos (by rw [← h.1]; exact hlt)]
      refine ⟨x, rfl, hv u ?_⟩
      simp only [eput, hb, Tr.get_same] at hg
      split at hg
      · exact hg
      · cases hg
    · rw [if_neg hst]
      rw [eput_ne (fun e => hst (by cases e; rfl))] at hs
      exact h.2 s u hs

/-- two environments that tell the same -/
def EnvEq (a b : AEnv) : Prop := a.size = b.size ∧ ∀ t, eget a t = eget b t

theorem EnvR.congr {a b : AEnv} {tmps : Array Value} (h : EnvR ρ a tmps) (e : EnvEq a b) : EnvR ρ b tmps :=
  ⟨e.1 ▸ h.1, fun t v hv => h.2 t v (by rw [e.2]; exact hv)⟩

theorem argsTr_get : ∀ {l : List AV} {i : Nat} {x : Tr} {t : Nat} {v : AV}, Tr.get 20 t (argsTr l i x) = some v → (i ≤ t ∧ l[t - i]? = some v) ∨ Tr.get 20 t x = some v
  | [], i, x, t, v, h => .inr h
  | u :: r, i, x, t, v, h => by
    rcases argsTr_get (l := r) h with ⟨h1, h2⟩ | h1
    · refine .inl ⟨by omega, ?_⟩
      rw [show t - i = (t - (i + 1)) + 1 by omega]
      simpa using h2
    · by_cases hti : t = i
      · subst hti
        rw [Tr.get_same] at h1
        split at h1
        · exact .inl ⟨Nat.le_refl _, by simpa using h1⟩
        · cases h1
      · rw [Tr.get_other hti] at h1
        exact .inr h1

theorem undef_r (ρ : Pl) : VR ρ .undef undef := ⟨[], rfl, rfl⟩

theorem yield_sound {env : AEnv} {tmps : Array Value} (he : EnvR ρ env tmps) {ops : List Oper} {j : Nat} {b : Option Bool} (e : ayield ops env j = some b) : yielded ops.toArray tmps j = b := by
  unfold ayield at e
  split at e
  · rename_i t ht
    have ht' : ((ops.toArray[j]?).bind fun o : Oper => o.dst) = some t := by simpa using ht
    split at e
    · rename_i b' hb
      cases e
      obtain ⟨x, hx, hv⟩ := he.2 t _ hb
      simp only [VR] at hv; subst hv
      have hb2 : (((ops.toArray[j]?).bind fun o : Oper => o.dst).bind fun t => tmps[t]?) = some (.bool b') := by rw [ht']; exact hx
      unfold yielded
      rw [hb2]
    · rename_i hb
      cases e
      obtain ⟨x, hx, xs, hxs, hv⟩ := he.2 t _ hb
      subst hv
      have hb2 : (((ops.toArray[j]?).bind fun o : Oper => o.dst).bind fun t => tmps[t]?) = some (.tuple xs.toArray) := by rw [ht']; exact hx
      unfold yielded
      rw [hb2]
    · cases e
  · cases e

theorem wanted_sound {env : AEnv} {tmps : Array Value} (he : EnvR ρ env tmps) {ops : List Oper} {o : Oper} {b : Bool} (e : awanted ops env o = some b) : Region.wanted o (yielded ops.toArray tmps) = b := by
  unfold awanted at e
  unfold Region.wanted
  split at e
  · rename_i hg; cases e; rw [hg]
  · rename_i j want hg
    simp only [Option.map_eq_some_iff] at e
    obtain ⟨b', hb, rfl⟩ := e
    rw [hg]
    simp only [yield_sound he hb]

/-- what comes behind an operation -/
def After (c : Ctx) (base : Nat) (w0 : World) (ρ : Pl) (H : AHeap) (w : World) (a : Act) (env' : AEnv) (H' : AHeap) (a' : Act) (w' : World) : Prop :=
  a'.defers = a.defers ∧ ∃ ρ', Post c base w0 ρ H w ρ' H' w' ∧ EnvR ρ' env' a'.tmps

/-- AN OPERATION OF A REGION. -/
theorem step_sound {call : Callee} (hc : CallOK c base w0 call) (h : Rel c base w0 ρ H w) (hf : Fresh ρ H) {env env' : AEnv} {a : Act} (he : EnvR ρ env a.tmps) {ops : List Oper} {i : Nat} {o : Oper} (ho : ops[i]? = some o) {H' : AHeap}
    (e : astep c call ops o env H = some (env', H')) {Q : Exit → Act → World → Prop} {K : Act → World → Prop} (hK : ∀ a' w', After c base w0 ρ H w a env' H' a' w' → K a' w') : wpOp c.P ops.toArray Q i K a w := by
  have ho' : ops.toArray[i]? = some o := by simpa using ho
  simp only [astep, Option.bind_eq_some_iff] at e
  obtain ⟨b, hb, e⟩ := e
  have hw := wanted_sound he hb
  simp only [wpOp, ho']
  cases b with
  | false =>
    simp only [Bool.false_eq_true, if_false, Option.some.injEq, Prod.mk.injEq] at e
    obtain ⟨rfl, rfl⟩ := e
    rw [hw, if_neg (by simp)]
    exact hK _ _ ⟨by cases o.dst <;> rfl, ρ, Post.refl h, he.put _ (fun u hu => by cases hu; exact undef_r ρ)⟩
  | true =>
    simp only [if_true, Option.bind_eq_some_iff] at e
    obtain ⟨⟨r, H1⟩, hr, e⟩ := e
    obtain ⟨ρ1, n, w1, hrun, hres, hpost⟩ := op_sound h he hr (fun _ => hf _ (Nat.le_refl _))
    rw [hw, if_pos rfl]
    refine .inl ?_
    unfold Oper.wp
    rw [hrun]
    cases r with
    | val v =>
      cases e
      cases n <;> simp only [PRes] at hres
      rename_i x
      exact hK _ _ ⟨by cases o.dst <;> rfl, ρ1, hpost, (he.mono hpost.ext).put _ (fun u hu => by cases hu; exact hres)⟩
    | skip =>
      cases e
      cases n <;> simp only [PRes] at hres
      exact hK _ _ ⟨by cases o.dst <;> rfl, ρ1, hpost, (he.mono hpost.ext).put _ (fun u hu => by cases hu; exact undef_r ρ1)⟩
    | call f args =>
      cases n <;> simp only [PRes] at hres
      rename_i g xs
      obtain ⟨rfl, l, hl, rfl⟩ := hres
      simp only [Option.bind_eq_some_iff] at e
      obtain ⟨⟨v, H2⟩, hv, e⟩ := e
      cases e
      refine Calls.mono (hc f args H1 v H2 hv ρ1 w1 l hpost.rel (hpost.fresh hf) hl) ?_
      rintro e' w' ⟨ρ', x, rfl, hvr, hp2⟩
      exact hK _ _ ⟨by cases o.dst <;> rfl, ρ', hpost.trans hp2, ((he.mono hpost.ext).mono hp2.ext).put _ (fun u hu => by cases hu; exact hvr)⟩

theorem After.trans {a a' a'' : Act} {env'' : AEnv} {H' H'' : AHeap} {w' w'' : World} {ρ' : Pl} (h : Post c base w0 ρ H w ρ' H' w') (hd : a'.defers = a.defers) (k : After c base w0 ρ' H' w' a' env'' H'' a'' w'') : After c base w0 ρ H w a env'' H'' a'' w'' := by
  obtain ⟨h1, ρ'', h2, h3⟩ := k
  exact ⟨h1.trans hd, ρ'', h.trans h2, h3⟩

/-- A region that draws nothing. -/
theorem steps_sound {call : Callee} (hc : CallOK c base w0 call) {ops : List Oper} {Q : Exit → Act → World → Prop} : ∀ (r : List Oper) (i : Nat) {ρ : Pl} {H H' : AHeap} {w : World} {env env' : AEnv} {a : Act}, ops.drop i = r →
    Rel c base w0 ρ H w → Fresh ρ H → EnvR ρ env a.tmps → asteps c call ops r env H = some (env', H') → (∀ a' w', After c base w0 ρ H w a env' H' a' w' → Q .normal a' w') →
    wpOps c.P ops.toArray Q (List.range' i r.length) a w
  | [], i, ρ, H, H', w, env, env', a, _, h, hf, he, e, hQ => by
    simp only [asteps, Option.some.injEq, Prod.mk.injEq] at e
    obtain ⟨rfl, rfl⟩ := e
    exact hQ a w ⟨rfl, ρ, Post.refl h, he⟩
  | o :: r, i, ρ, H, H', w, env, env', a, hdr, h, hf, he, e, hQ => by
    simp only [asteps, Option.bind_eq_some_iff] at e
    obtain ⟨⟨env1, H1⟩, h1, e⟩ := e
    have ho : ops[i]? = some o := by
      have := congrArg (fun l => l[0]?) hdr
      simpa using this
    rw [List.length_cons, List.range'_succ, wpOps_cons]
    refine step_sound hc h hf he ho h1 ?_
    rintro a1 w1 ⟨hd, ρ1, hp, he1⟩
    refine steps_sound hc r (i + 1) (by rw [← List.drop_drop, hdr]; rfl) hp.rel (hp.fresh hf) he1 e ?_
    intro a2 w2 h2
    exact hQ a2 w2 (h2.trans hp hd)

/-! code -/

def AExit.conv : AExit → Exit
  | .normal => .normal
  | .exit id => .exit id
  | .ret => .ret

/-- what comes behind code -/
def Behind (c : Ctx) (base : Nat) (w0 : World) (ρ : Pl) (H : AHeap) (w : World) (a : Act) (e : AExit) (env' : AEnv) (H' : AHeap) : Exit → Act → World → Prop :=
  fun x a' w' => x = e.conv ∧ After c base w0 ρ H w a env' H' a' w'

/-- what is known of regions that draw their order -/
def DrawOKs (c : Ctx) (base : Nat) (w0 : World) (dr : DrawOk) (call : Callee) : Prop :=
  ∀ (id : Nat) (ops : Array Oper) (env env' : AEnv) (H H' : AHeap), dr c call ops.toList env H = some (env', H') →
    ∀ ρ w a, Rel c base w0 ρ H w → Fresh ρ H → EnvR ρ env a.tmps → (Code.region id ops true).wp c.P (Behind c base w0 ρ H w a .normal env' H') a w

theorem rounds_mono {P : Program} {body : Code} {Q Q' : Exit → Act → World → Prop} (h : ∀ x a w, Q x a w → Q' x a w) : ∀ (n : Nat) (a : Act) (w : World), Code.rounds P body Q n a w → Code.rounds P body Q' n a w
  | 0, _, _, hr => hr
  | n + 1, a, w, hr => by
    rw [rounds_succ] at hr ⊢
    refine wp_mono hr ?_
    intro x a1 w1 hq
    cases x with
    | normal => exact rounds_mono h n a1 w1 hq
    | _ => exact h _ _ _ hq

theorem loop_sound {body : Code} {f : AEnv → AHeap → Option ASt}
    (hb : ∀ {ρ : Pl} {H H' : AHeap} {w : World} {env env' : AEnv} {a : Act} {e : AExit}, Rel c base w0 ρ H w → Fresh ρ H → EnvR ρ env a.tmps → f env H = some (e, env', H') → body.wp c.P (Behind c base w0 ρ H w a e env' H') a w) :
    ∀ (n : Nat) {ρ : Pl} {H H' : AHeap} {w : World} {env env' : AEnv} {a : Act} {e : AExit}, Rel c base w0 ρ H w → Fresh ρ H → EnvR ρ env a.tmps → loopN f n env H = some (e, env', H') →
      Code.rounds c.P body (Behind c base w0 ρ H w a e env' H') n a w
  | 0, ρ, H, H', w, env, env', a, e, _, _, _, h => by simp [loopN] at h
  | n + 1, ρ, H, H', w, env, env', a, e, h, hf, he, hl => by
    simp only [loopN, Option.bind_eq_some_iff] at hl
    obtain ⟨⟨e1, env1, H1⟩, h1, hl⟩ := hl
    rw [rounds_succ]
    refine wp_mono (hb h hf he h1) ?_
    rintro x a1 w1 ⟨rfl, hd, ρ1, hp, he1⟩
    cases e1 with
    | normal =>
      refine (fun hr => ?_ : Code.rounds c.P body (Behind c base w0 ρ1 H1 w1 a1 e env' H') n a1 w1 → _) (loop_sound hb n hp.rel (hp.fresh hf) he1 hl)
      exact rounds_mono (fun x a2 w2 hq => ⟨hq.1, hq.2.trans hp hd⟩) n a1 w1 hr
    | exit id =>
      cases hl
      exact ⟨rfl, hd, ρ1, hp, he1⟩
    | ret =>
      cases hl
      exact ⟨rfl, hd, ρ1, hp, he1⟩
theorem code_sound {dr : DrawOk} {call : Callee} (hc : CallOK c base w0 call) (hd : DrawOKs c base w0 dr call) (lf : Nat) : ∀ (code : Code) {ρ : Pl} {H H' : AHeap} {w : World} {env env' : AEnv} {a : Act} {e : AExit},
    Rel c base w0 ρ H w → Fresh ρ H → EnvR ρ env a.tmps → acode c dr call lf code env H = some (e, env', H') → code.wp c.P (Behind c base w0 ρ H w a e env' H') a w
  | .skip, ρ, H, H', w, env, env', a, e, h, hf, he, hr => by
    simp only [acode, Option.some.injEq, Prod.mk.injEq] at hr
    obtain ⟨rfl, rfl, rfl⟩ := hr
    exact wp_skip ⟨rfl, rfl, ρ, Post.refl h, he⟩
  | .region id ops draw, ρ, H, H', w, env, env', a, e, h, hf, he, hr => by
    simp only [acode] at hr
    simp only [Option.bind_eq_some_iff, Option.some.injEq, Prod.mk.injEq] at hr
    obtain ⟨⟨env1, H1⟩, h1, rfl, rfl, rfl⟩ := hr
    cases draw with
    | true =>
      exact hd id ops env env1 H H1 (by simpa using h1) ρ w a h hf he
    | false =>
      refine wp_region ?_
      have := steps_sound (Q := Behind c base w0 ρ H w a .normal env1 H1) hc (ops := ops.toList) ops.toList 0 rfl h hf he (by simpa using h1) (fun a' w' ha => ⟨rfl, ha⟩)
      rw [List.range_eq_range']
      simpa using this
  | .seq x y, ρ, H, H', w, env, env', a, e, h, hf, he, hr => by
    simp only [acode, Option.bind_eq_some_iff] at hr
    obtain ⟨⟨e1, env1, H1⟩, h1, hr⟩ := hr
    refine wp_seq (wp_mono (code_sound hc hd lf x h hf he h1) ?_)
    rintro q a1 w1 ⟨rfl, hdf, ρ1, hp, he1⟩
    cases e1 with
    | normal =>
      refine wp_mono (code_sound hc hd lf y hp.rel (hp.fresh hf) he1 hr) ?_
      rintro q a2 w2 ⟨rfl, h2⟩
      exact ⟨rfl, h2.trans hp hdf⟩
    | exit id => cases hr; exact ⟨rfl, hdf, ρ1, hp, he1⟩
    | ret => cases hr; exact ⟨rfl, hdf, ρ1, hp, he1⟩
  | .cond q x y, ρ, H, H', w, env, env', a, e, h, hf, he, hr => by
    simp only [acode, Option.bind_eq_some_iff] at hr
    obtain ⟨v, hv, hr⟩ := hr
    have hq := aval_sound h he hv
    split at hr
    · rename_i t
      simp only [VR] at hq
      refine wp_cond hq ?_
      cases t with
      | true => exact code_sound hc hd lf x h hf he (by simpa using hr)
      | false => exact code_sound hc hd lf y h hf he (by simpa using hr)
    · cases hr
  | .block id b, ρ, H, H', w, env, env', a, e, h, hf, he, hr => by
    simp only [acode, Option.bind_eq_some_iff] at hr
    obtain ⟨⟨e1, env1, H1⟩, h1, hr⟩ := hr
    refine wp_block (wp_mono (code_sound hc hd lf b h hf he h1) ?_)
    rintro q a1 w1 ⟨rfl, h2⟩
    cases e1 with
    | normal => cases hr; exact ⟨rfl, h2⟩
    | exit j =>
      simp only [AExit.conv, Exit.inBlock]
      have hr' : (if j = id then some (AExit.normal, env1, H1) else some (AExit.exit j, env1, H1)) = some (e, env', H') := hr
      by_cases hj : j = id
      · rw [if_pos hj] at hr' ⊢; cases hr'; exact ⟨rfl, h2⟩
      · rw [if_neg hj] at hr' ⊢; cases hr'; exact ⟨rfl, h2⟩
    | ret => cases hr; exact ⟨rfl, h2⟩
  | .loop b, ρ, H, H', w, env, env', a, e, h, hf, he, hr => by
    simp only [acode] at hr
    exact wp_loop_rounds lf (loop_sound (fun h hf he hr => code_sound hc hd lf b h hf he hr) lf h hf he hr)
  | .exit id, ρ, H, H', w, env, env', a, e, h, hf, he, hr => by
    simp only [acode, Option.some.injEq, Prod.mk.injEq] at hr
    obtain ⟨rfl, rfl, rfl⟩ := hr
    exact wp_exit ⟨rfl, rfl, ρ, Post.refl h, he⟩
  | .label l, ρ, H, H', w, env, env', a, e, h, hf, he, hr => by
    simp only [acode, Option.some.injEq, Prod.mk.injEq] at hr
    obtain ⟨rfl, rfl, rfl⟩ := hr
    exact wp_label ⟨rfl, rfl, ρ, Post.refl h, he⟩
  | .ret, ρ, H, H', w, env, env', a, e, h, hf, he, hr => by
    simp only [acode, Option.some.injEq, Prod.mk.injEq] at hr
    obtain ⟨rfl, rfl, rfl⟩ := hr
    exact wp_ret ⟨rfl, rfl, ρ, Post.refl h, he⟩
  | .rangeFunc .., _, _, _, _, _, _, _, _, _, _, _, hr => by simp [acode] at hr
  | .scope _, _, _, _, _, _, _, _, _, _, _, _, hr => by simp [acode] at hr
  | .goto _, _, _, _, _, _, _, _, _, _, _, _, hr => by simp [acode] at hr
  | .refuse _, _, _, _, _, _, _, _, _, _, _, _, hr => by simp [acode] at hr

def resGet (tmps : Array Value) : ResultVar → Sem Value
  | .tmp t => pure (tmps.getD t undef)
  | .cell a t => do loadVar t (← asAddr (tmps.getD a undef))

theorem results_eq (fn : Func) (tmps : Array Value) : results fn tmps = (do let vs ← fn.results.mapM (resGet tmps); pure (if h : vs.size = 1 then vs[0] else .tuple vs)) := rfl

theorem result_sound (h : Rel c base w0 ρ H w) {env : AEnv} {tmps : Array Value} (he : EnvR ρ env tmps) : ∀ {rs : List ResultVar} {vs : List AV}, mapO (aresult c env H) rs = some vs →
    ∃ xs, (rs.mapM (resGet tmps)).run c.P w = .ok xs w ∧ VRs ρ vs xs
  | [], vs, e => by simp [mapO] at e; subst e; exact ⟨[], by simp, rfl⟩
  | r :: rs, vs, e => by
    simp only [mapO, Option.bind_eq_some_iff, Option.some.injEq] at e
    obtain ⟨v, hv, z, hz, rfl⟩ := e
    obtain ⟨xs, h1, h2⟩ := result_sound h he hz
    have one : ∃ x, (resGet tmps r).run c.P w = .ok x w ∧ VR ρ v x := by
      cases r with
      | tmp t =>
        simp only [aresult] at hv
        obtain ⟨x, hx, hvr⟩ := he.2 t v hv
        exact ⟨x, by simp [resGet, Array.getD_eq_getD_getElem?, hx], hvr⟩
      | cell a t =>
        simp only [aresult] at hv
        split at hv
        · rename_i p hp
          obtain ⟨x, hx, hvr⟩ := he.2 a p hp
          obtain ⟨y, hy, hyr⟩ := load_sound h hv hvr
          refine ⟨y, ?_, hyr⟩
          unfold aload at hv
          split at hv
          · obtain ⟨q, hq, rfl⟩ := hvr
            simp only [Instr.loadAt, Instr.sureAddr, Sem.run_bind, Sem.run_pure, Result.andThen_ok] at hy
            simp [resGet, Array.getD_eq_getD_getElem?, hx, asAddr, hy]
          · cases hv
        · cases hv
    obtain ⟨x, hx, hvr⟩ := one
    refine ⟨x :: xs, ?_, x, xs, rfl, hvr, h2⟩
    simp only [List.mapM_cons, Sem.run_bind]
    rw [hx]
    simp only [Result.andThen_ok, h1, Sem.run_pure]

theorem results_sound (h : Rel c base w0 ρ H w) {env : AEnv} {tmps : Array Value} (he : EnvR ρ env tmps) {fn : Func} {v : AV} (e : aresults c fn env H = some v) :
    ∃ x, (results fn tmps).run c.P w = .ok x w ∧ VR ρ v x := by
  simp only [aresults, Option.map_eq_some_iff] at e
  obtain ⟨vs, hvs, e⟩ := e
  obtain ⟨xs, h1, h2⟩ := result_sound h he hvs
  have hl := h2.length
  have hrun : (results fn tmps).run c.P w = .ok (if h : xs.toArray.size = 1 then xs.toArray[0] else .tuple xs.toArray) w := by
    rw [results_eq, Sem.run_bind, Array.mapM_eq_mapM_toList, Sem.run_map]
    rw [h1]
    rfl
  refine ⟨_, hrun, ?_⟩
  match vs, xs, h2, e with
  | [u], [x], h2, e => subst e; obtain ⟨y, ys, hy, hv, _⟩ := h2; cases hy; simpa using hv
  | [], [], h2, e => subst e; exact ⟨[], rfl, by simp⟩
  | u :: u2 :: us, x :: x2 :: xs, h2, e => subst e; exact ⟨_, h2, by simp⟩
  | [], _ :: _, h2, _ => simp [VRs] at h2
  | [_], [], h2, _ => obtain ⟨_, _, hy, _⟩ := h2; cases hy
  | [_], _ :: _ :: _, h2, _ => obtain ⟨_, _, hy, _, h3⟩ := h2; cases hy; simp [VRs] at h3
  | _ :: _ :: _, [], h2, _ => obtain ⟨_, _, hy, _⟩ := h2; cases hy
  | _ :: _ :: _, [_], h2, _ => obtain ⟨_, _, hy, _, _, _, hz, _⟩ := h2; cases hy; cases hz

/-- functions that are known otherwise: they do what is told of them -/
def PrimsOK (c : Ctx) (base : Nat) (w0 : World) (pr : Prims) : Prop := ∀ f g, pr f = some g → CallOK c base w0 (fun f' args H => if f' = f then g args H else none)

/-- CALLS. -/
theorem calls_sound {dr : DrawOk} {gc : Callee → Callee} {pr : Prims} (hp : PrimsOK c base w0 pr) (hd : ∀ call, CallOK c base w0 call → DrawOKs c base w0 dr call) (hg : ∀ call, CallOK c base w0 call → CallOK c base w0 (gc call)) : ∀ k, CallOK c base w0 (acall c dr gc pr k)
  | 0 => fun f args H v H' e => by simp [acall] at e
  | k + 1 => by
    intro f args H v H' e ρ w xs h hf hx
    have ih := hg _ (calls_sound hp hd hg k)
    simp only [acall] at e
    split at e
    · rename_i r hr
      cases e
      obtain ⟨g, hg, hr⟩ := Option.bind_eq_some_iff.1 hr
      exact hp f g hg f args H v H' (by simpa using hr) ρ w xs h hf hx
    · simp only [Option.bind_eq_some_iff] at e
      obtain ⟨fn, hfn, b, hb, ⟨ex, env, H1⟩, hcode, e⟩ := e
      have henv : EnvR ρ (env0 fn.ntmps args) (xs.toArray ++ Array.replicate (fn.ntmps - xs.toArray.size) undef) := by
        have hl := hx.length
        refine ⟨by simp [env0, hl], fun t u ht => ?_⟩
        rcases argsTr_get (eget_tr ht).2 with ⟨_, h1⟩ | h1
        · obtain ⟨x, hx', hv⟩ := hx.get (by simpa using h1)
          refine ⟨x, ?_, hv⟩
          have := (List.getElem?_eq_some_iff.1 hx').1
          rw [Array.getElem?_append_left (by simpa using this)]
          simpa using hx'
        · rw [Tr.get_leaf] at h1; cases h1
      refine calls_of_wp hfn hb (wp_mono (code_sound ih (hd _ ih) k b h hf henv hcode) ?_)
      rintro q a' w' ⟨rfl, hdf, ρ', hpost, he'⟩
      have fin : ∀ {v H'}, (aresults c fn env H1).map (fun v => (v, H1)) = some (v, H') → a'.defers = [] ∧ ∃ u, (results fn a'.tmps).run c.P w' = .ok u w' ∧ ∃ ρ' x, Ending.returned u = .returned x ∧ VR ρ' v x ∧ Post c base w0 ρ H w ρ' H' w' := by
        intro v H' e
        simp only [Option.map_eq_some_iff, Prod.mk.injEq] at e
        obtain ⟨u, hu, rfl, rfl⟩ := e
        obtain ⟨x, hx1, hx2⟩ := results_sound hpost.rel he' hu
        exact ⟨hdf, x, hx1, ρ', x, rfl, hx2, hpost⟩
      cases ex with
      | normal => exact fin e
      | ret => exact fin e
      | exit id => cases e

end Go.AM

/-
  REGIONS THAT DRAW THEIR ORDER (own work): where each operation that turns the heap is ordered against each that looks at it, every order does what the text's order does.
-/
namespace Go.AM
open Go.RowKit
set_option linter.unusedSimpArgs false

variable {c : Ctx} {base : Nat} {w0 w : World} {ρ : Pl} {H : AHeap}

/-! an operation looks at its operands alone -/

theorem mapO_congr {α β : Type} {f g : α → Option β} : ∀ {l : List α}, (∀ x ∈ l, f x = g x) → mapO f l = mapO g l
  | [], _ => rfl
  | x :: r, h => by
    simp only [mapO]
    rw [h x (by simp), mapO_congr (l := r) (fun y hy => h y (by simp [hy]))]

theorem avals_congr {env env' : AEnv} {l : List Operand} (h : ∀ x ∈ l, aval env x = aval env' x) : avals env l = avals env' l := mapO_congr h

theorem optval_congr {env env' : AEnv} {x : Option Operand} (h : ∀ y ∈ x.toArray, aval env y = aval env' y) : optval env x = optval env' x := by
  cases x with
  | none => rfl
  | some x => simp only [optval]; rw [h x (by simp)]

theorem aop_congr {env env' : AEnv} {o : Op} (h : ∀ x ∈ o.operands, aval env x = aval env' x) (H : AHeap) : aop c env o H = aop c env' o H := by
  cases o with
  | move x | assign x => simp only [aop]; rw [h x (by simp [Op.operands])]
  | pick q a b => simp only [aop]; rw [h q (by simp [Op.operands]), h a (by simp [Op.operands]), h b (by simp [Op.operands])]
  | alloc t => rfl
  | box t x => simp only [aop]; rw [h x (by simp [Op.operands])]
  | build t ps =>
    simp only [aop]
    rw [mapO_congr (g := fun p => (aval env' p.2).map fun v => (p.1, v)) (fun p hp => by rw [h p.2 (by simp only [Op.operands]; simp; exact ⟨p.1, by simpa using hp⟩)])]
  | buildSlice t n ps =>
    simp only [aop]
    rw [mapO_congr (g := fun p => (aval env' p.2).map fun v => (p.1, v)) (fun p hp => by rw [h p.2 (by simp only [Op.operands]; simp; exact ⟨p.1, by simpa using hp⟩)])]
  | insert t m k v => simp only [aop]; rw [h m (by simp [Op.operands]), h k (by simp [Op.operands]), h v (by simp [Op.operands])]
  | load t a => simp only [aop]; rw [h a (by simp [Op.operands])]
  | store t a v => simp only [aop]; rw [h a (by simp [Op.operands]), h v (by simp [Op.operands])]
  | nilCheck x => simp only [aop]; rw [h x (by simp [Op.operands])]
  | binOp op t x y yt => simp only [aop]; rw [h x (by simp [Op.operands]), h y (by simp [Op.operands])]
  | unOp op t x => simp only [aop]; rw [h x (by simp [Op.operands])]
  | convert s d x => simp only [aop]; rw [h x (by simp [Op.operands])]
  | makeInterface t x => simp only [aop]; rw [h x (by simp [Op.operands])]
  | makeFunc fn a b =>
    simp only [aop]
    rw [avals_congr (l := a.toList) (env' := env') (fun x hx => h x (by simp only [Op.operands]; simp; exact .inl (by simpa using hx))), avals_congr (l := b.toList) (env' := env') (fun x hx => h x (by simp only [Op.operands]; simp; exact .inr (by simpa using hx)))]
  | makeMap t r =>
    simp only [aop]
    cases r with
    | none => rfl
    | some x => simp only []; rw [h x (by simp [Op.operands])]
  | makeSlice t l m => simp only [aop]; rw [h l (by simp [Op.operands]), h m (by simp [Op.operands])]
  | slice t x lo hi mx =>
    simp only [aop]
    rw [h x (by simp [Op.operands]), optval_congr (x := lo) (env' := env') (fun y hy => h y (by simp only [Op.operands]; simp at hy ⊢; simp [hy])), optval_congr (x := hi) (env' := env') (fun y hy => h y (by simp only [Op.operands]; simp at hy ⊢; simp [hy])), optval_congr (x := mx) (env' := env') (fun y hy => h y (by simp only [Op.operands]; simp at hy ⊢; simp [hy]))]
  | fieldAddr t x f => simp only [aop]; rw [h x (by simp [Op.operands])]
  | field t x f => simp only [aop]; rw [h x (by simp [Op.operands])]
  | indexAddr t x i => simp only [aop]; rw [h x (by simp [Op.operands]), h i (by simp [Op.operands])]
  | index t x i => simp only [aop]; rw [h x (by simp [Op.operands]), h i (by simp [Op.operands])]
  | lookup t m k ok => simp only [aop]; rw [h m (by simp [Op.operands]), h k (by simp [Op.operands])]
  | mapUpdate t m k v => simp only [aop]; rw [h m (by simp [Op.operands]), h k (by simp [Op.operands]), h v (by simp [Op.operands])]
  | mapEntry t m k => simp only [aop]; rw [h m (by simp [Op.operands]), h k (by simp [Op.operands])]
  | entryStore t m s v => simp only [aop]; rw [h m (by simp [Op.operands]), h s (by simp [Op.operands]), h v (by simp [Op.operands])]
  | typeAssert x xt t ok => simp only [aop]; rw [h x (by simp [Op.operands])]
  | extract x i => simp only [aop]; rw [h x (by simp [Op.operands])]
  | call cl =>
    simp only [aop, acallee]
    rw [avals_congr (l := cl.args.toList) (env' := env') (fun x hx => h x (by simp only [Op.operands, Call.operands]; simp; exact .inr (by simpa using hx)))]
    congr 1
    funext args
    cases hc : cl.callee with
    | builtin b => rfl
    | value f => simp only []; rw [h f (by simp [Op.operands, Call.operands, hc])]
    | invoke r n => simp only []; rw [h r (by simp [Op.operands, Call.operands, hc])]
  | _ => rfl

/-- operations that do not look at the heap -/
def isP : Op → Bool
  | .move _ | .assign _ | .pick .. | .build .. | .nilCheck _ | .binOp .. | .unOp .. | .convert .. | .makeInterface .. | .makeFunc .. | .fieldAddr .. | .field .. | .indexAddr .. | .index .. | .extract .. => true
  | _ => false

theorem pair_still {q : Option AV} {r : ARes} {H' : AHeap} (e : pair q H = some (r, H')) (K : AHeap) : (H' = H ∧ ∃ v, r = .val v) ∧ pair q K = some (r, K) := by
  simp only [pair, Option.map_eq_some_iff, Prod.mk.injEq] at e ⊢
  obtain ⟨v, hv, rfl, rfl⟩ := e
  exact ⟨⟨rfl, v, rfl⟩, v, hv, by simp⟩

theorem isP_still {env : AEnv} {o : Op} (hp : isP o = true) {r : ARes} {H' : AHeap} (e : aop c env o H = some (r, H')) (K : AHeap) : (H' = H ∧ ∃ v, r = .val v) ∧ aop c env o K = some (r, K) := by
  cases o <;> simp only [isP] at hp <;> try cases hp
  all_goals simp only [aop] at e ⊢
  case move => exact pair_still e K
  case assign => exact pair_still e K
  case pick q a b =>
    simp only [Option.bind_eq_some_iff] at e ⊢
    obtain ⟨v, hv, e⟩ := e
    split at e
    · obtain ⟨h1, h2⟩ := pair_still e K; exact ⟨h1, _, hv, h2⟩
    · cases e
  case build =>
    simp only [Option.bind_eq_some_iff] at e ⊢
    obtain ⟨v, hv, e⟩ := e
    obtain ⟨h1, h2⟩ := pair_still e K; exact ⟨h1, _, hv, h2⟩
  case nilCheck =>
    simp only [Option.bind_eq_some_iff] at e ⊢
    obtain ⟨v, hv, e⟩ := e
    split at e <;> cases e
    all_goals exact ⟨⟨rfl, _, rfl⟩, _, hv, rfl⟩
  case binOp =>
    simp only [Option.bind_eq_some_iff] at e ⊢
    obtain ⟨v, hv, u, hu, e⟩ := e
    obtain ⟨h1, h2⟩ := pair_still e K; exact ⟨h1, _, hv, _, hu, h2⟩
  case makeInterface =>
    simp only [Option.bind_eq_some_iff] at e ⊢
    obtain ⟨v, hv, d, hd, e⟩ := e
    refine ⟨?_, v, hv, d, hd, ?_⟩ <;> (split at e <;> cases e)
    · exact ⟨rfl, _, rfl⟩
    · rfl
  case makeFunc =>
    simp only [Option.bind_eq_some_iff] at e ⊢
    obtain ⟨v, hv, u, hu, e⟩ := e
    cases e
    exact ⟨⟨rfl, _, rfl⟩, _, hv, _, hu, rfl⟩
  case extract =>
    simp only [Option.bind_eq_some_iff] at e ⊢
    obtain ⟨v, hv, e⟩ := e
    split at e
    · obtain ⟨h1, h2⟩ := pair_still e K; exact ⟨h1, _, hv, h2⟩
    · cases e
  case indexAddr =>
    simp only [Option.bind_eq_some_iff] at e ⊢
    obtain ⟨v, hv, u, hu, e⟩ := e
    obtain ⟨h1, h2⟩ := pair_still e K; exact ⟨h1, _, hv, _, hu, h2⟩
  case index =>
    simp only [Option.bind_eq_some_iff] at e ⊢
    obtain ⟨v, hv, u, hu, e⟩ := e
    obtain ⟨h1, h2⟩ := pair_still e K; exact ⟨h1, _, hv, _, hu, h2⟩
  all_goals
    simp only [Option.bind_eq_some_iff] at e ⊢
    obtain ⟨v, hv, e⟩ := e
    obtain ⟨h1, h2⟩ := pair_still e K; exact ⟨h1, _, hv, h2⟩

/-! equal heaps, told by a Bool -/

mutual
def AV.beq : AV → AV → Bool
  | .bool a, .bool b => a == b
  | .int k a, .int l b => k == l && a == b
  | .str a, .str b => a == b
  | .nilptr, .nilptr => true
  | .ptr a i, .ptr b j => a == b && i == j
  | .nilslice, .nilslice => true
  | .slice a b d e, .slice a' b' d' e' => a == a' && b == b' && d == d' && e == e'
  | .odd a, .odd b => a == b
  | .nilmap, .nilmap => true
  | .map a, .map b => a == b
  | .nilfunc, .nilfunc => true
  | .func f a b, .func g d e => f == g && AV.beqs a d && AV.beqs b e
  | .niliface, .niliface => true
  | .iface t a, .iface u b => t == u && AV.beq a b
  | .agg a, .agg b => AV.beqs a b
  | .tuple a, .tuple b => AV.beqs a b
  | _, _ => false
def AV.beqs : List AV → List AV → Bool
  | [], [] => true
  | a :: r, b :: s => AV.beq a b && AV.beqs r s
  | _, _ => false
end

mutual
theorem AV.beq_eq : ∀ {a b : AV}, AV.beq a b = true → a = b
  | .bool _, b, h => by cases b <;> simp_all [AV.beq]
  | .int _ _, b, h => by cases b <;> simp_all [AV.beq]
  | .str _, b, h => by cases b <;> simp_all [AV.beq]
  | .nilptr, b, h => by cases b <;> simp_all [AV.beq]
  | .ptr _ _, b, h => by cases b <;> simp_all [AV.beq]
  | .nilslice, b, h => by cases b <;> simp_all [AV.beq]
  | .slice _ _ _ _, b, h => by cases b <;> simp_all [AV.beq]
  | .odd _, b, h => by cases b <;> simp_all [AV.beq]
  | .nilmap, b, h => by cases b <;> simp_all [AV.beq]
  | .map _, b, h => by cases b <;> simp_all [AV.beq]
  | .nilfunc, b, h => by cases b <;> simp_all [AV.beq]
  | .func f x y, b, h => by
    cases b <;> simp only [AV.beq] at h <;> try cases h
    simp only [Bool.and_eq_true, beq_iff_eq] at h
    obtain ⟨⟨rfl, h1⟩, h2⟩ := h
    rw [AV.beqs_eq h1, AV.beqs_eq h2]
  | .niliface, b, h => by cases b <;> simp_all [AV.beq]
  | .iface t x, b, h => by
    cases b <;> simp only [AV.beq] at h <;> try cases h
    simp only [Bool.and_eq_true, beq_iff_eq] at h
    obtain ⟨rfl, h1⟩ := h
    rw [AV.beq_eq h1]
  | .agg x, b, h => by
    cases b <;> simp only [AV.beq] at h <;> try cases h
    rw [AV.beqs_eq h]
  | .tuple x, b, h => by
    cases b <;> simp only [AV.beq] at h <;> try cases h
    rw [AV.beqs_eq h]
theorem AV.beqs_eq : ∀ {a b : List AV}, AV.beqs a b = true → a = b
  | [], b, h => by cases b <;> simp_all [AV.beqs]
  | x :: r, [], h => by simp [AV.beqs] at h
  | x :: r, y :: s, h => by
    simp only [AV.beqs, Bool.and_eq_true] at h
    rw [AV.beq_eq h.1, AV.beqs_eq h.2]
end

mutual
theorem AV.beq_refl : ∀ (a : AV), AV.beq a a = true
  | .bool _ => by simp [AV.beq]
  | .int _ _ => by simp [AV.beq]
  | .str _ => by simp [AV.beq]
  | .nilptr => rfl
  | .ptr _ _ => by simp [AV.beq]
  | .nilslice => rfl
  | .slice _ _ _ _ => by simp [AV.beq]
  | .odd _ => by simp [AV.beq]
  | .nilmap => rfl
  | .map _ => by simp [AV.beq]
  | .nilfunc => rfl
  | .func f x y => by simp [AV.beq, AV.beqs_refl x, AV.beqs_refl y]
  | .niliface => rfl
  | .iface t x => by simp [AV.beq, AV.beq_refl x]
  | .agg x => by simp [AV.beq, AV.beqs_refl x]
  | .tuple x => by simp [AV.beq, AV.beqs_refl x]
theorem AV.beqs_refl : ∀ (a : List AV), AV.beqs a a = true
  | [] => rfl
  | x :: r => by simp [AV.beqs, AV.beq_refl x, AV.beqs_refl r]
end

def entBeq : List (AV × AV × Nat) → List (AV × AV × Nat) → Bool
  | [], [] => true
  | a :: r, b :: s => AV.beq a.1 b.1 && AV.beq a.2.1 b.2.1 && a.2.2 == b.2.2 && entBeq r s
  | _, _ => false

theorem entBeq_eq : ∀ {a b : List (AV × AV × Nat)}, entBeq a b = true → a = b
  | [], b, h => by cases b <;> simp_all [entBeq]
  | x :: r, [], h => by simp [entBeq] at h
  | x :: r, y :: s, h => by
    simp only [entBeq, Bool.and_eq_true, beq_iff_eq] at h
    obtain ⟨⟨⟨h1, h2⟩, h3⟩, h4⟩ := h
    obtain ⟨x1, x2, x3⟩ := x
    obtain ⟨y1, y2, y3⟩ := y
    simp only at h1 h2 h3
    rw [AV.beq_eq h1, AV.beq_eq h2, entBeq_eq h4, h3]

theorem entBeq_refl : ∀ (a : List (AV × AV × Nat)), entBeq a a = true
  | [] => rfl
  | x :: r => by simp [entBeq, AV.beq_refl, entBeq_refl r]

def AObj.beq : AObj → AObj → Bool
  | .row t e a, .row t' e' a' => t == t' && e == e' && AV.beqs a a'
  | .empty a, .empty b => a == b
  | .map a n, .map b m => entBeq a b && n == m
  | .siter s p, .siter t q => s == t && p == q
  | .miter a b d e, .miter a' b' d' e' => a == a' && b == b' && d == d' && e == e'
  | _, _ => false

theorem AObj.beq_eq {a b : AObj} (h : AObj.beq a b = true) : a = b := by
  cases a <;> cases b <;> simp only [AObj.beq] at h <;> try cases h
  · simp only [Bool.and_eq_true, beq_iff_eq] at h; rw [h.1.1, h.1.2, AV.beqs_eq h.2]
  · simp only [beq_iff_eq] at h; rw [h]
  · simp only [Bool.and_eq_true, beq_iff_eq] at h; rw [h.2, entBeq_eq h.1]
  · simp only [Bool.and_eq_true, beq_iff_eq] at h; rw [h.1, h.2]
  · simp only [Bool.and_eq_true, beq_iff_eq] at h; rw [h.1.1.1, h.1.1.2, h.1.2, h.2]

theorem AObj.beq_refl (a : AObj) : AObj.beq a a = true := by
  cases a <;> simp [AObj.beq, AV.beqs_refl, entBeq_refl]

def heapEq : AHeap → AHeap → Bool
  | [], [] => true
  | none :: r, none :: s => heapEq r s
  | some a :: r, some b :: s => AObj.beq a b && heapEq r s
  | _, _ => false

theorem heapEq_eq : ∀ {a b : AHeap}, heapEq a b = true → a = b
  | [], b, h => by cases b <;> simp_all [heapEq]
  | none :: r, [], h => by simp [heapEq] at h
  | some _ :: r, [], h => by simp [heapEq] at h
  | none :: r, none :: s, h => by simp only [heapEq] at h; rw [heapEq_eq h]
  | none :: r, some _ :: s, h => by simp [heapEq] at h
  | some _ :: r, none :: s, h => by simp [heapEq] at h
  | some a :: r, some b :: s, h => by
    simp only [heapEq, Bool.and_eq_true] at h
    rw [AObj.beq_eq h.1, heapEq_eq h.2]

@[simp] theorem heapEq_refl : ∀ (a : AHeap), heapEq a a = true
  | [] => rfl
  | none :: r => by simp only [heapEq]; exact heapEq_refl r
  | some a :: r => by simp only [heapEq, AObj.beq_refl, heapEq_refl r]; rfl

/-! the check -/

/-- what an operation puts, and the heap behind it -/
def stepV (c : Ctx) (call : Callee) (ops : List Oper) (o : Oper) (env : AEnv) (H : AHeap) : Option (Option AV × AHeap) :=
  (awanted ops env o).bind fun w => if w then
    (aop c env o.op H).bind fun (r, H') => match r with
    | .val v => some (some v, H')
    | .skip => some (some .undef, H')
    | .call f args => (call f args H').bind fun (v, H'') => some (some v, H'')
  else some (some .undef, H)

theorem astep_stepV (call : Callee) (ops : List Oper) (o : Oper) (env : AEnv) (H : AHeap) : astep c call ops o env H = (stepV c call ops o env H).map fun p => (eput env o.dst p.1, p.2) := by
  simp only [astep, stepV]
  cases awanted ops env o with
  | none => rfl
  | some w =>
    cases w with
    | false => rfl
    | true =>
      simp only [Option.bind_some, if_true]
      cases aop c env o.op H with
      | none => rfl
      | some p =>
        obtain ⟨r, H'⟩ := p
        simp only [Option.bind_some]
        cases r with
        | val v => rfl
        | skip => rfl
        | call f args =>
          simp only []
          cases call f args H' with
          | none => rfl
          | some q => rfl

def trace (c : Ctx) (call : Callee) (ops : List Oper) : List Oper → AEnv → AHeap → Option (List (Option AV × AHeap))
  | [], _, _ => some []
  | o :: r, env, H => (stepV c call ops o env H).bind fun p => (trace c call ops r (eput env o.dst p.1) p.2).bind fun t => some (p :: t)

/-- operations that never turn the heap -/
def quiet : Op → Bool
  | .load .. => true
  | .lookup .. => true
  | o => isP o

theorem quiet_same {env : AEnv} {o : Op} (hq : quiet o = true) {r : ARes} {H' : AHeap} (e : aop c env o H = some (r, H')) : H' = H ∧ ∃ v, r = .val v := by
  unfold quiet at hq
  split at hq
  · simp only [aop, Option.bind_eq_some_iff, pair, Option.map_eq_some_iff, Prod.mk.injEq] at e
    obtain ⟨_, _, v, _, rfl, rfl⟩ := e
    exact ⟨rfl, v, rfl⟩
  · simp only [aop, Option.bind_eq_some_iff, pair, Option.map_eq_some_iff, Prod.mk.injEq] at e
    obtain ⟨_, _, _, _, v, _, rfl, rfl⟩ := e
    exact ⟨rfl, v, rfl⟩
  · exact (isP_still hq e H).1

/-- has the operation turned the heap? -/
def mvOf (o : Op) (H H' : AHeap) : Bool := !quiet o && (!Nat.beq H.length H'.length || !heapEq H H')

theorem mvOf_self (o : Op) (H : AHeap) : mvOf o H H = false := by simp [mvOf]

theorem mvOf_same {call : Callee} {ops : List Oper} {o : Oper} {env : AEnv} {v : Option AV} {H' : AHeap} (h : mvOf o.op H H' = false) (e : stepV c call ops o env H = some (v, H')) : H' = H := by
  simp only [mvOf, Bool.and_eq_false_iff, Bool.or_eq_false_iff, Bool.not_eq_false'] at h
  rcases h with h | ⟨_, h⟩
  · simp only [stepV, Option.bind_eq_some_iff] at e
    obtain ⟨b, hb, e⟩ := e
    cases b with
    | false => simp at e; exact e.2.symm
    | true =>
      simp only [if_true, Option.bind_eq_some_iff] at e
      obtain ⟨⟨r, H1⟩, hr, e⟩ := e
      obtain ⟨rfl, u, rfl⟩ := quiet_same h hr
      simp at e; exact e.2.symm
  · exact (heapEq_eq h).symm

/-- which operations turn the heap -/
def moves : List Oper → AHeap → List (Option AV × AHeap) → List Bool
  | o :: r, H, p :: t => mvOf o.op H p.2 :: moves r p.2 t
  | _, _, _ => []

def opsOf (ops : List Oper) (i : Nat) : Oper := ops.getD i default

/-- what must hold of two operations, the first ahead of the second in the text -/
def pairOk (ops : List Oper) (b : Array Nat) (mv : List Bool) (st : Nat → Bool) (i j : Nat) : Bool :=
  (b.getD j 0).testBit i ||
  (Oper.apart ops.toArray (opsOf ops i) (opsOf ops j) && (!mv.getD i false || st j) && (!mv.getD j false || st i))

def edgesOk (ops : List Oper) : Bool := (List.range ops.length).all fun j => (opsOf ops j).after.toList.all fun e => !Region.binds .any e || decide (e.on < j)

/-- whatever is not ordered may be run either way round, as the text alone tells -/
def apartOk (ops : List Oper) : Bool := (List.range ops.length).all fun j => (List.range j).all fun i => ((Region.before ops.toArray).getD j 0).testBit i || Oper.apart ops.toArray (opsOf ops i) (opsOf ops j)

def inOrder (b : Array Nat) (i j : Nat) : Bool := if Nat.blt i j then (b.getD j 0).testBit i else (b.getD i 0).testBit j

def regOk (ops : List Oper) (mv : List Bool) (st : Nat → Bool) : Bool :=
  edgesOk ops && (apartOk ops && (List.range ops.length).all fun i => !mv.getD i false || (List.range ops.length).all fun j => Nat.beq i j || (inOrder (Region.before ops.toArray) i j || st j))

theorem regOk_pair {ops : List Oper} {mv : List Bool} {st : Nat → Bool} (h : regOk ops mv st = true) : edgesOk ops = true ∧ ∀ i j, i < j → j < ops.length → pairOk ops (Region.before ops.toArray) mv st i j = true := by
  simp only [regOk, Bool.and_eq_true] at h
  obtain ⟨h1, h2, h3⟩ := h
  refine ⟨h1, fun i j hij hj => ?_⟩
  have ha := List.all_eq_true.1 (List.all_eq_true.1 h2 j (List.mem_range.2 hj)) i (List.mem_range.2 hij)
  have hm : ∀ a b, a < ops.length → b < ops.length → a ≠ b → mv.getD a false = true → inOrder (Region.before ops.toArray) a b = true ∨ st b = true := by
    intro a b ha hb hab hma
    have := List.all_eq_true.1 h3 a (List.mem_range.2 ha)
    simp only [hma, Bool.not_true, Bool.false_or] at this
    have := List.all_eq_true.1 this b (List.mem_range.2 hb)
    simp only [Bool.or_eq_true] at this
    rcases this with h | h
    · exact absurd (Nat.eq_of_beq_eq_true h) hab
    · exact h
  have o1 : inOrder (Region.before ops.toArray) i j = ((Region.before ops.toArray).getD j 0).testBit i := by
    simp [inOrder, Nat.blt_eq, hij]
  have o2 : inOrder (Region.before ops.toArray) j i = ((Region.before ops.toArray).getD j 0).testBit i := by
    have : Nat.blt j i = false := by
      cases hq : Nat.blt j i with
      | false => rfl
      | true => rw [Nat.blt_eq] at hq; omega
    simp [inOrder, this]
  simp only [pairOk, Bool.or_eq_true, Bool.and_eq_true, Bool.not_eq_true'] at ha ⊢
  cases hb : ((Region.before ops.toArray).getD j 0).testBit i with
  | true => exact .inl rfl
  | false =>
    rw [hb] at ha o1 o2
    refine .inr ⟨⟨ha.resolve_left (by simp), ?_⟩, ?_⟩
    · cases hmi : mv.getD i false with
      | false => exact .inl rfl
      | true => exact .inr ((hm i j (by omega) hj (by omega) hmi).resolve_left (by rw [o1]; simp))
    · cases hmj : mv.getD j false with
      | false => exact .inl rfl
      | true => exact .inr ((hm j i hj (by omega) (by omega) hmj).resolve_left (by rw [o2]; simp))

def beforeF (acc : Array Nat) (o : Oper) : Nat := o.after.foldl (fun s e => if Region.binds .any e then s ||| 2 ^ e.on ||| acc.getD e.on 0 else s) 0

theorem foldl_push_get {f : Array Nat → Oper → Nat} : ∀ (l : List Oper) (acc : Array Nat), (l.foldl (fun acc o => acc.push (f acc o)) acc).size = acc.size + l.length ∧
    (∀ i, i < acc.size → (l.foldl (fun acc o => acc.push (f acc o)) acc)[i]? = acc[i]?) ∧
    ∀ j o, l[j]? = some o → (l.foldl (fun acc o => acc.push (f acc o)) acc)[acc.size + j]? = some (f ((l.take j).foldl (fun acc o => acc.push (f acc o)) acc) o)
  | [], acc => ⟨by simp, fun _ _ => rfl, fun j o h => by simp at h⟩
  | x :: l, acc => by
    obtain ⟨h1, h2, h3⟩ := foldl_push_get (f := f) l (acc.push (f acc x))
    refine ⟨by simp at h1 ⊢; omega, fun i hi => ?_, fun j o hj => ?_⟩
    · rw [List.foldl_cons, h2 i (by simp; omega), Array.getElem?_push, if_neg (by omega)]
    · cases j with
      | zero =>
        simp at hj; subst hj
        rw [List.foldl_cons, Nat.add_zero, h2 acc.size (by simp)]
        simp
      | succ j =>
        have := h3 j o (by simpa using hj)
        rw [List.foldl_cons, show acc.size + (j + 1) = (acc.push (f acc x)).size + j by simp; omega, this]
        rfl

theorem before_get {ops : List Oper} {j : Nat} {o : Oper} (h : ops[j]? = some o) : (Region.before ops.toArray).getD j 0 = beforeF (Region.before (ops.take j).toArray) o := by
  have := (foldl_push_get (f := beforeF) ops #[]).2.2 j o h
  have e : ∀ l : List Oper, Region.before l.toArray = l.foldl (fun acc o => acc.push (beforeF acc o)) #[] := fun l => by
    simp only [Region.before, List.foldl_toArray]
    rfl
  rw [e, e, Array.getD_eq_getD_getElem?]
  simp only [List.size_toArray, List.length_nil, Nat.zero_add] at this
  rw [this]
  rfl

theorem before_take {ops : List Oper} {j i : Nat} (hi : i < j) (hj : j ≤ ops.length) : (Region.before (ops.take j).toArray).getD i 0 = (Region.before ops.toArray).getD i 0 := by
  have hlt : i < ops.length := by omega
  have h1 : ops[i]? = some ops[i] := List.getElem?_eq_getElem hlt
  have h2 : (ops.take j)[i]? = some ops[i] := by rw [List.getElem?_take, if_pos hi]; exact h1
  rw [before_get h1, before_get h2, List.take_take, Nat.min_eq_left (by omega)]

theorem foldl_bits {acc : Array Nat} {i : Nat} : ∀ (l : List Edge) (s : Nat), (l.foldl (fun s e => if Region.binds .any e then s ||| 2 ^ e.on ||| acc.getD e.on 0 else s) s).testBit i = true →
    s.testBit i = true ∨ ∃ e ∈ l, Region.binds .any e = true ∧ (e.on = i ∨ (acc.getD e.on 0).testBit i = true)
  | [], s, h => .inl h
  | e :: l, s, h => by
    rcases foldl_bits l _ h with h | ⟨e', he, hb, hq⟩
    · dsimp only at h
      split at h
      · rename_i hb
        simp only [Nat.testBit_or, Bool.or_eq_true] at h
        rcases h with (h | h) | h
        · exact .inl h
        · rw [Nat.testBit_two_pow] at h
          exact .inr ⟨e, by simp, hb, .inl (by simpa using h)⟩
        · exact .inr ⟨e, by simp, hb, .inr h⟩
      · exact .inl h
    · exact .inr ⟨e', by simp [he], hb, hq⟩

theorem before_bits {ops : List Oper} {j i : Nat} {o : Oper} (ho : ops[j]? = some o) (hedge : ∀ e ∈ o.after.toList, Region.binds .any e = true → e.on < j) (h : ((Region.before ops.toArray).getD j 0).testBit i = true) :
    ∃ e ∈ o.after.toList, Region.binds .any e = true ∧ (e.on = i ∨ ((Region.before ops.toArray).getD e.on 0).testBit i = true) := by
  have hj : j ≤ ops.length := by have := (List.getElem?_eq_some_iff.1 ho).1; omega
  rw [before_get ho, beforeF, ← Array.foldl_toList] at h
  rcases foldl_bits _ _ h with h | ⟨e, he, hb, hq⟩
  · simp at h
  · refine ⟨e, he, hb, ?_⟩
    rwa [before_take (hedge e he hb) hj] at hq

/-! values and heaps, by what has been run -/

def dft : Option AV × AHeap := (none, [])

def dstOf (ops : List Oper) (i : Nat) : Option Tmp := (opsOf ops i).dst

def envK (dst : Nat → Option Tmp) (vals : Nat → Option AV) (S : Nat → Bool) (env : AEnv) : Nat → AEnv
  | 0 => env
  | k + 1 => if S k then eput (envK dst vals S env k) (dst k) (vals k) else envK dst vals S env k

def heapK (hs : Nat → AHeap) (mv : Nat → Bool) (S : Nat → Bool) (H : AHeap) : Nat → AHeap
  | 0 => H
  | k + 1 => if S k && mv k then hs k else heapK hs mv S H k

/-- may operation j stand where the last turn of the heap was number k - 1? -/
def possible (ops : List Oper) (b : Array Nat) (mv : List Bool) (k j : Nat) : Bool :=
  (List.range ops.length).all fun i => !mv.getD i false || ((!(b.getD j 0).testBit i || decide (i < k)) && (!(b.getD i 0).testBit j || decide (k ≤ i)))

def sameStep : Option (Option AV × AHeap) → Option AV → AHeap → Bool
  | some (some v, K), some u, H => AV.beq v u && heapEq K H
  | some (none, K), none, H => heapEq K H
  | _, _, _ => false

theorem sameStep_eq {r : Option (Option AV × AHeap)} {u : Option AV} {H : AHeap} (h : sameStep r u H = true) : r = some (u, H) := by
  unfold sameStep at h
  split at h
  · simp only [Bool.and_eq_true] at h; rw [AV.beq_eq h.1, heapEq_eq h.2]
  · rw [heapEq_eq h]
  · cases h

/-- does operation j tell the same wherever it may stand? -/
def still (c : Ctx) (call : Callee) (ops : List Oper) (env : AEnv) (H : AHeap) (t : List (Option AV × AHeap)) (j : Nat) : Bool :=
  !(moves ops H t).getD j false && (isP (opsOf ops j).op || (List.range (ops.length + 1)).all fun k =>
    !(k == 0 || (moves ops H t).getD (k - 1) false) || !possible ops (Region.before ops.toArray) (moves ops H t) k j ||
      sameStep (stepV c call ops (opsOf ops j) (envK (fun i => (ops.getD i default).dst) (fun i => (t.getD i dft).1) (fun _ => true) env j) (heapK (fun i => (t.getD i dft).2) (fun i => (moves ops H t).getD i false) (fun _ => true) H k))
        (t.getD j dft).1 (heapK (fun i => (t.getD i dft).2) (fun i => (moves ops H t).getD i false) (fun _ => true) H k))

def drawOk (c : Ctx) (call : Callee) (ops : List Oper) (env : AEnv) (H : AHeap) : Bool :=
  match trace c call ops ops env H with
  | none => false
  | some t => regOk ops (moves ops H t) (still c call ops env H t)

theorem still_spec {call : Callee} {ops : List Oper} {env : AEnv} {t : List (Option AV × AHeap)} {j : Nat} (h : still c call ops env H t j = true) :
    (moves ops H t).getD j false = false ∧ (isP (opsOf ops j).op = true ∨ ∀ k, k ≤ ops.length → (k = 0 ∨ (moves ops H t).getD (k - 1) false = true) → possible ops (Region.before ops.toArray) (moves ops H t) k j = true →
      stepV c call ops (opsOf ops j) (envK (fun i => (ops.getD i default).dst) (fun i => (t.getD i dft).1) (fun _ => true) env j) (heapK (fun i => (t.getD i dft).2) (fun i => (moves ops H t).getD i false) (fun _ => true) H k) =
        some ((t.getD j dft).1, heapK (fun i => (t.getD i dft).2) (fun i => (moves ops H t).getD i false) (fun _ => true) H k)) := by
  simp only [still, Bool.and_eq_true, Bool.or_eq_true, Bool.not_eq_true'] at h
  refine ⟨h.1, h.2.imp id fun h2 k hk hk0 hp => ?_⟩
  have := List.all_eq_true.1 h2 k (List.mem_range.2 (by omega))
  simp only [Bool.or_eq_true, Bool.not_eq_true', Bool.or_eq_false_iff] at this
  rcases this with (⟨h3, h4⟩ | h3) | h3
  · rcases hk0 with rfl | hk0
    · simp at h3
    · rw [hk0] at h4; cases h4
  · rw [hp] at h3; cases h3
  · exact sameStep_eq h3

/-- behind the last turn that is in the set -/
def lastK (S mv : Nat → Bool) : Nat → Nat
  | 0 => 0
  | k + 1 => if S k && mv k then k + 1 else lastK S mv k

theorem lastK_le {S mv : Nat → Bool} : ∀ m, lastK S mv m ≤ m
  | 0 => Nat.le_refl _
  | m + 1 => by
    simp only [lastK]
    split
    · exact Nat.le_refl _
    · exact Nat.le_succ_of_le (lastK_le m)

theorem lastK_in {S mv : Nat → Bool} : ∀ m, lastK S mv m = 0 ∨ ∃ i, lastK S mv m = i + 1 ∧ i < m ∧ S i = true ∧ mv i = true
  | 0 => .inl rfl
  | m + 1 => by
    simp only [lastK]
    split
    · rename_i h
      simp only [Bool.and_eq_true] at h
      exact .inr ⟨m, rfl, Nat.lt_succ_self _, h.1, h.2⟩
    · rcases lastK_in (S := S) (mv := mv) m with h | ⟨i, h1, h2, h3⟩
      · exact .inl h
      · exact .inr ⟨i, h1, by omega, h3⟩

theorem lastK_ge {S mv : Nat → Bool} {i : Nat} (hS : S i = true) (hm : mv i = true) : ∀ m, i < m → i < lastK S mv m
  | 0, h => by omega
  | m + 1, h => by
    simp only [lastK]
    split
    · omega
    · rename_i hq
      have : i ≠ m := fun e => by subst e; simp [hS, hm] at hq
      exact lastK_ge hS hm m (by omega)

theorem lastK_heap {hs : Nat → AHeap} {mv S : Nat → Bool} {H : AHeap} : ∀ m, heapK hs mv S H m = heapK hs mv (fun _ => true) H (lastK S mv m)
  | 0 => rfl
  | m + 1 => by
    simp only [lastK, heapK]
    split
    · rename_i h
      simp only [Bool.and_eq_true] at h
      simp [heapK, h.2]
    · exact lastK_heap m

theorem envK_size (dst : Nat → Option Tmp) (vals : Nat → Option AV) (S : Nat → Bool) (env : AEnv) : ∀ k, (envK dst vals S env k).size = env.size
  | 0 => rfl
  | k + 1 => by simp only [envK]; split <;> simp [eput_size, envK_size dst vals S env k]

/-- what a temporary holds hangs on those alone that write it -/
theorem envK_agree {dst : Nat → Option Tmp} {vals : Nat → Option AV} {S S' : Nat → Bool} {env : AEnv} {t : Tmp} : ∀ k, (∀ i, i < k → dst i = some t → S i = S' i) → eget (envK dst vals S env k) t = eget (envK dst vals S' env k) t
  | 0, _ => rfl
  | k + 1, h => by
    have ih := envK_agree (vals := vals) (env := env) k (fun i hi => h i (by omega))
    by_cases hd : dst k = some t
    · have hS := h k (by omega) hd
      simp only [envK, ← hS, hd]
      split
      · exact eput_eq (by rw [envK_size, envK_size])
      · exact ih
    · simp only [envK]
      have l1 : eget (if S k = true then eput (envK dst vals S env k) (dst k) (vals k) else envK dst vals S env k) t = eget (envK dst vals S env k) t := by
        split
        · exact eput_ne hd
        · rfl
      have l2 : eget (if S' k = true then eput (envK dst vals S' env k) (dst k) (vals k) else envK dst vals S' env k) t = eget (envK dst vals S' env k) t := by
        split
        · exact eput_ne hd
        · rfl
      rw [l1, l2, ih]

theorem heapK_agree {hs : Nat → AHeap} {mv : Nat → Bool} {S S' : Nat → Bool} {H : AHeap} : ∀ k, (∀ i, i < k → mv i = true → S i = S' i) → heapK hs mv S H k = heapK hs mv S' H k
  | 0, _ => rfl
  | k + 1, h => by
    have ih := heapK_agree (hs := hs) (H := H) k (fun i hi => h i (by omega))
    simp only [heapK]
    cases hm : mv k with
    | false => simp [ih]
    | true => rw [h k (by omega) hm, ih]

/-- what has been written last stays -/
theorem envK_last {dst : Nat → Option Tmp} {vals : Nat → Option AV} {S : Nat → Bool} {env : AEnv} {t : Tmp} {j : Nat} (hd : dst j = some t) (hS : S j = true) : ∀ k, j < k → (∀ i, j < i → i < k → dst i = some t → S i = false) →
    eget (envK dst vals S env k) t = eget (eput (envK dst vals S env j) (some t) (vals j)) t
  | 0, h, _ => by omega
  | k + 1, h, hn => by
    by_cases hk : k = j
    · subst hk; simp only [envK, hS, if_true, hd]
    · have ih := envK_last (vals := vals) (env := env) hd hS k (by omega) (fun i h1 h2 => hn i h1 (by omega))
      rw [← ih]
      simp only [envK]
      split
      · rename_i hSk
        refine eput_ne fun hdk => ?_
        rw [hn k (by omega) (by omega) hdk] at hSk; cases hSk
      · rfl

theorem heapK_last {hs : Nat → AHeap} {mv : Nat → Bool} {S : Nat → Bool} {H : AHeap} {j : Nat} (hm : mv j = true) (hS : S j = true) : ∀ k, j < k → (∀ i, j < i → i < k → mv i = true → S i = false) → heapK hs mv S H k = hs j
  | 0, h, _ => by omega
  | k + 1, h, hn => by
    simp only [heapK]
    by_cases hk : k = j
    · subst hk; simp [hS, hm]
    · rw [heapK_last hm hS k (by omega) (fun i h1 h2 => hn i h1 (by omega))]
      cases hmk : mv k with
      | false => simp
      | true => rw [hn k (by omega) (by omega) hmk]; simp

theorem envK_upto {dst : Nat → Option Tmp} {vals : Nat → Option AV} {env : AEnv} (j : Nat) : ∀ k, j ≤ k → envK dst vals (fun i => decide (i < j)) env k = envK dst vals (fun _ => true) env j
  | 0, h => by obtain rfl : j = 0 := by omega
               rfl
  | k + 1, h => by
    by_cases hj : j = k + 1
    · subst hj
      have gen : ∀ m, m ≤ k + 1 → envK dst vals (fun i => decide (i < k + 1)) env m = envK dst vals (fun _ => true) env m := by
        intro m hm
        induction m with
        | zero => rfl
        | succ m ih => simp only [envK]; rw [ih (by omega), if_pos (by simp; omega)]; simp
      exact gen (k + 1) (Nat.le_refl _)
    · rw [← envK_upto j k (by omega)]
      simp only [envK]
      rw [if_neg (by simp; omega)]

theorem heapK_upto {hs : Nat → AHeap} {mv : Nat → Bool} {H : AHeap} (j : Nat) : ∀ k, j ≤ k → heapK hs mv (fun i => decide (i < j)) H k = heapK hs mv (fun _ => true) H j
  | 0, h => by obtain rfl : j = 0 := by omega
               rfl
  | k + 1, h => by
    by_cases hj : j = k + 1
    · subst hj
      exact heapK_agree (k + 1) (fun i hi _ => by simp [hi])
    · rw [← heapK_upto j k (by omega)]
      simp only [heapK]
      have : decide (k < j) = false := by simp; omega
      simp [this]

theorem envK_shift {dst : Nat → Option Tmp} {vals : Nat → Option AV} {env : AEnv} : ∀ k, envK dst vals (fun _ => true) env (k + 1) = envK (fun i => dst (i + 1)) (fun i => vals (i + 1)) (fun _ => true) (eput env (dst 0) (vals 0)) k
  | 0 => by simp [envK]
  | k + 1 => by
    have ih := envK_shift (dst := dst) (vals := vals) (env := env) k
    rw [envK, ih]
    simp [envK]

theorem heapK_shift {hs : Nat → AHeap} {mv : Nat → Bool} {H : AHeap} : ∀ k, heapK hs mv (fun _ => true) H (k + 1) = heapK (fun i => hs (i + 1)) (fun i => mv (i + 1)) (fun _ => true) (if mv 0 then hs 0 else H) k
  | 0 => by simp [heapK]
  | k + 1 => by
    have ih := heapK_shift (hs := hs) (mv := mv) (H := H) k
    rw [heapK, ih]
    simp [heapK]

theorem trace_facts {call : Callee} {ops : List Oper} : ∀ {r : List Oper} {env : AEnv} {H : AHeap} {t : List (Option AV × AHeap)}, trace c call ops r env H = some t →
    (∀ m o, r[m]? = some o → stepV c call ops o (envK (fun i => (r.getD i default).dst) (fun i => (t.getD i dft).1) (fun _ => true) env m) (heapK (fun i => (t.getD i dft).2) (fun i => (moves r H t).getD i false) (fun _ => true) H m) = some (t.getD m dft)) ∧
    (∀ m, m < r.length → (moves r H t).getD m false = mvOf (r.getD m default).op (heapK (fun i => (t.getD i dft).2) (fun i => (moves r H t).getD i false) (fun _ => true) H m) (t.getD m dft).2) ∧
    asteps c call ops r env H = some (envK (fun i => (r.getD i default).dst) (fun i => (t.getD i dft).1) (fun _ => true) env r.length, heapK (fun i => (t.getD i dft).2) (fun i => (moves r H t).getD i false) (fun _ => true) H r.length)
  | [], env, H, t, e => by
    simp only [trace, Option.some.injEq] at e
    subst e
    exact ⟨fun m o h => by simp at h, fun m h => by simp at h, rfl⟩
  | o :: r, env, H, t, e => by
    simp only [trace, Option.bind_eq_some_iff, Option.some.injEq] at e
    obtain ⟨p, hp, t', ht, rfl⟩ := e
    obtain ⟨i1, i2, i3⟩ := trace_facts ht
    have hH : (if mvOf o.op H p.2 = true then p.2 else H) = p.2 := by
      cases hq : mvOf o.op H p.2 with
      | true => rfl
      | false => exact (mvOf_same hq hp).symm
    have g0 : (moves (o :: r) H (p :: t')).getD 0 false = mvOf o.op H p.2 := rfl
    have hm : ∀ i, (moves (o :: r) H (p :: t')).getD (i + 1) false = (moves r p.2 t').getD i false := fun i => rfl
    have henv : ∀ m, envK (fun i => ((o :: r).getD i default).dst) (fun i => ((p :: t').getD i dft).1) (fun _ => true) env (m + 1) = envK (fun i => (r.getD i default).dst) (fun i => (t'.getD i dft).1) (fun _ => true) (eput env o.dst p.1) m := fun m => by
      rw [envK_shift]; rfl
    have hheap : ∀ m, heapK (fun i => ((p :: t').getD i dft).2) (fun i => (moves (o :: r) H (p :: t')).getD i false) (fun _ => true) H (m + 1) = heapK (fun i => (t'.getD i dft).2) (fun i => (moves r p.2 t').getD i false) (fun _ => true) p.2 m := fun m => by
      rw [heapK_shift]
      have : (if (moves (o :: r) H (p :: t')).getD 0 false = true then ((p :: t').getD 0 dft).2 else H) = p.2 := hH
      rw [this]; rfl
    refine ⟨fun m q hq => ?_, fun m hlt => ?_, ?_⟩
    · cases m with
      | zero => simp at hq; subst hq; exact hp
      | succ m => rw [henv, hheap]; exact i1 m q (by simpa using hq)
    · cases m with
      | zero => exact g0
      | succ m => rw [hheap, hm]; exact i2 m (by simpa using hlt)
    · rw [List.length_cons, henv, hheap]
      simp only [asteps, astep_stepV, hp, Option.map_some, Option.bind_some]
      exact i3

/-! every order -/

def setOf (listed : Array Bool) (i : Nat) : Bool := listed.getD i false

theorem aval_reads {ops : List Oper} {o : Oper} {env env' : AEnv} (h : ∀ t ∈ o.looksAt ops.toArray, eget env t = eget env' t) : ∀ x ∈ o.op.operands, aval env x = aval env' x := by
  intro x hx
  cases x with
  | tmp t =>
    simp only [aval]
    rw [h t (by
      simp only [Oper.looksAt, List.mem_append, List.mem_filterMap]
      exact .inl ⟨.tmp t, by simpa using hx, rfl⟩)]
  | _ => rfl

theorem awanted_reads {ops : List Oper} {o : Oper} {env env' : AEnv} (h : ∀ t ∈ o.looksAt ops.toArray, eget env t = eget env' t) : awanted ops env o = awanted ops env' o := by
  unfold awanted
  cases hg : o.guard with
  | none => rfl
  | some g =>
    obtain ⟨j, want⟩ := g
    simp only []
    have : ayield ops env j = ayield ops env' j := by
      unfold ayield
      cases hd : (ops[j]?).bind (·.dst) with
      | none => rfl
      | some t =>
        simp only []
        rw [h t (by
          simp only [Oper.looksAt, List.mem_append]
          refine .inr ?_
          rw [hg]
          simp only [List.getElem?_toArray]
          rw [hd]; simp)]
    rw [this]

theorem opsOf_get {ops : List Oper} {j : Nat} (h : j < ops.length) : ops[j]? = some (opsOf ops j) := by
  simp [opsOf, h]

/-- how many are still to come -/
def toCome (S : Nat → Bool) : Nat → Nat
  | 0 => 0
  | k + 1 => toCome S k + if S k then 0 else 1

theorem toCome_zero {S : Nat → Bool} : ∀ {n : Nat}, toCome S n = 0 → ∀ i, i < n → S i = true
  | 0, _, i, h => by omega
  | n + 1, h, i, hi => by
    simp only [toCome] at h
    by_cases hin : i = n
    · subst hin
      cases hS : S i with
      | true => rfl
      | false => rw [hS] at h; simp at h
    · exact toCome_zero (n := n) (by omega) i (by omega)

theorem toCome_step {S S' : Nat → Bool} {j : Nat} (hj : S j = false) (hj' : S' j = true) (h : ∀ i, i ≠ j → S i = S' i) : ∀ {n : Nat}, j < n → toCome S n = toCome S' n + 1
  | 0, hn => by omega
  | n + 1, hn => by
    simp only [toCome]
    by_cases hjn : j = n
    · subst hjn
      have : ∀ m, m ≤ j → toCome S m = toCome S' m := by
        intro m hm
        induction m with
        | zero => rfl
        | succ m ih => simp only [toCome]; rw [ih (by omega), h m (by omega)]
      rw [this j (Nat.le_refl _), hj, hj']; rfl
    · have := toCome_step hj hj' h (show j < n by omega)
      rw [this, h n (by omega)]; omega

theorem mem_ready {ops : List Oper} {listed : Array Bool} {i : Nat} (hl : listed.size = ops.length) : i ∈ Region.ready .any ops.toArray listed ↔ i < ops.length ∧ setOf listed i = false ∧ ∀ e ∈ (opsOf ops i).after.toList, Region.binds .any e = true → setOf listed e.on = true := by
  simp only [Region.ready, List.mem_filter, List.mem_range, List.size_toArray]
  constructor
  · rintro ⟨hi, h⟩
    simp only [Bool.and_eq_true, Bool.not_eq_true'] at h
    obtain ⟨h1, h2⟩ := h
    refine ⟨hi, ?_, fun e he hb => ?_⟩
    · have : i < listed.size := by omega
      simp only [setOf, Array.getD_eq_getD_getElem?, Array.getElem?_eq_getElem this] at h1 ⊢
      exact h1
    · rw [List.getElem?_toArray, opsOf_get hi] at h2
      simp only [Option.map_some, Option.getD_some, Array.all_eq_true'] at h2
      have := h2 e (by simpa using he)
      simp only [Bool.or_eq_true, Bool.not_eq_true'] at this
      rcases this with h | h
      · rw [hb] at h; cases h
      · exact h
  · rintro ⟨hi, h1, h2⟩
    refine ⟨hi, ?_⟩
    simp only [Bool.and_eq_true, Bool.not_eq_true']
    constructor
    · have : i < listed.size := by omega
      simp only [setOf, Array.getD_eq_getD_getElem?, Array.getElem?_eq_getElem this] at h1 ⊢
      exact h1
    · rw [List.getElem?_toArray, opsOf_get hi]
      simp only [Option.map_some, Option.getD_some, Array.all_eq_true']
      intro e he
      cases hb : Region.binds .any e with
      | false => rfl
      | true =>
        have := h2 e (by simpa using he) hb
        simp only [setOf] at this
        simp [this]

theorem order_sound (hm : c.P.follows .mixedOrders = true) (call : Callee) (hc : CallOK c base w0 call) (id : Nat) (opsA : Array Oper) (env env' : AEnv) (H H' : AHeap) (hok : drawOk c call opsA.toList env H = true) (hst : asteps c call opsA.toList opsA.toList env H = some (env', H'))
    (ρ : Pl) (w : World) (a : Act) (h : Rel c base w0 ρ H w) (hf : Fresh ρ H) (he : EnvR ρ env a.tmps) : (Code.region id opsA true).wp c.P (Behind c base w0 ρ H w a .normal env' H') a w := by
  obtain ⟨ops⟩ := opsA
  simp only [drawOk] at hok
  split at hok
  · cases hok
  · rename_i t ht
    obtain ⟨f1, f2, f3⟩ := trace_facts ht
    rw [hst] at f3
    simp only [Option.some.injEq, Prod.mk.injEq] at f3
    obtain ⟨rfl, rfl⟩ := f3
    have hsp : ∀ j, still c call ops env H t j = true → _ := fun j => still_spec (c := c) (H := H) (call := call) (ops := ops) (env := env) (t := t) (j := j)
    generalize hstl : still c call ops env H t = stl at *
    -- words
    generalize hdst : (fun i => (ops.getD i default).dst) = dst at *
    generalize hvals : (fun i => (t.getD i dft).1) = vals at *
    generalize hhs : (fun i => (t.getD i dft).2) = hs at *
    generalize hmv : (fun i => (moves ops H t).getD i false) = mv at *
    have hdst' : ∀ i, dst i = (opsOf ops i).dst := fun i => by rw [← hdst]; rfl
    have hvals' : ∀ i, (t.getD i dft).1 = vals i := fun i => by rw [← hvals]
    have hhs' : ∀ i, (t.getD i dft).2 = hs i := fun i => by rw [← hhs]
    have hmv' : ∀ i, (moves ops H t).getD i false = mv i := fun i => by rw [← hmv]
    obtain ⟨hedge, hpair⟩ := regOk_pair hok
    have hedge' : ∀ j, j < ops.length → ∀ e ∈ (opsOf ops j).after.toList, Region.binds .any e = true → e.on < j := by
      intro j hj e hej hb
      have := List.all_eq_true.1 (List.all_eq_true.1 hedge j (List.mem_range.2 hj)) e hej
      rw [hb] at this
      simpa using this
    have hpair' : ∀ i j, i < j → j < ops.length → pairOk ops (Region.before ops.toArray) (moves ops H t) stl i j = true := by
      exact hpair
    generalize hbf : Region.before ops.toArray = bf at *
    -- the heart: what holds when some have been run
    have main : ∀ (fuel : Nat) (listed : Array Bool) (ρ' : Pl) (a' : Act) (w' : World), listed.size = ops.length → toCome (setOf listed) ops.length = fuel →
        (∀ j, j < ops.length → setOf listed j = true → ∀ i, (bf.getD j 0).testBit i = true → setOf listed i = true) → a'.defers = a.defers →
        Post c base w0 ρ H w ρ' (heapK hs mv (setOf listed) H ops.length) w' → EnvR ρ' (envK dst vals (setOf listed) env ops.length) a'.tmps →
        wpAny c.P .any ops.toArray (Behind c base w0 ρ H w a .normal (envK dst vals (fun _ => true) env ops.length) (heapK hs mv (fun _ => true) H ops.length)) fuel listed a' w' := by
      intro fuel
      induction fuel with
      | zero =>
        intro listed ρ' a' w' hls hcount hclosed hdf hpost henv
        have hall := toCome_zero hcount
        have hE : EnvEq (envK dst vals (setOf listed) env ops.length) (envK dst vals (fun _ => true) env ops.length) :=
          ⟨by rw [envK_size, envK_size], fun t => envK_agree _ (fun i hi _ => hall i hi)⟩
        have hHH : heapK hs mv (setOf listed) H ops.length = heapK hs mv (fun _ => true) H ops.length := heapK_agree _ (fun i hi _ => hall i hi)
        refine ⟨?_, rfl, hdf, ρ', hHH ▸ hpost, henv.congr hE⟩
        rw [List.eq_nil_iff_forall_not_mem]
        intro i hi
        obtain ⟨hi1, hi2, _⟩ := (mem_ready hls).1 hi
        rw [hall i hi1] at hi2; cases hi2
      | succ fuel ih =>
        intro listed ρ' a' w' hls hcount hclosed hdf hpost henv
        refine ⟨fun hnil => ?_, fun j hj => ?_⟩
        · -- none is ready, and not all are through: that cannot be
          exfalso
          have hall : ∀ k, k ≤ ops.length → ∀ i, i < k → setOf listed i = true := by
            intro k
            induction k with
            | zero => intro _ i hi; omega
            | succ k ihk =>
              intro hk i hi
              by_cases hik : i = k
              · subst hik
                cases hS : setOf listed i with
                | true => rfl
                | false =>
                  have : i ∈ Region.ready .any ops.toArray listed := (mem_ready hls).2 ⟨by omega, hS, fun e hej hb => ihk (by omega) _ (hedge' i (by omega) e hej hb)⟩
                  rw [hnil] at this; cases this
              · exact ihk (by omega) i (by omega)
          have hz : toCome (setOf listed) ops.length = 0 := by
            have : ∀ m, m ≤ ops.length → toCome (setOf listed) m = 0 := by
              intro m hm'
              induction m with
              | zero => rfl
              | succ m ihm => simp only [toCome]; rw [ihm (by omega), hall _ (Nat.le_refl _) m (by omega)]; rfl
            exact this _ (Nat.le_refl _)
          omega
        · obtain ⟨hjn, hSj, hready⟩ := (mem_ready hls).1 hj
          have hoj := opsOf_get hjn
          -- those that must be ahead of j are through
          have hpre : ∀ i, (bf.getD j 0).testBit i = true → setOf listed i = true := by
            intro i hi
            rw [← hbf] at hi
            obtain ⟨e, hej, hb, hq⟩ := before_bits hoj (hedge' j hjn) hi
            rcases hq with rfl | hq
            · exact hready e hej hb
            · rw [hbf] at hq
              exact hclosed e.on (by have := hedge' j hjn e hej hb; omega) (hready e hej hb) i hq
          -- whoever is ordered against j stands as_ in the text
          have hord : ∀ i, i < ops.length → i ≠ j → (if i < j then (bf.getD j 0).testBit i else (bf.getD i 0).testBit j) = true → setOf listed i = decide (i < j) := by
            intro i hi hij hb
            by_cases hlt : i < j
            · rw [if_pos hlt] at hb
              rw [hpre i hb]; simp [hlt]
            · rw [if_neg hlt] at hb
              cases hS : setOf listed i with
              | false => simp; omega
              | true =>
                have := hclosed i hi hS j hb
                rw [hSj] at this; cases this
          have hpr : ∀ i, i < ops.length → i ≠ j → setOf listed i = decide (i < j) ∨ (Oper.apart ops.toArray (opsOf ops (min i j)) (opsOf ops (max i j)) = true ∧ (mv i = false ∨ stl j = true) ∧ (mv j = false ∨ stl i = true)) := by
            intro i hi hij
            by_cases hlt : i < j
            · have hp := hpair' i j hlt hjn
              simp only [pairOk, Bool.or_eq_true, Bool.and_eq_true, Bool.not_eq_true', hmv'] at hp
              rcases hp with hp | ⟨⟨hp1, hp2⟩, hp3⟩
              · exact .inl (hord i hi hij (by rw [if_pos hlt]; exact hp))
              · exact .inr ⟨by rw [Nat.min_eq_left (by omega), Nat.max_eq_right (by omega)]; exact hp1, hp2, hp3⟩
            · have hp := hpair' j i (by omega) hi
              simp only [pairOk, Bool.or_eq_true, Bool.and_eq_true, Bool.not_eq_true', hmv'] at hp
              rcases hp with hp | ⟨⟨hp1, hp2⟩, hp3⟩
              · exact .inl (hord i hi hij (by rw [if_neg hlt]; exact hp))
              · exact .inr ⟨by rw [Nat.min_eq_right (by omega), Nat.max_eq_left (by omega)]; exact hp1, hp3, hp2⟩
          -- what j reads is as_ in the text
          have hreads : ∀ t ∈ (opsOf ops j).looksAt ops.toArray, eget (envK dst vals (setOf listed) env ops.length) t = eget (envK dst vals (fun _ => true) env j) t := by
            intro t ht'
            rw [← envK_upto j ops.length (by omega)]
            refine envK_agree _ (fun i hi hd => ?_)
            by_cases hij : i = j
            · subst hij; rw [hSj]; simp
            · rcases hpr i hi hij with hp | ⟨hap, _⟩
              · exact hp
              · exfalso
                rw [hdst'] at hd
                by_cases hlt : i < j
                · rw [Nat.min_eq_left (by omega), Nat.max_eq_right (by omega)] at hap
                  exact (Oper.apart_spec hap).1 t hd ht'
                · rw [Nat.min_eq_right (by omega), Nat.max_eq_left (by omega)] at hap
                  exact (Oper.apart_spec hap).2.2 t hd ht'
          have hstep := f1 j (opsOf ops j) hoj
          -- the operation at the heap that stands now
          have hval : stepV c call ops (opsOf ops j) (envK dst vals (fun _ => true) env j) (heapK hs mv (fun _ => true) H j) = some (vals j, hs j) := by
            rw [hstep, ← hvals', ← hhs']
          have hmj : mv j = mvOf (opsOf ops j).op (heapK hs mv (fun _ => true) H j) (hs j) := by rw [← hmv', ← hhs']; exact f2 j hjn
          have hw : awanted ops (envK dst vals (setOf listed) env ops.length) (opsOf ops j) = awanted ops (envK dst vals (fun _ => true) env j) (opsOf ops j) := awanted_reads hreads
          have hop : ∀ K, aop c (envK dst vals (setOf listed) env ops.length) (opsOf ops j).op K = aop c (envK dst vals (fun _ => true) env j) (opsOf ops j).op K := fun K => aop_congr (aval_reads hreads) K
          generalize hS' : (fun i => if i = j then true else setOf listed i) = S' at *
          have hS'j : S' j = true := by rw [← hS']; simp
          have hS'n : ∀ i, i ≠ j → S' i = setOf listed i := fun i hi => by rw [← hS']; simp [hi]
          have hstay : mv j = false → heapK hs mv S' H ops.length = heapK hs mv (setOf listed) H ops.length := by
            intro hmj
            refine heapK_agree _ (fun i hi hmi => hS'n i fun hij => ?_)
            subst hij; rw [hmj] at hmi; cases hmi
          have hgo : ∃ Hn, stepV c call ops (opsOf ops j) (envK dst vals (setOf listed) env ops.length) (heapK hs mv (setOf listed) H ops.length) = some (vals j, Hn) ∧ Hn = heapK hs mv S' H ops.length := by
            have hval0 := hval
            simp only [stepV, Option.bind_eq_some_iff] at hval
            obtain ⟨b, hb, hval⟩ := hval
            cases b with
            | false =>
              simp only [Bool.false_eq_true, if_false, Option.some.injEq, Prod.mk.injEq] at hval
              have hm0 : mv j = false := by rw [hmj, ← hval.2]; exact mvOf_self _ _
              refine ⟨_, ?_, (hstay hm0).symm⟩
              simp only [stepV, hw, hb, Option.bind_some, Bool.false_eq_true, if_false, hval.1]
            | true =>
              by_cases hpj : isP (opsOf ops j).op = true
              · -- it does not look at the heap
                simp only [if_true, Option.bind_eq_some_iff] at hval
                obtain ⟨⟨r, H1⟩, hr, hval⟩ := hval
                obtain ⟨⟨rfl, v, rfl⟩, hK⟩ := isP_still hpj hr (heapK hs mv (setOf listed) H ops.length)
                simp only [Option.some.injEq, Prod.mk.injEq] at hval
                have hm0 : mv j = false := by rw [hmj, ← hval.2]; exact mvOf_self _ _
                refine ⟨_, ?_, (hstay hm0).symm⟩
                simp only [stepV, hw, hb, Option.bind_some, if_true, hop, hK, hval.1]
              by_cases hsj : stl j = true
              · -- it tells the same wherever it stands
                obtain ⟨hm0, hq⟩ := hsp j hsj
                rw [hmv'] at hm0
                have hq := hq.resolve_left hpj
                have hk := hq (lastK (setOf listed) mv ops.length) (lastK_le _) ?_ ?_
                · refine ⟨_, ?_, (hstay hm0).symm⟩
                  rw [lastK_heap (S := setOf listed)]
                  rw [← hvals' j, ← hk]
                  simp only [stepV, hw, hop]
                · rcases lastK_in (S := setOf listed) (mv := mv) ops.length with h0 | ⟨i, h0, _, _, hmi⟩
                  · exact .inl h0
                  · rw [h0]; exact .inr (by rw [hmv']; exact hmi)
                · simp only [possible, List.all_eq_true, List.mem_range, Bool.or_eq_true, Bool.and_eq_true, Bool.not_eq_true', decide_eq_true_eq, hmv', hbf]
                  intro i hi
                  cases hmi : mv i with
                  | false => exact .inl rfl
                  | true =>
                    refine .inr ⟨?_, ?_⟩
                    · cases hb1 : (bf.getD j 0).testBit i with
                      | false => exact .inl rfl
                      | true => exact .inr (lastK_ge (hpre i hb1) hmi _ hi)
                    · cases hb1 : (bf.getD i 0).testBit j with
                      | false => exact .inl rfl
                      | true =>
                        refine .inr ?_
                        have hSi : setOf listed i = false := by
                          cases hS : setOf listed i with
                          | false => rfl
                          | true => rw [hclosed i hi hS j hb1] at hSj; cases hSj
                        rcases lastK_in (S := setOf listed) (mv := mv) ops.length with h0 | ⟨m, h0, hmn, hSm, hmm⟩
                        · omega
                        · rw [h0]
                          rcases Nat.lt_trichotomy m i with hlt | rfl | hlt
                          · exact hlt
                          · rw [hSm] at hSi; cases hSi
                          · exfalso
                            have hp := hpair' i m hlt hmn
                            simp only [pairOk, Bool.or_eq_true, Bool.and_eq_true, Bool.not_eq_true', hmv'] at hp
                            rcases hp with hp | ⟨⟨_, hp2⟩, _⟩
                            · rw [hclosed m hmn hSm i hp] at hSi; cases hSi
                            · rcases hp2 with hp2 | hp2
                              · rw [hmi] at hp2; cases hp2
                              · have := (hsp m hp2).1
                                rw [hmv', hmm] at this; cases this
              · -- it stands at the text's heap
                have hsj' : stl j = false := by simpa using hsj
                have hmoved : ∀ i, i < ops.length → i ≠ j → mv i = true → setOf listed i = decide (i < j) := by
                  intro i hi hij hmi
                  rcases hpr i hi hij with hp | ⟨_, hp, _⟩
                  · exact hp
                  · rcases hp with hp | hp
                    · rw [hmi] at hp; cases hp
                    · rw [hsj'] at hp; cases hp
                have hHS : heapK hs mv (setOf listed) H ops.length = heapK hs mv (fun _ => true) H j := by
                  rw [← heapK_upto j ops.length (by omega)]
                  refine heapK_agree _ (fun i hi hmi => ?_)
                  by_cases hij : i = j
                  · subst hij; rw [hSj]; simp
                  · exact hmoved i hi hij hmi
                refine ⟨hs j, ?_, ?_⟩
                · rw [hHS]
                  simp only [stepV, hw, hop]
                  exact hval0
                · cases hmq : mv j with
                  | true =>
                    refine (heapK_last hmq hS'j ops.length hjn (fun i h1 h2 hmi => ?_)).symm
                    rw [hS'n i (by omega), hmoved i h2 (by omega) hmi]
                    simp; omega
                  | false =>
                    rw [hstay hmq, hHS]
                    rw [hmq] at hmj
                    exact mvOf_same hmj.symm hval0
          obtain ⟨Hn, hgo, rfl⟩ := hgo
          have hast : astep c call ops (opsOf ops j) (envK dst vals (setOf listed) env ops.length) (heapK hs mv (setOf listed) H ops.length) = some (eput (envK dst vals (setOf listed) env ops.length) (dst j) (vals j), heapK hs mv S' H ops.length) := by
            rw [astep_stepV, hgo, hdst']; rfl
          have hset : setOf (listed.setIfInBounds j true) = S' := by
            funext i
            simp only [setOf, Array.getD_eq_getD_getElem?, Array.getElem?_setIfInBounds]
            by_cases hij : j = i
            · subst hij
              rw [if_pos rfl, if_pos (by omega), hS'j]; rfl
            · rw [if_neg hij, hS'n i (Ne.symm hij)]
              simp [setOf, Array.getD_eq_getD_getElem?]
          have henv' : EnvEq (eput (envK dst vals (setOf listed) env ops.length) (dst j) (vals j)) (envK dst vals S' env ops.length) := by
            refine ⟨by rw [eput_size, envK_size, envK_size], fun t => ?_⟩
            by_cases hdt : dst j = some t
            · have := envK_last (vals := vals) (env := env) hdt hS'j ops.length hjn (fun i h1 h2 hd => by
                rw [hS'n i (by omega)]
                rcases hpr i h2 (by omega) with hp | ⟨hap, _⟩
                · rw [hp]; simp; omega
                · exfalso
                  rw [Nat.min_eq_right (by omega), Nat.max_eq_left (by omega)] at hap
                  rw [hdst'] at hd hdt
                  exact (Oper.apart_spec hap).2.1 t hdt hd)
              rw [this, hdt]
              exact eput_eq (by rw [envK_size, envK_size])
            · rw [eput_ne hdt]
              refine envK_agree _ (fun i hi hd => ?_)
              exact (hS'n i (fun hij => hdt (by rw [← hij]; exact hd))).symm
          refine step_sound hc hpost.rel (hpost.fresh hf) henv hoj hast ?_
          rintro a2 w2 ⟨hd2, ρ2, hp2, he2⟩
          refine ih (listed.setIfInBounds j true) ρ2 a2 w2 (by simpa using hls) ?_ ?_ (hd2.trans hdf) ?_ ?_
          · rw [hset]
            have := toCome_step hSj hS'j (fun i hi => (hS'n i hi).symm) hjn
            omega
          · rw [hset]
            intro k hk hSk i hi
            by_cases hij : i = j
            · rw [hij]; exact hS'j
            · rw [hS'n i hij]
              by_cases hkj : k = j
              · subst hkj; exact hpre i hi
              · exact hclosed k hk (by rw [← hS'n k hkj]; exact hSk) i hi
          · rw [hset]; exact hpost.trans hp2
          · rw [hset]; exact he2.congr henv'
    refine wp_region_any hm ?_
    have hS0 : ∀ i, setOf (Array.replicate ops.length false) i = false := fun i => by
      simp only [setOf, Array.getD_eq_getD_getElem?, Array.getElem?_replicate]
      split <;> rfl
    have hE0 : ∀ k, envK dst vals (setOf (Array.replicate ops.length false)) env k = env := by
      intro k
      induction k with
      | zero => rfl
      | succ k ihk => simp only [envK, hS0]; simpa using ihk
    have hH0 : ∀ k, heapK hs mv (setOf (Array.replicate ops.length false)) H k = H := by
      intro k
      induction k with
      | zero => rfl
      | succ k ihk => simp only [heapK, hS0]; simpa using ihk
    have hT0 : ∀ k, toCome (setOf (Array.replicate ops.length false)) k = k := by
      intro k
      induction k with
      | zero => rfl
      | succ k ihk => simp only [toCome, hS0]; simp [ihk]
    refine main ops.length (Array.replicate ops.length false) ρ a _ (by simp) (hT0 _) (fun j _ hj => by rw [hS0] at hj; cases hj) rfl ?_ ?_
    · rw [hH0]; exact post_drew h
    · rw [hE0]; exact he

/-! what a call has left behind it that nobody knows is forgotten -/

mutual
theorem VR.det {ρ : Pl} : ∀ {v : AV} {x y : Value}, VR ρ v x → VR ρ v y → x = y
  | .bool _, _, _, e, f => e.trans f.symm
  | .int _ _, _, _, e, f => e.trans f.symm
  | .str _, _, _, e, f => e.trans f.symm
  | .nilptr, _, _, e, f => e.trans f.symm
  | .ptr _ _, _, _, ⟨p, e, hx⟩, ⟨q, f, hy⟩ => by rw [e] at f; cases f; rw [hx, hy]
  | .nilslice, _, _, e, f => e.trans f.symm
  | .slice _ _ _ _, _, _, ⟨p, e, _, hx⟩, ⟨q, f, _, hy⟩ => by rw [e] at f; cases f; rw [hx, hy]
  | .odd _, _, _, e, f => e.trans f.symm
  | .nilmap, _, _, e, f => e.trans f.symm
  | .map _, _, _, ⟨p, e, hx⟩, ⟨q, f, hy⟩ => by rw [e] at f; cases f; rw [hx, hy]
  | .nilfunc, _, _, e, f => e.trans f.symm
  | .func _ _ _, _, _, ⟨xs, ys, e, f, hx⟩, ⟨xs', ys', e', f', hy⟩ => by rw [hx, hy, VRs.det e e', VRs.det f f']
  | .niliface, _, _, e, f => e.trans f.symm
  | .iface _ _, _, _, ⟨y, e, hx⟩, ⟨y', e', hx'⟩ => by rw [hx, hx', VR.det e e']
  | .agg _, _, _, ⟨xs, e, hx⟩, ⟨xs', e', hx'⟩ => by rw [hx, hx', VRs.det e e']
  | .tuple _, _, _, ⟨xs, e, hx⟩, ⟨xs', e', hx'⟩ => by rw [hx, hx', VRs.det e e']
theorem VRs.det {ρ : Pl} : ∀ {v : List AV} {x y : List Value}, VRs ρ v x → VRs ρ v y → x = y
  | [], _, _, e, f => e.trans f.symm
  | _ :: _, _, _, ⟨y, ys, hx, e, f⟩, ⟨y', ys', hx', e', f'⟩ => by rw [hx, hx', VR.det e e', VRs.det f f']
end

def Loc.low (n : Nat) : Loc → Bool
  | .own i => decide (i < n)
  | .ext _ => true

mutual
def AV.low (n : Nat) : AV → Bool
  | .ptr l _ => l.low n
  | .slice l _ _ _ => l.low n
  | .map l => l.low n
  | .func _ a b => AV.lows n a && AV.lows n b
  | .iface _ v => AV.low n v
  | .agg l => AV.lows n l
  | .tuple l => AV.lows n l
  | _ => true
def AV.lows (n : Nat) : List AV → Bool
  | [] => true
  | v :: r => AV.low n v && AV.lows n r
end

mutual
theorem VR.restrict {ρ ρ' : Pl} {n : Nat} (hb : ∀ l p, ρ' l = some p → l.low n = true → ρ l = some p) : ∀ {v : AV} {x : Value}, v.low n = true → VR ρ' v x → VR ρ v x
  | .bool _, _, _, e => e
  | .int _ _, _, _, e => e
  | .str _, _, _, e => e
  | .nilptr, _, _, e => e
  | .ptr _ _, _, hl, ⟨p, e, hx⟩ => ⟨p, hb _ _ e (by simpa [AV.low] using hl), hx⟩
  | .nilslice, _, _, e => e
  | .slice _ _ _ _, _, hl, ⟨p, e, hx⟩ => ⟨p, hb _ _ e (by simpa [AV.low] using hl), hx⟩
  | .odd _, _, _, e => e
  | .nilmap, _, _, e => e
  | .map _, _, hl, ⟨p, e, hx⟩ => ⟨p, hb _ _ e (by simpa [AV.low] using hl), hx⟩
  | .nilfunc, _, _, e => e
  | .func _ a b, _, hl, ⟨xs, ys, e, f, hx⟩ => by
    have hl : AV.lows n a = true ∧ AV.lows n b = true := by simpa [AV.low] using hl
    exact ⟨xs, ys, VRs.restrict hb hl.1 e, VRs.restrict hb hl.2 f, hx⟩
  | .niliface, _, _, e => e
  | .iface _ v, _, hl, ⟨y, e, hx⟩ => ⟨y, VR.restrict hb (by simpa [AV.low] using hl) e, hx⟩
  | .agg l, _, hl, ⟨xs, e, hx⟩ => ⟨xs, VRs.restrict hb (by simpa [AV.low] using hl) e, hx⟩
  | .tuple l, _, hl, ⟨xs, e, hx⟩ => ⟨xs, VRs.restrict hb (by simpa [AV.low] using hl) e, hx⟩
theorem VRs.restrict {ρ ρ' : Pl} {n : Nat} (hb : ∀ l p, ρ' l = some p → l.low n = true → ρ l = some p) : ∀ {v : List AV} {x : List Value}, AV.lows n v = true → VRs ρ' v x → VRs ρ v x
  | [], _, _, e => e
  | v :: r, _, hl, ⟨y, ys, hx, e, f⟩ => by
    have hl : AV.low n v = true ∧ AV.lows n r = true := by simpa [AV.lows] using hl
    exact ⟨y, ys, hx, VR.restrict hb hl.1 e, VRs.restrict hb hl.2 f⟩
end

theorem VR.back {ρ ρ' : Pl} (h : Ext ρ ρ') {v : AV} {x y : Value} (a : VR ρ v x) (b : VR ρ' v y) : VR ρ v y := by
  have := VR.det (a.mono h) b
  exact this ▸ a

theorem EntR.back {ρ ρ' : Pl} (h : Ext ρ ρ') {es : List (AV × AV × Nat)} {xs : List MapEntry} (a : EntR ρ es xs) : ∀ {ys : List MapEntry}, EntR ρ' es ys → EntR ρ es ys := by
  induction a with
  | nil => intro ys b; cases b; exact .nil
  | cons hk hv _ ih => intro ys b; cases b with | cons hk' hv' hr => exact .cons (hk.back h hk') (hv.back h hv') (ih hr)

theorem ObjR.back {ρ ρ' : Pl} (h : Ext ρ ρ') {p : Place} {hp hp' : Array Obj} {o : AObj} (a : ObjR ρ p hp o) (b : ObjR ρ' p hp' o) : ObjR ρ p hp' o := by
  cases o with
  | row ty esz cells =>
    obtain ⟨_, _, _, _, a4⟩ := a
    obtain ⟨cs, h1, h2, h3, h4⟩ := b
    refine ⟨cs, h1, h2, h3, fun j v hj => ?_⟩
    obtain ⟨x, hx, hv, ho⟩ := h4 j v hj
    obtain ⟨y, _, hy, _⟩ := a4 j v hj
    exact ⟨x, hx, hy.back h hv, ho⟩
  | empty c0 => exact b
  | map es clock => obtain ⟨_, _, a2⟩ := a; obtain ⟨ents, h1, h2⟩ := b; exact ⟨ents, h1, a2.back h h2⟩
  | siter s pos => exact b
  | miter => exact b.elim

theorem Post.shrink {w w' : World} {ρ ρ' : Pl} {H H' : AHeap} (h : Rel c base w0 ρ H w) (hp : Post c base w0 ρ H w ρ' H' w') (heq : H'.take H.length = H) : Post c base w0 ρ H w ρ H w' := by
  have hh : ∀ {i : Nat} {o : AObj}, hat H i = some o → hat H' i = some o := by
    intro i o e
    have hi := hat_lt e
    rw [← e]
    unfold hat
    conv => rhs; rw [← heq]
    rw [List.getElem?_take, if_pos hi]
  refine ⟨⟨hp.rel.below, hp.rel.size, ?_, ?_, ?_, h.glob⟩, Ext.refl _, fun l p e => .inl e, Nat.le_refl _, hp.size, hp.frame, fun i o p e s r => .inr ⟨i, o, p, e, s, r, rfl⟩⟩
  · intro i o e
    obtain ⟨p, hr, ho, hb⟩ := h.own i o e
    obtain ⟨p', hr', ho', _⟩ := hp.rel.own i o (hh e)
    rw [hp.ext _ _ hr] at hr'; cases hr'
    exact ⟨p, hr, ho.back hp.ext ho', hb⟩
  · intro i j o o' p q e e' s s' r r' hpq
    exact hp.rel.inj i j o o' p q (hh e) (hh e') s s' (hp.ext _ _ r) (hp.ext _ _ r') hpq
  · intro path cells e
    obtain ⟨p, hr, hb, ho⟩ := h.ext path cells e
    obtain ⟨p', hr', _, ho'⟩ := hp.rel.ext path cells e
    rw [hp.ext _ _ hr] at hr'; cases hr'
    refine ⟨p, hr, hb, fun j v hj => ?_⟩
    obtain ⟨x, hx, hv, hone⟩ := ho' j v hj
    obtain ⟨y, _, hy, _⟩ := ho j v hj
    exact ⟨x, hx, hy.back hp.ext hv, hone⟩

/-- A call that has turned nothing that lay, and tells nothing of what it has made, has made nothing. -/
def gcCall (call : Callee) : Callee := fun f args H => (call f args H).map fun p => if Nat.blt H.length p.2.length && (AV.low H.length p.1 && heapEq (p.2.take H.length) H) then (p.1, H) else p

theorem gc_sound {call : Callee} (hc : CallOK c base w0 call) : CallOK c base w0 (gcCall call) := by
  intro f args H v H' e ρ w xs h hf hx
  simp only [gcCall, Option.map_eq_some_iff] at e
  obtain ⟨⟨u, K⟩, hu, e⟩ := e
  refine (hc f args H u K hu ρ w xs h hf hx).mono ?_
  rintro e' w' ⟨ρ', x, rfl, hv, hp⟩
  split at e
  · rename_i hq
    cases e
    simp only [Bool.and_eq_true] at hq
    refine ⟨ρ, x, rfl, VR.restrict (fun l p hl hlow => ?_) hq.2.1 hv, hp.shrink h (heapEq_eq hq.2.2)⟩
    rcases hp.new l p hl with hl | ⟨i, rfl, hi, _⟩
    · exact hl
    · simp [Loc.low] at hlow; omega
  · cases e
    exact ⟨ρ', x, rfl, hv, hp⟩

/-- what the text's order ends in -/
def endOf : List Oper → List (Option AV × AHeap) → AEnv → AHeap → AEnv × AHeap
  | o :: r, p :: t, env, _ => endOf r t (eput env o.dst p.1) p.2
  | _, _, env, H => (env, H)

theorem endOf_steps {call : Callee} {ops : List Oper} : ∀ {r : List Oper} {env : AEnv} {H : AHeap} {t : List (Option AV × AHeap)}, trace c call ops r env H = some t → asteps c call ops r env H = some (endOf r t env H)
  | [], env, H, t, e => by simp only [trace, Option.some.injEq] at e; subst e; rfl
  | o :: r, env, H, t, e => by
    simp only [trace, Option.bind_eq_some_iff, Option.some.injEq] at e
    obtain ⟨p, hp, t', ht, rfl⟩ := e
    simp only [asteps, astep_stepV, hp, Option.map_some, Option.bind_some, endOf]
    exact endOf_steps ht

/-- what a region that draws its order does -/
def drawRun : DrawOk := fun c call ops env H => (trace c call ops ops env H).bind fun t => if regOk ops (moves ops H t) (still c call ops env H t) then some (endOf ops t env H) else none

theorem draw_sound (hm : c.P.follows .mixedOrders = true) (call : Callee) (hc : CallOK c base w0 call) : DrawOKs c base w0 drawRun call := by
  intro id ops env env' H H' e ρ w a h hf he
  simp only [drawRun, Option.bind_eq_some_iff] at e
  obtain ⟨t, ht, e⟩ := e
  split at e
  · rename_i hok
    refine order_sound hm call hc id ops env env' H H' ?_ ?_ ρ w a h hf he
    · simp only [drawOk, ht]; exact hok
    · rw [endOf_steps ht]; exact e
  · cases e

end Go.AM

/-
  REGIONS THAT DRAW THEIR ORDER AND MAKE NEW THINGS (own work): where each operation does the same on what is ordered ahead of it alone, and only adds to the heap, every order ends in the same heap: each new thing has the number that the text's order gives it.
-/
namespace Go.AM
open Go.RowKit
set_option linter.unusedSimpArgs false

variable {c : Ctx} {base : Nat} {w0 w : World} {ρ : Pl} {H : AHeap}

/-! part of a heap -/

def mask (keep : Nat → Bool) : Nat → AHeap → AHeap
  | _, [] => []
  | i, o :: r => (if keep i then o else none) :: mask keep (i + 1) r

theorem mask_len {keep : Nat → Bool} : ∀ {L : AHeap} {i : Nat}, (mask keep i L).length = L.length
  | [], _ => rfl
  | _ :: r, i => by simp [mask, mask_len (L := r)]

theorem mask_get {keep : Nat → Bool} : ∀ {L : AHeap} {i j : Nat}, (mask keep i L)[j]? = (L[j]?).map fun o => if keep (i + j) then o else none
  | [], _, j => by simp [mask]
  | o :: r, i, 0 => by simp [mask]
  | o :: r, i, j + 1 => by
    simp only [mask, List.getElem?_cons_succ, mask_get (L := r)]
    rw [show i + 1 + j = i + (j + 1) by omega]

theorem mask_hat {keep : Nat → Bool} {L : AHeap} {i : Nat} : hat (mask keep 0 L) i = if keep i then hat L i else none := by
  unfold hat
  rw [mask_get]
  cases L[i]? with
  | none => simp
  | some o => simp

theorem mask_all {keep : Nat → Bool} {L : AHeap} (h : ∀ i, i < L.length → keep i = true) : mask keep 0 L = L := by
  apply List.ext_getElem?
  intro j
  rw [mask_get]
  rcases Nat.lt_or_ge j L.length with hj | hj
  · rw [List.getElem?_eq_getElem hj]
    simp [h j hj]
  · rw [List.getElem?_eq_none hj]; rfl

def AObj.low (n : Nat) : AObj → Bool
  | .row _ _ cells => AV.lows n cells
  | .map es _ => es.all fun e => AV.low n e.1 && AV.low n e.2.1
  | _ => true

def heapLow (n : Nat) (L : AHeap) : Bool := L.all fun o => match o with | some o => o.low n | none => true

theorem heapLow_hat {n : Nat} {L : AHeap} (h : heapLow n L = true) {i : Nat} {o : AObj} (e : hat L i = some o) : o.low n = true := by
  unfold hat at e
  cases hl : L[i]? with
  | none => rw [hl] at e; cases e
  | some q =>
    rw [hl] at e
    have := List.all_eq_true.1 h q (List.mem_of_getElem? hl)
    cases e
    exact this

theorem lows_get {n : Nat} : ∀ {l : List AV}, AV.lows n l = true → ∀ {j : Nat} {v : AV}, l[j]? = some v → v.low n = true
  | [], _, j, v, e => by simp at e
  | u :: r, h, 0, v, e => by simp [AV.lows] at h e; subst e; exact h.1
  | u :: r, h, j + 1, v, e => by simp [AV.lows] at h; exact lows_get h.2 (by simpa using e)

theorem EntR.restrict {ρ ρ' : Pl} {n : Nat} (hb : ∀ l p, ρ' l = some p → l.low n = true → ρ l = some p) {es : List (AV × AV × Nat)} {xs : List MapEntry} (k : EntR ρ' es xs) (hl : (es.all fun e => AV.low n e.1 && AV.low n e.2.1) = true) : EntR ρ es xs := by
  induction k with
  | nil => exact .nil
  | cons hk hv _ ih =>
    simp only [List.all_cons, Bool.and_eq_true] at hl
    exact .cons (VR.restrict hb hl.1.1 hk) (VR.restrict hb hl.1.2 hv) (ih hl.2)

theorem ObjR.restrict {ρ ρ' : Pl} {n : Nat} (hb : ∀ l p, ρ' l = some p → l.low n = true → ρ l = some p) {p : Place} {hp : Array Obj} {o : AObj} (k : ObjR ρ' p hp o) (hl : o.low n = true) : ObjR ρ p hp o := by
  cases o with
  | row ty esz cells =>
    obtain ⟨cs, h1, h2, h3, h4⟩ := k
    exact ⟨cs, h1, h2, h3, fun j v hj => by obtain ⟨x, hx, hv, ho⟩ := h4 j v hj; exact ⟨x, hx, VR.restrict hb (lows_get hl hj) hv, ho⟩⟩
  | empty c0 => exact k
  | map es clock => obtain ⟨ents, h1, h2⟩ := k; exact ⟨ents, h1, EntR.restrict hb h2 hl⟩
  | siter s pos => exact k
  | miter => exact k.elim

/-- what a state knows of the values that lay at its start alone -/
def Tr.low (n : Nat) : Tr → Tr
  | .leaf => .leaf
  | .node v l r => .node (match v with | some u => if u.low n then some u else none | none => none) (Tr.low n l) (Tr.low n r)

def lowV (n : Nat) (o : Option AV) : Option AV := match o with | some u => if u.low n then some u else none | none => none

theorem Tr.low_get {n : Nat} : ∀ {d t : Nat} {x : Tr}, Tr.get d t (Tr.low n x) = lowV n (Tr.get d t x)
  | 0, _, _ => rfl
  | _ + 1, _, .leaf => by simp [Tr.low, Tr.get, lowV]
  | _ + 1, 0, .node v l r => rfl
  | d + 1, q + 1, .node v l r => by
    simp only [Tr.low, Tr.get]
    cases Nat.beq (q % 2) 1 <;> exact Tr.low_get

def lowEnv (n : Nat) (env : AEnv) : AEnv := ⟨env.size, Tr.low n env.tr⟩

theorem lowEnv_get {n : Nat} {env : AEnv} {t : Nat} : eget (lowEnv n env) t = lowV n (eget env t) := by
  simp only [eget, lowEnv]
  cases Nat.blt t env.size with
  | true => exact Tr.low_get
  | false => rfl

def cut (n : Nat) (ρ : Pl) : Pl := fun l => if l.low n then ρ l else none

theorem EnvR.cut {n : Nat} {env : AEnv} {tmps : Array Value} (h : EnvR ρ env tmps) : EnvR (cut n ρ) (lowEnv n env) tmps := by
  refine ⟨by simp [lowEnv, h.1], fun t v e => ?_⟩
  rw [lowEnv_get] at e
  cases ht : eget env t with
  | none => rw [ht] at e; cases e
  | some u =>
    rw [ht] at e
    simp only [lowV] at e
    split at e
    · rename_i hl
      cases e
      obtain ⟨x, hx, hv⟩ := h.2 t _ ht
      exact ⟨x, hx, VR.restrict (fun l p hl hlow => by simp [AM.cut, hlow, hl]) hl hv⟩
    · cases e

/-! the check -/

/-- which numbers are there when the operations of S have been run -/
def keepS (s : Nat → Nat) (n : Nat) (S : Nat → Bool) (i : Nat) : Bool := Nat.blt i (s 0) || (List.range n).any fun j => S j && (Nat.ble (s j) i && Nat.blt i (s (j + 1)))

def heapsOf (H : AHeap) (t : List (Option AV × AHeap)) (k : Nat) : AHeap := match k with | 0 => H | k + 1 => (t.getD k dft).2

/-- the same as the text's order does, on what is ordered ahead alone; and nothing that lay has turned -/
def freeAt (c : Ctx) (call : Callee) (ops : List Oper) (env : AEnv) (H : AHeap) (t : List (Option AV × AHeap)) (j : Nat) : Bool :=
  let s := fun k => (heapsOf H t k).length
  let B := fun i => ((Region.before ops.toArray).getD j 0).testBit i
  heapEq ((heapsOf H t (j + 1)).take (s j)) (heapsOf H t j) &&
  (heapLow (s j) (mask (keepS s ops.length B) 0 (heapsOf H t j)) &&
   sameStep (stepV c call ops (opsOf ops j) (lowEnv (s j) (envK (fun i => (ops.getD i default).dst) (fun i => (t.getD i dft).1) (fun _ => true) env j)) (mask (keepS s ops.length B) 0 (heapsOf H t j)))
     (t.getD j dft).1 (mask (keepS s ops.length fun i => B i || Nat.beq i j) 0 (heapsOf H t (j + 1))))

def freeOk (c : Ctx) (call : Callee) (ops : List Oper) (env : AEnv) (H : AHeap) (t : List (Option AV × AHeap)) : Bool :=
  edgesOk ops && (apartOk ops && (List.range ops.length).all fun j => freeAt c call ops env H t j)

/-! one operation, told exactly -/

theorem stepV_sound {call : Callee} (hc : CallOK c base w0 call) (h : Rel c base w0 ρ H w) (hf : Fresh ρ H) {env : AEnv} {a : Act} (he : EnvR ρ env a.tmps) {ops : List Oper} {i : Nat} {o : Oper} (ho : ops[i]? = some o) {u : Option AV} {H' : AHeap}
    (e : stepV c call ops o env H = some (u, H')) {Q : Exit → Act → World → Prop} {K : Act → World → Prop} (hK : ∀ x w' ρ', (∀ v, u = some v → VR ρ' v x) → Post c base w0 ρ H w ρ' H' w' → K (a.put o.dst x) w') : wpOp c.P ops.toArray Q i K a w := by
  have ho' : ops.toArray[i]? = some o := by simpa using ho
  simp only [stepV, Option.bind_eq_some_iff] at e
  obtain ⟨b, hb, e⟩ := e
  have hw := wanted_sound he hb
  simp only [wpOp, ho']
  cases b with
  | false =>
    simp only [Bool.false_eq_true, if_false, Option.some.injEq, Prod.mk.injEq] at e
    obtain ⟨rfl, rfl⟩ := e
    rw [hw, if_neg (by simp)]
    exact hK _ _ ρ (fun v hv => by cases hv; exact undef_r ρ) (Post.refl h)
  | true =>
    simp only [if_true, Option.bind_eq_some_iff] at e
    obtain ⟨⟨r, H1⟩, hr, e⟩ := e
    obtain ⟨ρ1, n, w1, hrun, hres, hpost⟩ := op_sound h he hr (fun _ => hf _ (Nat.le_refl _))
    rw [hw, if_pos rfl]
    refine .inl ?_
    unfold Oper.wp
    rw [hrun]
    cases r with
    | val v =>
      cases e
      cases n <;> simp only [PRes] at hres
      rename_i x
      exact hK _ _ ρ1 (fun u hu => by cases hu; exact hres) hpost
    | skip =>
      cases e
      cases n <;> simp only [PRes] at hres
      exact hK _ _ ρ1 (fun v hv => by cases hv; exact undef_r ρ1) hpost
    | call f args =>
      cases n <;> simp only [PRes] at hres
      rename_i g xs
      obtain ⟨rfl, l, hl, rfl⟩ := hres
      simp only [Option.bind_eq_some_iff] at e
      obtain ⟨⟨v, H2⟩, hv, e⟩ := e
      cases e
      refine Calls.mono (hc f args H1 v H2 hv ρ1 w1 l hpost.rel (hpost.fresh hf) hl) ?_
      rintro e' w' ⟨ρ', x, rfl, hvr, hp2⟩
      exact hK _ _ ρ' (fun u hu => by cases hu; exact hvr) (hpost.trans hp2)

/-! THE FRAME -/

section
variable {V V' A A' L : AHeap} {m : Nat} {ρ0 ρ' : Pl} {w1 w' : World}

/-- what is at hand in the middle: the start (ρ0, H, w), the state now (ρ, A, w1) -/
theorem cut_ext (hf0 : Fresh ρ0 H) (hx : Ext ρ0 ρ) (hm : H.length ≤ m) : Ext ρ0 (cut m ρ) := by
  intro l p e
  have := hx l p e
  unfold cut
  have hl : l.low m = true := by
    cases l with
    | own i =>
      simp only [Loc.low, decide_eq_true_eq]
      rcases Nat.lt_or_ge i H.length with h | h
      · omega
      · rw [hf0 i h] at e; cases e
    | ext _ => rfl
  rw [if_pos hl]; exact this

theorem cut_some {l : Loc} {p : Place} (e : cut m ρ l = some p) : ρ l = some p ∧ l.low m = true := by
  unfold cut at e
  split at e
  · rename_i h; exact ⟨e, h⟩
  · cases e

/-- part of what lies, on its own -/
theorem rel_part (h0 : Rel c base w0 ρ0 H w) (hf0 : Fresh ρ0 H) (hx : Ext ρ0 ρ) (hm : H.length ≤ m) (h : Rel c base w0 ρ A w1) (hsub : ∀ i o, hat V i = some o → hat A i = some o) (hlow : heapLow m V = true) (hlen : V.length = m) : Rel c base w0 (cut m ρ) V w1 := by
  have hb : ∀ l p, ρ l = some p → l.low m = true → cut m ρ l = some p := fun l p e hl => by simp [cut, hl, e]
  refine ⟨h.below, h.size, ?_, ?_, ?_, ?_⟩
  · intro i o e
    obtain ⟨p, hp, ho, hs⟩ := h.own i o (hsub i o e)
    have hi : i < m := hlen ▸ hat_lt e
    exact ⟨p, hb _ _ hp (by simp [Loc.low, hi]), ho.restrict hb (heapLow_hat hlow e), hs⟩
  · intro i j o o' p q e e' s s' r r' hpq
    exact h.inj i j o o' p q (hsub i o e) (hsub j o' e') s s' (cut_some r).1 (cut_some r').1 hpq
  · intro path cells hG
    obtain ⟨p0, hp0, _, hc0⟩ := h0.ext path cells hG
    obtain ⟨p, hp, hbb, hc⟩ := h.ext path cells hG
    refine ⟨p, hb _ _ hp rfl, hbb, fun j v hj => ?_⟩
    obtain ⟨x, hx1, hv, ho⟩ := hc j v hj
    obtain ⟨x0, _, hv0, _⟩ := hc0 j v hj
    have : x0 = x := VR.det (hv0.mono hx) hv
    subst this
    exact ⟨x0, hx1, hv0.mono (cut_ext hf0 hx hm), ho⟩
  · intro g; obtain ⟨n, hn⟩ := h.glob g; exact ⟨n, hb _ _ hn rfl⟩

/-- where things lie behind the step -/
def joinP (m k : Nat) (ρ ρ' : Pl) : Pl := fun l => match l with
  | .own i => if m ≤ i ∧ i < k then ρ' l else ρ l
  | _ => ρ l

theorem post_part (_h0 : Rel c base w0 ρ0 H w) (_hf0 : Fresh ρ0 H) (hm : H.length ≤ m) (hp0 : Post c base w0 ρ0 H w ρ A w1) (hsub : ∀ i o, hat V i = some o → hat A i = some o) (_hlow : heapLow m V = true) (hlen : V.length = m)
    (hp : Post c base w0 (cut m ρ) V w1 ρ' V' w') (hkeep : V'.take m = V) (hnone : ∀ i, m ≤ i → i < V'.length → ρ (.own i) = none)
    (hA : ∀ i o, hat A' i = some o ↔ hat A i = some o ∨ (m ≤ i ∧ hat V' i = some o)) (hAl : A'.length = A.length) (hVl : V'.length ≤ A.length) :
    Post c base w0 ρ0 H w (joinP m V'.length ρ ρ') A' w' ∧ Ext ρ (joinP m V'.length ρ ρ') ∧ Ext ρ' (joinP m V'.length ρ ρ') := by
  have h := hp0.rel
  have hVm : m ≤ V'.length := hlen ▸ hp.len
  have he : Ext ρ (joinP m V'.length ρ ρ') := by
    intro l p e
    cases l with
    | own i =>
      simp only [joinP]
      split
      · rename_i hi; rw [hnone i hi.1 hi.2] at e; cases e
      · exact e
    | ext _ => exact e
  have he' : Ext ρ' (joinP m V'.length ρ ρ') := by
    intro l p e
    rcases hp.new l p e with e1 | ⟨i, rfl, h1, h2⟩
    · obtain ⟨e2, hl⟩ := cut_some e1
      exact he l p e2
    · simp only [joinP]
      rw [if_pos ⟨by omega, h2⟩]; exact e
  have hV' : ∀ {i o}, hat V i = some o → hat V' i = some o := by
    intro i o e
    have hi := hat_lt e
    rw [← e, ← hkeep]
    unfold hat
    rw [List.getElem?_take, if_pos (by omega)]
  -- an object that lay
  have hold : ∀ {i o}, hat A i = some o → ∃ p, ρ (.own i) = some p ∧ ObjR (joinP m V'.length ρ ρ') p w'.heap o ∧ (o.solid = true → base ≤ p.b) ∧ ((∃ o2, hat V i = some o2) ∨ (o.solid = true → w'.heap[p.b]? = w1.heap[p.b]?)) := by
    intro i o e
    obtain ⟨p, hpi, ho, hs⟩ := h.own i o e
    cases hv : hat V i with
    | some o2 =>
      have ho2 := hsub i o2 hv
      rw [e] at ho2; cases ho2
      obtain ⟨q, hq, hoq, hsq⟩ := hp.rel.own i o (hV' hv)
      have hq' := he' _ _ hq
      rw [he _ _ hpi] at hq'; cases hq'
      exact ⟨p, hpi, hoq.mono he' (fun _ => rfl), hs, .inl ⟨o, rfl⟩⟩
    | none =>
      have hfr : o.solid = true → w'.heap[p.b]? = w1.heap[p.b]? := by
        intro s
        refine hp.frame p.b (rel_lt h e hpi s) fun j o2 q e2 s2 r2 hqb => ?_
        have := h.inj j i o2 o q p (hsub j o2 e2) e s2 s (cut_some r2).1 hpi hqb
        subst this
        rw [hv] at e2; cases e2
      exact ⟨p, hpi, ho.mono he hfr, hs, .inr hfr⟩
  -- a new one
  have hnew : ∀ {i o p}, m ≤ i → hat V' i = some o → o.solid = true → ρ' (.own i) = some p → w1.heap.size ≤ p.b := by
    intro i o p hi e s r
    rcases hp.place i o p e s r with hge | ⟨j, o2, q, e2, s2, r2, hq⟩
    · exact hge
    · have hji := hp.rel.inj j i o2 o q p (hV' e2) e s2 s (hp.ext _ _ r2) r hq
      have := hat_lt e2
      omega
  have hnewP : ∀ {i o}, m ≤ i → hat V' i = some o → ∃ p, ρ' (.own i) = some p ∧ joinP m V'.length ρ ρ' (.own i) = some p ∧ ObjR (joinP m V'.length ρ ρ') p w'.heap o ∧ (o.solid = true → base ≤ p.b) := by
    intro i o hi e
    obtain ⟨p, hp1, hp2, hp3⟩ := hp.rel.own i o e
    exact ⟨p, hp1, he' _ _ hp1, hp2.mono he' (fun _ => rfl), hp3⟩
  refine ⟨⟨⟨hp.rel.below, hp.rel.size, ?_, ?_, ?_, ?_⟩, hp0.ext.trans he, ?_, by rw [hAl]; exact hp0.len, Nat.le_trans hp0.size hp.size, ?_, ?_⟩, he, he'⟩
  · intro i o e
    rcases (hA i o).1 e with e1 | ⟨hi, e1⟩
    · obtain ⟨p, h1, h2, h3, _⟩ := hold e1
      exact ⟨p, he _ _ h1, h2, h3⟩
    · obtain ⟨p, _, h1, h2, h3⟩ := hnewP hi e1
      exact ⟨p, h1, h2, h3⟩
  · intro i j o o' p q e e' s s' r r' hpq
    rcases (hA i o).1 e with e1 | ⟨hi, e1⟩ <;> rcases (hA j o').1 e' with e2 | ⟨hj, e2⟩
    · obtain ⟨p1, h1, _⟩ := hold e1
      obtain ⟨q1, h2, _⟩ := hold e2
      rw [he _ _ h1] at r; cases r
      rw [he _ _ h2] at r'; cases r'
      exact h.inj i j o o' _ _ e1 e2 s s' h1 h2 hpq
    · obtain ⟨p1, h1, _⟩ := hold e1
      obtain ⟨q1, h2, h3, _⟩ := hnewP hj e2
      rw [he _ _ h1] at r; cases r
      rw [h3] at r'; cases r'
      have a1 := rel_lt h e1 h1 s
      have a2 := hnew hj e2 s' h2
      omega
    · obtain ⟨p1, h1, _⟩ := hold e2
      obtain ⟨q1, h2, h3, _⟩ := hnewP hi e1
      rw [he _ _ h1] at r'; cases r'
      rw [h3] at r; cases r
      have a1 := rel_lt h e2 h1 s'
      have a2 := hnew hi e1 s h2
      omega
    · obtain ⟨p1, h1, h2, _⟩ := hnewP hi e1
      obtain ⟨q1, h3, h4, _⟩ := hnewP hj e2
      rw [h2] at r; cases r
      rw [h4] at r'; cases r'
      exact hp.rel.inj i j o o' _ _ e1 e2 s s' h1 h3 hpq
  · intro path cells hG
    obtain ⟨p, hp1, hp2, hp3⟩ := hp.rel.ext path cells hG
    refine ⟨p, he' _ _ hp1, hp2, fun j v hj => ?_⟩
    obtain ⟨x, hx1, hv, ho⟩ := hp3 j v hj
    exact ⟨x, hx1, hv.mono he', ho⟩
  · intro g; obtain ⟨n, hn⟩ := h.glob g; exact ⟨n, he _ _ hn⟩
  · intro l p e
    cases l with
    | own i =>
      simp only [joinP] at e
      split at e
      · rename_i hi; exact .inr ⟨i, rfl, by omega, by omega⟩
      · rcases hp0.new _ _ e with e1 | ⟨k, hk, h1, h2⟩
        · exact .inl e1
        · exact .inr ⟨k, hk, h1, by omega⟩
    | ext path =>
      rcases hp0.new _ _ e with e1 | ⟨k, hk, _⟩
      · exact .inl e1
      · cases hk
  · intro b hb hn
    rw [hp.frame b (Nat.lt_of_lt_of_le hb hp0.size) fun i o p e s r hpb => ?_, hp0.frame b hb hn]
    rcases hp0.place i o p (hsub i o e) s (cut_some r).1 with hge | ⟨j, o', q, e', s', r', hq⟩
    · omega
    · exact hn j o' q e' s' r' (hq.trans hpb)
  · intro i o p e s r
    rcases (hA i o).1 e with e1 | ⟨hi, e1⟩
    · obtain ⟨p1, h1, _⟩ := hold e1
      rw [he _ _ h1] at r; cases r
      exact hp0.place i o _ e1 s h1
    · obtain ⟨q1, h2, h3, _⟩ := hnewP hi e1
      rw [h3] at r; cases r
      exact .inl (Nat.le_trans hp0.size (hnew hi e1 s h2))
end

theorem post_same {A A' : AHeap} {w1 : World} {ρ0 : Pl} (hp : Post c base w0 ρ0 H w ρ A w1) (hA : ∀ i o, hat A' i = some o ↔ hat A i = some o) (hl : A.length ≤ A'.length) : Post c base w0 ρ0 H w ρ A' w1 := by
  refine ⟨⟨hp.rel.below, hp.rel.size, fun i o e => hp.rel.own i o ((hA i o).1 e), fun i j o o' p q e e' => hp.rel.inj i j o o' p q ((hA i o).1 e) ((hA j o').1 e'), hp.rel.ext, hp.rel.glob⟩, hp.ext, fun l p e => ?_, Nat.le_trans hp.len hl, hp.size, hp.frame, fun i o p e => hp.place i o p ((hA i o).1 e)⟩
  rcases hp.new l p e with h | ⟨i, h1, h2, h3⟩
  · exact .inl h
  · exact .inr ⟨i, h1, h2, by omega⟩

/-! numbers -/

section
variable {s : Nat → Nat} {n : Nat}

theorem keepS_iff {S : Nat → Bool} {i : Nat} : keepS s n S i = true ↔ i < s 0 ∨ ∃ j, j < n ∧ S j = true ∧ s j ≤ i ∧ i < s (j + 1) := by
  simp only [keepS, Bool.or_eq_true, Nat.blt_eq, List.any_eq_true, List.mem_range, Bool.and_eq_true, Nat.ble_eq]

theorem range_of {i : Nat} : ∀ n, i < s n → i < s 0 ∨ ∃ j, j < n ∧ s j ≤ i ∧ i < s (j + 1)
  | 0, h => .inl h
  | n + 1, h => by
    rcases Nat.lt_or_ge i (s n) with h1 | h1
    · rcases range_of n h1 with h2 | ⟨j, h2, h3⟩
      · exact .inl h2
      · exact .inr ⟨j, by omega, h3⟩
    · exact .inr ⟨n, Nat.lt_succ_self _, h1, h⟩

theorem mono_of (hs : ∀ j, j < n → s j ≤ s (j + 1)) : ∀ {j k : Nat}, j ≤ k → k ≤ n → s j ≤ s k
  | j, 0, h, _ => by have : j = 0 := by omega
                     subst this; exact Nat.le_refl _
  | j, k + 1, h, hk => by
    by_cases e : j = k + 1
    · subst e; exact Nat.le_refl _
    · exact Nat.le_trans (mono_of hs (by omega) (by omega)) (hs k (by omega))
end

theorem endOf_heap {call : Callee} {ops : List Oper} : ∀ {r : List Oper} {env : AEnv} {H : AHeap} {t : List (Option AV × AHeap)}, trace c call ops r env H = some t → (endOf r t env H).2 = heapsOf H t r.length
  | [], env, H, t, e => by simp only [trace, Option.some.injEq] at e; subst e; rfl
  | o :: r, env, H, t, e => by
    simp only [trace, Option.bind_eq_some_iff, Option.some.injEq] at e
    obtain ⟨p, hp, t', ht, rfl⟩ := e
    simp only [endOf, endOf_heap ht, List.length_cons]
    cases r with
    | nil => rfl
    | cons o' r' => rfl

theorem free_spec {call : Callee} {ops : List Oper} {env : AEnv} {t : List (Option AV × AHeap)} {j : Nat} (h : freeAt c call ops env H t j = true) :
    (heapsOf H t (j + 1)).take (heapsOf H t j).length = heapsOf H t j ∧
    heapLow (heapsOf H t j).length (mask (keepS (fun k => (heapsOf H t k).length) ops.length (fun i => ((Region.before ops.toArray).getD j 0).testBit i)) 0 (heapsOf H t j)) = true ∧
    stepV c call ops (opsOf ops j) (lowEnv (heapsOf H t j).length (envK (fun i => (ops.getD i default).dst) (fun i => (t.getD i dft).1) (fun _ => true) env j)) (mask (keepS (fun k => (heapsOf H t k).length) ops.length (fun i => ((Region.before ops.toArray).getD j 0).testBit i)) 0 (heapsOf H t j)) =
      some ((t.getD j dft).1, mask (keepS (fun k => (heapsOf H t k).length) ops.length (fun i => ((Region.before ops.toArray).getD j 0).testBit i || Nat.beq i j)) 0 (heapsOf H t (j + 1))) := by
  simp only [freeAt, Bool.and_eq_true] at h
  exact ⟨heapEq_eq h.1, h.2.1, sameStep_eq h.2.2⟩

theorem free_sound (hm : c.P.follows .mixedOrders = true) (call : Callee) (hc : CallOK c base w0 call) (id : Nat) (opsA : Array Oper) (env env' : AEnv) (H H' : AHeap) (t : List (Option AV × AHeap)) (ht : trace c call opsA.toList opsA.toList env H = some t)
    (hok : freeOk c call opsA.toList env H t = true) (hend : endOf opsA.toList t env H = (env', H'))
    (ρ : Pl) (w : World) (a : Act) (h : Rel c base w0 ρ H w) (hf : Fresh ρ H) (he : EnvR ρ env a.tmps) : (Code.region id opsA true).wp c.P (Behind c base w0 ρ H w a .normal env' H') a w := by
  obtain ⟨ops⟩ := opsA
  simp only at ht hok hend
  obtain ⟨_, _, f3⟩ := trace_facts ht
  have hst := endOf_steps ht
  rw [f3, Option.some.injEq] at hst
  have hheap := endOf_heap ht
  rw [hend] at hst hheap
  simp only [Prod.mk.injEq] at hst
  have hE := hst.1
  change H' = _ at hheap
  subst hE hheap
  simp only [freeOk, Bool.and_eq_true, List.all_eq_true, List.mem_range] at hok
  obtain ⟨hedge, hap, hfree⟩ := hok
  have hspec := fun j hj => free_spec (hfree j hj)
  clear hfree hst f3 hend
  generalize hdst : (fun i => (ops.getD i default).dst) = dst at *
  generalize hvals : (fun i => (t.getD i dft).1) = vals at *
  have hdst' : ∀ i, dst i = (opsOf ops i).dst := fun i => by rw [← hdst]; rfl
  have hvals' : ∀ i, (t.getD i dft).1 = vals i := fun i => by rw [← hvals]
  generalize hhp : heapsOf H t = hp at *
  have hp0 : hp 0 = H := by rw [← hhp]; rfl
  generalize hs : (fun k => (hp k).length) = s at *
  have hs' : ∀ k, (hp k).length = s k := fun k => by rw [← hs]
  have hedge' : ∀ j, j < ops.length → ∀ e ∈ (opsOf ops j).after.toList, Region.binds .any e = true → e.on < j := by
    intro j hj e hej hb
    have := List.all_eq_true.1 (List.all_eq_true.1 hedge j (List.mem_range.2 hj)) e hej
    rw [hb] at this
    simpa using this
  have hap' : ∀ i j, i < j → j < ops.length → ((Region.before ops.toArray).getD j 0).testBit i = true ∨ Oper.apart ops.toArray (opsOf ops i) (opsOf ops j) = true := by
    intro i j hij hj
    have := List.all_eq_true.1 (List.all_eq_true.1 hap j (List.mem_range.2 hj)) i (List.mem_range.2 hij)
    simpa only [Bool.or_eq_true] using this
  generalize hbf : Region.before ops.toArray = bf at *
  simp only [hs', hvals'] at hspec
  -- the heaps grow
  have hmono1 : ∀ j, j < ops.length → s j ≤ s (j + 1) := by
    intro j hj
    have := congrArg List.length (hspec j hj).1
    rw [List.length_take, hs', hs'] at this
    omega
  have hmono : ∀ {j k}, j ≤ k → k ≤ ops.length → s j ≤ s k := fun hjk hk => mono_of hmono1 hjk hk
  have hget : ∀ {j k : Nat}, j ≤ k → k ≤ ops.length → ∀ i, i < s j → (hp k)[i]? = (hp j)[i]? := by
    intro j k hjk
    induction k with
    | zero => intro _ i _; have : j = 0 := by omega
              subst this; rfl
    | succ k ih =>
      intro hk i hi
      by_cases e : j = k + 1
      · subst e; rfl
      · rw [← ih (by omega) (by omega) i hi]
        have hik : i < s k := Nat.lt_of_lt_of_le hi (hmono (by omega) (by omega))
        have := congrArg (fun l => l[i]?) (hspec k (by omega)).1
        rw [List.getElem?_take, if_pos hik] at this
        exact this
  have hhat : ∀ {j k : Nat}, j ≤ k → k ≤ ops.length → ∀ i, i < s j → hat (hp k) i = hat (hp j) i := fun hjk hk i hi => by
    unfold hat; rw [hget hjk hk i hi]
  have hs0 : s 0 = H.length := by rw [← hs', hp0]
  generalize hA : (fun S : Nat → Bool => mask (keepS s ops.length S) 0 (hp ops.length)) = A at *
  have hA' : ∀ S, mask (keepS s ops.length S) 0 (hp ops.length) = A S := fun S => by rw [← hA]
  have hAl : ∀ S, (A S).length = s ops.length := fun S => by rw [← hA', mask_len, hs']
  have hAh : ∀ S i o, hat (A S) i = some o ↔ keepS s ops.length S i = true ∧ hat (hp ops.length) i = some o := by
    intro S i o
    rw [← hA', mask_hat]
    cases keepS s ops.length S i <;> simp
  have keep_mono : ∀ {S S' : Nat → Bool}, (∀ i, S i = true → S' i = true) → ∀ i, keepS s ops.length S i = true → keepS s ops.length S' i = true := by
    intro S S' hSS i hk
    rcases keepS_iff.1 hk with h1 | ⟨j, h1, h2, h3⟩
    · exact keepS_iff.2 (.inl h1)
    · exact keepS_iff.2 (.inr ⟨j, h1, hSS j h2, h3⟩)
  -- the heart: what holds when some have been run
  have main : ∀ (fuel : Nat) (listed : Array Bool) (ρ' : Pl) (a' : Act) (w' : World), listed.size = ops.length → toCome (setOf listed) ops.length = fuel →
      (∀ j, j < ops.length → setOf listed j = true → ∀ i, (bf.getD j 0).testBit i = true → setOf listed i = true) → a'.defers = a.defers →
      Post c base w0 ρ H w ρ' (A (setOf listed)) w' → EnvR ρ' (envK dst vals (setOf listed) env ops.length) a'.tmps → (∀ i p, s 0 ≤ i → ρ' (.own i) = some p → keepS s ops.length (setOf listed) i = true) →
      wpAny c.P .any ops.toArray (Behind c base w0 ρ H w a .normal (envK dst vals (fun _ => true) env ops.length) (hp ops.length)) fuel listed a' w' := by
    intro fuel
    induction fuel with
    | zero =>
      intro listed ρ' a' w' hls hcount hclosed hdf hpost henv hinv
      have hall := toCome_zero hcount
      have hE : EnvEq (envK dst vals (setOf listed) env ops.length) (envK dst vals (fun _ => true) env ops.length) :=
        ⟨by rw [envK_size, envK_size], fun t => envK_agree _ (fun i hi _ => hall i hi)⟩
      have hHH : A (setOf listed) = hp ops.length := by
        rw [← hA']
        refine mask_all fun i hi => ?_
        rw [hs'] at hi
        rcases range_of _ hi with h1 | ⟨j, h1, h2⟩
        · exact keepS_iff.2 (.inl h1)
        · exact keepS_iff.2 (.inr ⟨j, h1, hall j h1, h2⟩)
      refine ⟨?_, rfl, hdf, ρ', hHH ▸ hpost, henv.congr hE⟩
      rw [List.eq_nil_iff_forall_not_mem]
      intro i hi
      obtain ⟨hi1, hi2, _⟩ := (mem_ready hls).1 hi
      rw [hall i hi1] at hi2; cases hi2
    | succ fuel ih =>
      intro listed ρ' a' w' hls hcount hclosed hdf hpost henv hinv
      refine ⟨fun hnil => ?_, fun j hj => ?_⟩
      · -- none is ready, and not all are through: that cannot be
        exfalso
        have hall : ∀ k, k ≤ ops.length → ∀ i, i < k → setOf listed i = true := by
          intro k
          induction k with
          | zero => intro _ i hi; omega
          | succ k ihk =>
            intro hk i hi
            by_cases hik : i = k
            · subst hik
              cases hS : setOf listed i with
              | true => rfl
              | false =>
                have : i ∈ Region.ready .any ops.toArray listed := (mem_ready hls).2 ⟨by omega, hS, fun e hej hb => ihk (by omega) _ (hedge' i (by omega) e hej hb)⟩
                rw [hnil] at this; cases this
            · exact ihk (by omega) i (by omega)
        have hz : toCome (setOf listed) ops.length = 0 := by
          have : ∀ m, m ≤ ops.length → toCome (setOf listed) m = 0 := by
            intro m hm'
            induction m with
            | zero => rfl
            | succ m ihm => simp only [toCome]; rw [ihm (by omega), hall _ (Nat.le_refl _) m (by omega)]; rfl
          exact this _ (Nat.le_refl _)
        omega
      · obtain ⟨hjn, hSj, hready⟩ := (mem_ready hls).1 hj
        have hoj := opsOf_get hjn
        have hpre : ∀ i, (bf.getD j 0).testBit i = true → setOf listed i = true := by
          intro i hi
          rw [← hbf] at hi
          obtain ⟨e, hej, hb, hq⟩ := before_bits hoj (hedge' j hjn) hi
          rcases hq with rfl | hq
          · exact hready e hej hb
          · rw [hbf] at hq
            exact hclosed e.on (by have := hedge' j hjn e hej hb; omega) (hready e hej hb) i hq
        have hpr : ∀ i, i < ops.length → i ≠ j → setOf listed i = decide (i < j) ∨ Oper.apart ops.toArray (opsOf ops (min i j)) (opsOf ops (max i j)) = true := by
          intro i hi hij
          by_cases hlt : i < j
          · rcases hap' i j hlt hjn with hb | hb
            · exact .inl (by rw [hpre i hb]; simp [hlt])
            · exact .inr (by rw [Nat.min_eq_left (by omega), Nat.max_eq_right (by omega)]; exact hb)
          · rcases hap' j i (by omega) hi with hb | hb
            · refine .inl ?_
              cases hS : setOf listed i with
              | false => simp; omega
              | true =>
                have := hclosed i hi hS j hb
                rw [hSj] at this; cases this
            · exact .inr (by rw [Nat.min_eq_right (by omega), Nat.max_eq_left (by omega)]; exact hb)
        have hreads : ∀ t ∈ (opsOf ops j).looksAt ops.toArray, eget (envK dst vals (setOf listed) env ops.length) t = eget (envK dst vals (fun _ => true) env j) t := by
          intro t ht'
          rw [← envK_upto j ops.length (by omega)]
          refine envK_agree _ (fun i hi hd => ?_)
          by_cases hij : i = j
          · subst hij; rw [hSj]; simp
          · rcases hpr i hi hij with hp | hap
            · exact hp
            · exfalso
              rw [hdst'] at hd
              by_cases hlt : i < j
              · rw [Nat.min_eq_left (by omega), Nat.max_eq_right (by omega)] at hap
                exact (Oper.apart_spec hap).1 t hd ht'
              · rw [Nat.min_eq_right (by omega), Nat.max_eq_left (by omega)] at hap
                exact (Oper.apart_spec hap).2.2 t hd ht'
        obtain ⟨hsp1, hsp2, hsp3⟩ := hspec j hjn
        have hreads2 : ∀ t ∈ (opsOf ops j).looksAt ops.toArray, eget (lowEnv (s j) (envK dst vals (setOf listed) env ops.length)) t = eget (lowEnv (s j) (envK dst vals (fun _ => true) env j)) t := fun t ht' => by
          rw [lowEnv_get, lowEnv_get, hreads t ht']
        have hw : awanted ops (lowEnv (s j) (envK dst vals (setOf listed) env ops.length)) (opsOf ops j) = awanted ops (lowEnv (s j) (envK dst vals (fun _ => true) env j)) (opsOf ops j) := awanted_reads hreads2
        have hop : ∀ K, aop c (lowEnv (s j) (envK dst vals (setOf listed) env ops.length)) (opsOf ops j).op K = aop c (lowEnv (s j) (envK dst vals (fun _ => true) env j)) (opsOf ops j).op K := fun K => aop_congr (aval_reads hreads2) K
        generalize hB : (fun i => (bf.getD j 0).testBit i) = B at *
        have hB' : ∀ i, (bf.getD j 0).testBit i = B i := fun i => by rw [← hB]
        simp only [hB'] at hsp3 hpre
        generalize hV : mask (keepS s ops.length B) 0 (hp j) = V at *
        generalize hV' : mask (keepS s ops.length fun i => B i || Nat.beq i j) 0 (hp (j + 1)) = V' at *
        have hVl : V.length = s j := by rw [← hV, mask_len, hs']
        have hVl' : V'.length = s (j + 1) := by rw [← hV', mask_len, hs']
        have hgo : stepV c call ops (opsOf ops j) (lowEnv (s j) (envK dst vals (setOf listed) env ops.length)) V = some (vals j, V') := by
          rw [← hsp3]
          simp only [stepV, hw, hop]
        have hkeepB : ∀ i, i < s j → keepS s ops.length (fun i => B i || Nat.beq i j) i = keepS s ops.length B i := by
          intro i hi
          rw [Bool.eq_iff_iff]
          constructor
          · intro hk
            rcases keepS_iff.1 hk with h1 | ⟨k, h1, h2, h3, h4⟩
            · exact keepS_iff.2 (.inl h1)
            · simp only [Bool.or_eq_true] at h2
              rcases h2 with h2 | h2
              · exact keepS_iff.2 (.inr ⟨k, h1, h2, h3, h4⟩)
              · have := Nat.eq_of_beq_eq_true h2
                subst this; omega
          · exact keep_mono (fun i hi => by simp [hi]) i
        have hsub : ∀ i o, hat V i = some o → hat (A (setOf listed)) i = some o := by
          intro i o e
          have hi : i < s j := hVl ▸ hat_lt e
          rw [← hV, mask_hat] at e
          split at e
          · rename_i hk
            refine (hAh _ _ _).2 ⟨keep_mono (fun i hi => hpre i hi) i hk, ?_⟩
            rw [hhat (Nat.le_of_lt hjn) (Nat.le_refl _) i hi]; exact e
          · cases e
        have hm' : H.length ≤ s j := by rw [← hs0]; exact hmono (Nat.zero_le _) (Nat.le_of_lt hjn)
        have hrelV := rel_part h hf hpost.ext hm' hpost.rel hsub hsp2 hVl
        have hfV : Fresh (cut (s j) ρ') V := fun i hi => by
          unfold cut
          rw [if_neg]
          simp [Loc.low]; omega
        generalize hS' : (fun i => if i = j then true else setOf listed i) = S' at *
        have hS'j : S' j = true := by rw [← hS']; simp
        have hS'n : ∀ i, i ≠ j → S' i = setOf listed i := fun i hi => by rw [← hS']; simp [hi]
        have hset : setOf (listed.setIfInBounds j true) = S' := by
          funext i
          simp only [setOf, Array.getD_eq_getD_getElem?, Array.getElem?_setIfInBounds]
          by_cases hij : j = i
          · subst hij
            rw [if_pos rfl, if_pos (by omega), hS'j]; rfl
          · rw [if_neg hij, hS'n i (Ne.symm hij)]
            simp [setOf, Array.getD_eq_getD_getElem?]
        have hSS' : ∀ i, setOf listed i = true → S' i = true := fun i hi => by
          by_cases hij : i = j
          · rw [hij]; exact hS'j
          · rw [hS'n i hij]; exact hi
        have henv' : EnvEq (eput (envK dst vals (setOf listed) env ops.length) (dst j) (vals j)) (envK dst vals S' env ops.length) := by
          refine ⟨by rw [eput_size, envK_size, envK_size], fun t => ?_⟩
          by_cases hdt : dst j = some t
          · have := envK_last (vals := vals) (env := env) hdt hS'j ops.length hjn (fun i h1 h2 hd => by
              rw [hS'n i (by omega)]
              rcases hpr i h2 (by omega) with hp | hap
              · rw [hp]; simp; omega
              · exfalso
                rw [Nat.min_eq_right (by omega), Nat.max_eq_left (by omega)] at hap
                rw [hdst'] at hd hdt
                exact (Oper.apart_spec hap).2.1 t hdt hd)
            rw [this, hdt]
            exact eput_eq (by rw [envK_size, envK_size])
          · rw [eput_ne hdt]
            refine envK_agree _ (fun i hi hd => ?_)
            exact (hS'n i (fun hij => hdt (by rw [← hij]; exact hd))).symm
        -- whose number it is
        have hdisj : ∀ i, s j ≤ i → i < s (j + 1) → keepS s ops.length (setOf listed) i = false := by
          intro i h1 h2
          cases hk : keepS s ops.length (setOf listed) i with
          | false => rfl
          | true =>
            exfalso
            rcases keepS_iff.1 hk with h3 | ⟨k, h3, h4, h5, h6⟩
            · have := hmono (Nat.zero_le j) (Nat.le_of_lt hjn); omega
            · rcases Nat.lt_trichotomy k j with hlt | rfl | hlt
              · have := hmono (show k + 1 ≤ j by omega) (Nat.le_of_lt hjn); omega
              · rw [hSj] at h4; cases h4
              · have := hmono (show j + 1 ≤ k by omega) (Nat.le_of_lt h3); omega
        have hAA : ∀ i o, hat (A S') i = some o ↔ hat (A (setOf listed)) i = some o ∨ (s j ≤ i ∧ hat V' i = some o) := by
          intro i o
          rw [hAh, hAh, ← hV', mask_hat]
          constructor
          · rintro ⟨hk, ho⟩
            rcases keepS_iff.1 hk with h1 | ⟨k, h1, h2, h3, h4⟩
            · exact .inl ⟨keepS_iff.2 (.inl h1), ho⟩
            · by_cases hkj : k = j
              · subst hkj
                refine .inr ⟨h3, ?_⟩
                rw [if_pos (keepS_iff.2 (.inr ⟨k, h1, by simp, h3, h4⟩)), ← hhat (by omega) (Nat.le_refl _) i h4]
                exact ho
              · exact .inl ⟨keepS_iff.2 (.inr ⟨k, h1, by rw [← hS'n k hkj]; exact h2, h3, h4⟩), ho⟩
          · rintro (⟨hk, ho⟩ | ⟨h1, ho⟩)
            · exact ⟨keep_mono hSS' i hk, ho⟩
            · split at ho
              · have hi : i < s (j + 1) := by rw [← hs']; exact hat_lt ho
                refine ⟨keepS_iff.2 (.inr ⟨j, hjn, hS'j, h1, hi⟩), ?_⟩
                rw [hhat (show j + 1 ≤ ops.length by omega) (Nat.le_refl _) i hi]; exact ho
              · cases ho
        refine stepV_sound hc hrelV hfV henv.cut hoj hgo ?_
        intro x w2 ρ2 hv hp2
        have hkeep : V'.take (s j) = V := by
          rw [← hV, ← hV']
          apply List.ext_getElem?
          intro i
          rw [List.getElem?_take, mask_get, mask_get]
          split
          · rename_i hi
            rw [hget (Nat.le_succ j) (by omega) i hi, Nat.zero_add, hkeepB i hi]
          · rename_i hi
            rw [List.getElem?_eq_none (show (hp j).length ≤ i by rw [hs']; omega)]; rfl
        obtain ⟨hp3, he1, he2⟩ := post_part h hf hm' hpost hsub hsp2 hVl hp2 hkeep (fun i h1 h2 => by
            rw [hVl'] at h2
            cases hq : ρ' (.own i) with
            | none => rfl
            | some p =>
              have := hinv i p (by have := hmono (Nat.zero_le j) (Nat.le_of_lt hjn); omega) hq
              rw [hdisj i h1 h2] at this; cases this) hAA (by rw [hAl, hAl]) (by rw [hVl', hAl]; exact hmono (by omega) (Nat.le_refl _))
        refine ih (listed.setIfInBounds j true) (joinP (s j) V'.length ρ' ρ2) (a'.put (opsOf ops j).dst x) w2 (by simpa using hls) ?_ ?_ ?_ ?_ ?_ ?_
        · rw [hset]
          have := toCome_step hSj hS'j (fun i hi => (hS'n i hi).symm) hjn
          omega
        · rw [hset]
          intro k hk hSk i hi
          by_cases hij : i = j
          · rw [hij]; exact hS'j
          · rw [hS'n i hij]
            by_cases hkj : k = j
            · subst hkj; exact hpre i (by rw [← hB']; exact hi)
            · exact hclosed k hk (by rw [← hS'n k hkj]; exact hSk) i hi
        · rw [← hdf]; cases (opsOf ops j).dst <;> rfl
        · rw [hset]; exact hp3
        · rw [hset]; exact EnvR.congr (by rw [hdst']; exact (henv.mono he1).put _ (fun u hu => (hv u hu).mono he2)) henv'
        · rw [hset]
          intro i p h1 hq
          simp only [joinP] at hq
          split at hq
          · rename_i hi
            rw [hVl'] at hi
            exact keepS_iff.2 (.inr ⟨j, hjn, hS'j, hi.1, hi.2⟩)
          · exact keep_mono hSS' i (hinv i p h1 hq)
  refine wp_region_any hm ?_
  have hS0 : ∀ i, setOf (Array.replicate ops.length false) i = false := fun i => by
    simp only [setOf, Array.getD_eq_getD_getElem?, Array.getElem?_replicate]
    split <;> rfl
  have hE0 : ∀ k, envK dst vals (setOf (Array.replicate ops.length false)) env k = env := by
    intro k
    induction k with
    | zero => rfl
    | succ k ihk => simp only [envK, hS0]; simpa using ihk
  have hT0 : ∀ k, toCome (setOf (Array.replicate ops.length false)) k = k := by
    intro k
    induction k with
    | zero => rfl
    | succ k ihk => simp only [toCome, hS0]; simp [ihk]
  refine main ops.length (Array.replicate ops.length false) ρ a _ (by simp) (hT0 _) (fun j _ hj => by rw [hS0] at hj; cases hj) rfl ?_ ?_ ?_
  · refine post_same (post_drew h) (fun i o => ?_) ?_
    · rw [hAh]
      constructor
      · rintro ⟨hk, ho⟩
        rcases keepS_iff.1 hk with h1 | ⟨k, _, h2, _⟩
        · rw [hhat (Nat.zero_le _) (Nat.le_refl _) i h1, hp0] at ho; exact ho
        · rw [hS0] at h2; cases h2
      · intro ho
        have hi : i < s 0 := by rw [hs0]; exact hat_lt ho
        exact ⟨keepS_iff.2 (.inl hi), by rw [hhat (Nat.zero_le _) (Nat.le_refl _) i hi, hp0]; exact ho⟩
    · rw [hAl, ← hs0]; exact hmono (Nat.zero_le _) (Nat.le_refl _)
  · rw [hE0]; exact he
  · intro i p h1 hq
    rw [hf i (by omega)] at hq; cases hq

/-- what a region that draws its order does -/
def drawRunF : DrawOk := fun c call ops env H => (trace c call ops ops env H).bind fun t => if regOk ops (moves ops H t) (still c call ops env H t) || freeOk c call ops env H t then some (endOf ops t env H) else none

theorem drawF_sound (hm : c.P.follows .mixedOrders = true) (call : Callee) (hc : CallOK c base w0 call) : DrawOKs c base w0 drawRunF call := by
  intro id ops env env' H H' e ρ w a h hf he
  simp only [drawRunF, Option.bind_eq_some_iff] at e
  obtain ⟨t, ht, e⟩ := e
  split at e
  · rename_i hok
    simp only [Bool.or_eq_true] at hok
    rcases hok with hok | hok
    · refine order_sound hm call hc id ops env env' H H' ?_ ?_ ρ w a h hf he
      · simp only [drawOk, ht]; exact hok
      · rw [endOf_steps ht]; exact e
    · simp only [Option.some.injEq] at e
      exact free_sound hm call hc id ops env env' H H' t ht hok e ρ w a h hf he
  · cases e

end Go.AM
