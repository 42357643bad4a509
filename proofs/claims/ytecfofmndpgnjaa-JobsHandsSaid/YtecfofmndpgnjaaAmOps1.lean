/-
  THE OPERATIONS, first part (own work): what the abstract machine tells of an operation that writes nothing is what the model's operation gives.
-/
import Derived.Test.YtecfofmndpgnjaaAmRel
namespace Go.AM
open Go.RowKit
set_option linter.unusedSimpArgs false

variable {c : Ctx} {base : Nat} {w0 w : World} {ρ : Pl} {H : AHeap}

theorem addr_add (b o n : Nat) : (⟨b, o, none⟩ : Addr).add n = ⟨b, o + n, none⟩ := by unfold Addr.add; split <;> simp_all

theorem scAV_sound {x : Value} {v : AV} (h : scAV x = some v) : VR ρ v x := by
  unfold scAV at h
  split at h <;> simp at h <;> subst h <;> simp [VR]

theorem mapO_scAV {l : List Value} {vs : List AV} (h : mapO scAV l = some vs) : VRs ρ vs l := by
  induction l generalizing vs with
  | nil => simp [mapO] at h; subst h; simp [VRs]
  | cons x r ih =>
    simp only [mapO, Option.bind_eq_some_iff, Option.some.injEq] at h
    obtain ⟨y, hy, z, hz, rfl⟩ := h
    exact ⟨x, r, rfl, scAV_sound hy, ih hz⟩

theorem constAV_sound {x : Value} {v : AV} (h : constAV x = some v) : VR ρ v x := by
  unfold constAV at h
  split at h
  · rename_i cs
    simp only [Option.map_eq_some_iff] at h
    obtain ⟨l, hl, rfl⟩ := h
    exact ⟨cs.toList, mapO_scAV hl, by simp⟩
  · rename_i cs
    split at h
    · cases h; exact ⟨[], rfl, by simp; simpa using ‹cs.size = 0›⟩
    · cases h
  · exact scAV_sound h

def EnvR (ρ : Pl) (env : AEnv) (tmps : Array Value) : Prop := env.size = tmps.size ∧ ∀ (t : Nat) (v : AV), eget env t = some v → ∃ x, tmps[t]? = some x ∧ VR ρ v x

theorem EnvR.mono {ρ' : Pl} {env : AEnv} {tmps : Array Value} (h : Ext ρ ρ') (k : EnvR ρ env tmps) : EnvR ρ' env tmps :=
  ⟨k.1, fun t v e => by obtain ⟨x, hx, hv⟩ := k.2 t v e; exact ⟨x, hx, hv.mono h⟩⟩

theorem aval_sound (h : Rel c base w0 ρ H w) {env : AEnv} {a : Act} (he : EnvR ρ env a.tmps) {x : Operand} {v : AV} (e : aval env x = some v) : VR ρ v (a.eval x) := by
  cases x with
  | tmp t =>
    simp only [aval] at e
    obtain ⟨y, hy, hv⟩ := he.2 t v e
    simpa [Act.eval, Array.getD, hy] using (by
      have : (a.tmps.getD t undef) = y := by simp [Array.getD_eq_getD_getElem?, hy]
      rw [← this] at hv; simpa [Act.eval] using hv : VR ρ v (a.eval (.tmp t)))
  | const y => exact constAV_sound e
  | global g =>
    simp only [aval, Option.some.injEq] at e; subst e
    obtain ⟨n, hn⟩ := h.glob g
    exact ⟨_, hn, by simp [Act.eval]⟩
  | func f =>
    simp only [aval, Option.some.injEq] at e; subst e
    exact ⟨[], [], rfl, rfl, by simp [Act.eval]⟩

theorem avals_sound (h : Rel c base w0 ρ H w) {env : AEnv} {a : Act} (he : EnvR ρ env a.tmps) {xs : List Operand} {vs : List AV} (e : avals env xs = some vs) : VRs ρ vs (xs.map a.eval) := by
  unfold avals at e
  induction xs generalizing vs with
  | nil => simp [mapO] at e; subst e; simp [VRs]
  | cons x r ih =>
    simp only [mapO, Option.bind_eq_some_iff, Option.some.injEq] at e
    obtain ⟨y, hy, z, hz, rfl⟩ := e
    exact ⟨_, _, rfl, aval_sound h he hy, ih hz⟩

/-- the cells of a row -/
theorem rowOf_sound (h : Rel c base w0 ρ H w) {l : Loc} {cs : List AV} (e : rowOf c H l = some cs) {p : Place} (hp : ρ l = some p) (j : Nat) (v : AV) (hj : cs[j]? = some v) :
    ∃ x, w.cell? ⟨p.b, p.off + j, none⟩ = some x ∧ VR ρ v x ∧ v.one = true := by
  cases l with
  | own i =>
    simp only [rowOf] at e
    split at e
    · rename_i ty esz cells ho
      cases e
      obtain ⟨q, hq, ⟨ds, h1, h2, h3, h4⟩, _⟩ := h.own i _ ho
      rw [hp] at hq; cases hq
      obtain ⟨x, hx, hv, h1'⟩ := h4 j v hj
      exact ⟨x, by simp [World.cell?, h1, hx], hv, h1'⟩
    · cases e
  | ext path =>
    obtain ⟨q, hq, _, hc⟩ := h.ext path cs e
    rw [hp] at hq; cases hq
    exact hc j v hj

theorem rd_sound (h : Rel c base w0 ρ H w) {l : Loc} {off n : Nat} {vs : List AV} (e : rd c H l off n = some vs) {p : Place} (hp : ρ l = some p) :
    ∃ xs : List Value, xs.length = n ∧ VRs ρ vs xs ∧ (∀ (j : Nat) (y : Value), xs[j]? = some y → w.cell? ((⟨p.b, p.off + off, none⟩ : Addr).add j) = some y) ∧ vs.all AV.one = true := by
  simp only [rd, Option.bind_eq_some_iff] at e
  obtain ⟨cs, hcs, e⟩ := e
  split at e
  · rename_i hle
    cases e
    have hf : ∀ j, j < n → ∃ x, w.cell? ⟨p.b, p.off + (off + j), none⟩ = some x ∧ ∀ v, cs[off + j]? = some v → VR ρ v x ∧ v.one = true := by
      intro j hj
      have hlt : off + j < cs.length := by omega
      obtain ⟨x, hx, hv, h1⟩ := rowOf_sound h hcs hp (off + j) cs[off + j] (List.getElem?_eq_getElem hlt)
      exact ⟨x, hx, fun v hv' => by rw [List.getElem?_eq_getElem hlt] at hv'; cases hv'; exact ⟨hv, h1⟩⟩
    refine ⟨(List.range n).map fun j => (w.cell? ⟨p.b, p.off + (off + j), none⟩).getD undef, by simp, VRs.of_get (by simp; omega) fun j v hj => ?_, fun j y hy => ?_, ?_⟩
    · rw [List.getElem?_take] at hj
      split at hj
      · rename_i hjn
        obtain ⟨x, hx, hv⟩ := hf j hjn
        rw [List.getElem?_drop] at hj
        exact ⟨x, by simp [hjn, hx], (hv v hj).1⟩
      · cases hj
    · rcases Nat.lt_or_ge j n with hjn | hjn
      · obtain ⟨x, hx, _⟩ := hf j hjn
        simp [hjn, hx] at hy
        rw [addr_add, Nat.add_assoc, hx, hy]
      · obtain ⟨hlt, _⟩ := List.getElem?_eq_some_iff.1 hy
        simp at hlt
        omega
    · rw [List.all_eq_true]
      intro v hv
      obtain ⟨j, hj⟩ := List.mem_iff_getElem?.1 hv
      rw [List.getElem?_take] at hj
      split at hj
      · rename_i hjn
        obtain ⟨x, hx, hv⟩ := hf j hjn
        rw [List.getElem?_drop] at hj
        exact (hv v hj).2
      · cases hj
  · cases e

theorem szOf_run {t : TypeId} {n : Nat} (e : szOf c.P t = some n) (w : World) : (sizeOf t).run c.P w = .ok n w := by
  simp only [szOf, Option.map_eq_some_iff] at e
  obtain ⟨i, hi, rfl⟩ := e
  simp [sizeOf, typeInfo, hi]

theorem info_run {t : TypeId} {i : TypeInfo} (e : c.P.info? t = some i) (w : World) : (typeInfo t).run c.P w = .ok i w := by
  simp [typeInfo, e]

theorem isAggT_run {t : TypeId} {b : Bool} (e : isAggT c.P t = some b) (w : World) : (isAgg t).run c.P w = .ok b w := by
  simp only [isAggT, Option.map_eq_some_iff] at e
  obtain ⟨d, hd, rfl⟩ := e
  simp only [isAgg, Sem.run_bind, run_underlying hd, Result.andThen_ok]
  split <;> simp_all

theorem load_sound (h : Rel c base w0 ρ H w) {t : TypeId} {q v : AV} (e : aload c H t q = some v) {x : Value} (hx : VR ρ q x) :
    ∃ y, (Instr.loadAt t x).run c.P w = .ok y w ∧ VR ρ v y := by
  unfold aload at e
  split at e
  · rename_i l off
    obtain ⟨p, hp, rfl⟩ := hx
    simp only [Option.bind_eq_some_iff] at e
    obtain ⟨ag, hag, e⟩ := e
    split at e
    · rename_i hag1
      subst hag1
      simp only [Option.bind_eq_some_iff, Option.map_eq_some_iff] at e
      obtain ⟨n, hn, vs, hvs, rfl⟩ := e
      obtain ⟨xs, hl, hr, hc, _⟩ := rd_sound h hvs hp
      subst hl
      refine ⟨.agg xs.toArray, ?_, xs, hr, rfl⟩
      simp [Instr.loadAt, Instr.sureAddr, loadVar, isAggT_run hag, szOf_run hn, run_loadCells_list w _ xs hc]
    · rename_i hag1
      have : ag = false := by simpa using hag1
      subst this
      simp only [Option.bind_eq_some_iff] at e
      obtain ⟨vs, hvs, e⟩ := e
      split at e
      · rename_i v0
        cases e
        obtain ⟨xs, hl, hr, hc, _⟩ := rd_sound h hvs hp
        obtain ⟨y, ys, rfl, hv, hys⟩ := hr
        have := hc 0 y (by simp)
        rw [addr_add] at this
        simp only [Nat.add_zero] at this
        exact ⟨y, by simp [Instr.loadAt, Instr.sureAddr, loadVar, isAggT_run hag, this], hv⟩
      · cases e
  · cases e

theorem apart_sound {t : TypeId} {cs : List AV} {off : Nat} {v : AV} (e : apart c t cs off = some v) {xs : List Value} (hx : VRs ρ cs xs) (w : World) :
    ∃ y, (part t xs.toArray off).run c.P w = .ok y w ∧ VR ρ v y := by
  simp only [apart, Option.bind_eq_some_iff] at e
  obtain ⟨ag, hag, e⟩ := e
  split at e
  · rename_i h1; subst h1
    simp only [Option.bind_eq_some_iff] at e
    obtain ⟨n, hn, e⟩ := e
    split at e
    · cases e
      refine ⟨.agg (xs.toArray.extract off (off + n)), by simp [part, isAggT_run hag, szOf_run hn], ((xs.drop off).take n), (hx.drop off).take n, ?_⟩
      simp [List.extract_eq_take_drop]
    · cases e
  · rename_i h1
    have : ag = false := by simpa using h1
    subst this
    obtain ⟨y, hy, hv⟩ := hx.get e
    refine ⟨y, ?_, hv⟩
    have hy' : xs.toArray[off]? = some y := by simpa using hy
    simp [part, isAggT_run hag, hy']

theorem field_sound {t : TypeId} {x v : AV} {f : Nat} (e : afield c t x f = some v) {y : Value} (hy : VR ρ x y) (w : World) : ∃ z, (Instr.field t y f).run c.P w = .ok z w ∧ VR ρ v z := by
  unfold afield at e
  split at e
  · rename_i cs
    obtain ⟨xs, hxs, rfl⟩ := hy
    simp only [Option.bind_eq_some_iff] at e
    obtain ⟨d, hd, e⟩ := e
    split at e
    · rename_i fs
      simp only [Option.bind_eq_some_iff] at e
      obtain ⟨g, hg, e⟩ := e
      obtain ⟨z, hz, hv⟩ := apart_sound e hxs w
      exact ⟨z, by simp [Instr.field, run_underlying hd, hg, asAgg, hz], hv⟩
    · cases e
  · cases e

theorem fieldAddr_sound {t : TypeId} {x v : AV} {f : Nat} (e : afieldAddr c t x f = some v) {y : Value} (hy : VR ρ x y) (w : World) : ∃ z, (Instr.fieldAt t y f).run c.P w = .ok z w ∧ VR ρ v z := by
  unfold afieldAddr at e
  split at e
  · rename_i l off
    obtain ⟨p, hp, rfl⟩ := hy
    simp only [Option.bind_eq_some_iff] at e
    obtain ⟨d, hd, e⟩ := e
    split at e
    · rename_i fs
      simp only [Option.bind_eq_some_iff] at e
      obtain ⟨g, hg, n, hn, e⟩ := e
      split at e
      · cases e
      · rename_i hn0
        cases e
        refine ⟨.pointer (some ⟨p.b, p.off + off + g.offset, none⟩), ?_, p, hp, by simp [Nat.add_assoc]⟩
        simp [Instr.fieldAt, run_underlying hd, hg, Instr.sureAddr, fieldPlace, szOf_run hn, hn0, addr_add]
    · cases e
  · cases e

theorem indexAddr_sound {t : TypeId} {x i v : AV} (e : aindexAddr c t x i = some v) {y z : Value} (hy : VR ρ x y) (hz : VR ρ i z) (w : World) : ∃ u, (Instr.indexAt t y z).run c.P w = .ok u w ∧ VR ρ v u := by
  unfold aindexAddr at e
  split at e
  · rename_i k i
    simp only [VR] at hz; subst hz
    simp only [Option.bind_eq_some_iff] at e
    obtain ⟨d, hd, e⟩ := e
    split at e
    · rename_i len el l off
      obtain ⟨p, hp, rfl⟩ := hy
      simp only [Option.bind_eq_some_iff] at e
      obtain ⟨n, hn, e⟩ := e
      split at e
      · rename_i hi
        cases e
        refine ⟨.pointer (some ⟨p.b, p.off + off + i.toNat * n, none⟩), ?_, p, hp, by simp [Nat.add_assoc]⟩
        simp [Instr.indexAt, asIntOf, run_underlying hd, Instr.sureAddr, hi, szOf_run hn, addr_add]
      · cases e
    · rename_i el l esz start len
      obtain ⟨p, hp, hcap, rfl⟩ := hy
      simp only [Option.bind_eq_some_iff] at e
      obtain ⟨n, hn, e⟩ := e
      split at e
      · rename_i hi
        obtain ⟨rfl, hi⟩ := hi
        cases e
        refine ⟨.pointer (some ⟨p.b, p.off + start * n + i.toNat * n, none⟩), ?_, p, hp, by simp [Nat.add_mul, Nat.add_assoc]⟩
        simp [Instr.indexAt, asIntOf, run_underlying hd, Instr.sureAddr, hi, szOf_run hn, addr_add]
      · cases e
    · cases e
  · cases e

theorem index_sound {t : TypeId} {x i v : AV} (e : aindex c t x i = some v) {y z : Value} (hy : VR ρ x y) (hz : VR ρ i z) (w : World) : ∃ u, (Instr.index t y z).run c.P w = .ok u w ∧ VR ρ v u := by
  unfold aindex at e
  split at e
  · rename_i k i
    simp only [VR] at hz; subst hz
    simp only [Option.bind_eq_some_iff] at e
    obtain ⟨d, hd, e⟩ := e
    split at e
    · rename_i len el cs
      obtain ⟨xs, hxs, rfl⟩ := hy
      simp only [Option.bind_eq_some_iff] at e
      obtain ⟨n, hn, e⟩ := e
      split at e
      · rename_i hi
        obtain ⟨u, hu, hv⟩ := apart_sound e hxs w
        exact ⟨u, by simp [Instr.index, asIntOf, run_underlying hd, hi, szOf_run hn, hu], hv⟩
      · cases e
    · rename_i s
      simp only [VR] at hy; subst hy
      split at e
      · rename_i hi
        simp only [Option.map_eq_some_iff] at e
        obtain ⟨b, hb, rfl⟩ := e
        refine ⟨_, ?_, rfl⟩
        have hb' : (⟨s.toArray⟩ : ByteArray)[i.toNat]? = some b := by
          have hlt : i.toNat < s.length := by
            rcases Nat.lt_or_ge i.toNat s.length with h' | h'
            · exact h'
            · rw [List.getElem?_eq_none h'] at hb; cases hb
          rw [List.getElem?_eq_getElem hlt] at hb
          cases hb
          rw [getElem?_pos _ _ (by simpa [ByteArray.size] using hlt)]
          rfl
        simp [Instr.index, asIntOf, run_underlying hd, hi, hb']
      · cases e
    · cases e
  · cases e

end Go.AM
