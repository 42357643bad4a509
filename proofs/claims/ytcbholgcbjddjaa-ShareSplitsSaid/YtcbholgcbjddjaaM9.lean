/- Texts of the proof in one file (own work): AmArgs2, AmArgs3, AmArgs5, Uc. -/
import Derived.Test.YtcbholgcbjddjaaM7
import Derived.ChangeSame
import Derived.OpenShut
import Derived.Test.YtcbholgcbjddjaaM5
import Derived.Test.YtcbholgcbjddjaaSo
/-
  WHAT CAME IN, MORE (own work): structs of two whole numbers, and slices of them.
-/
namespace Go.AM
open Go.RowKit Go.ChangeShapes Go.WideShapes Go.Deep
set_option linter.unusedVariables false
set_option linter.unusedSimpArgs false
section
variable {H : Type} {enc : TypeId × Value → H} {P : Program} {w : World} {base : Nat} {spare : Nat → Bool} {held : Bool}
theorem opA_pair {t : TypeId} {f0 f1 : Field} {k0 k1 : IntKind} (ht : P.underlying t = some (.struct #[f0, f1])) (h0 : P.underlying f0.type = some (.int k0)) (h1 : P.underlying f1.type = some (.int k1))
    (c2 : P.cellsOf t = 2) (c0 : P.cellsOf f0.type = 1) (c1 : P.cellsOf f1.type = 1) (o0 : f0.offset = 0) (o1 : f1.offset = 1) (hct : ctys P 8 t = [f0.type, f1.type]) :
    OpA enc P w base spare held t (fun vs => ∃ a b, vs = [.int k0 a, .int k1 b] ∧ (Lit.int k0 a).wf = true ∧ (Lit.int k1 b).wf = true) := by
  intro fuel cs x h
  obtain ⟨y0, y1, n, _, hl, g0, g1⟩ := trod_struct2 ht h
  obtain ⟨a, ha, _, wa⟩ := DataW.trod_int h0 g0
  obtain ⟨b, hb, _, wb⟩ := DataW.trod_int h1 g1
  rw [o0, c0, List.drop_zero] at ha
  rw [o1, c1] at hb
  rw [c2] at hl
  rw [hct]
  match cs, hl with
  | [u, v], _ =>
    simp at ha hb
    subst ha hb
    refine ⟨[.int k0 a, .int k1 b], rfl, rfl, ⟨a, b, rfl, wa, wb⟩, fun j hj => ?_⟩
    match j, hj with
    | 0, _ => exact ⟨_, rfl, by simp [cellAV, h0, scAV], rfl⟩
    | 1, _ => exact ⟨_, rfl, by simp [cellAV, h1, scAV], rfl⟩
/-- a slice of pairs that came in -/
theorem SlG.pairs {v : AV} {n : Nat} {k0 k1 : IntKind} {p0 p1 : Int → Prop} (h : SlG P w v 2 n (fun vs => ∃ a b, vs = [AV.int k0 a, AV.int k1 b] ∧ p0 a ∧ p1 b)) :
    ∃ zs : List (Int × Int), zs.length = n ∧ v.at? = none ∧ (∀ z ∈ zs, p0 z.1 ∧ p1 z.2) ∧ ((n = 0 ∧ (v = .nilslice ∨ ∃ a, v = .odd a)) ∨ ∃ path cs, v = .slice (.ext path) 2 0 n ∧ decG P w path = some cs ∧ ∀ i (hi : i < zs.length), i * 2 + 2 ≤ cs.length ∧ (cs.drop (i * 2)).take 2 = [AV.int k0 zs[i].1, AV.int k1 zs[i].2]) := by
  rcases h with ⟨hv, rfl⟩ | ⟨path, cs, rfl, hG, hl, hg⟩
  · refine ⟨[], rfl, ?_, by simp, .inl ⟨rfl, hv⟩⟩
    rcases hv with rfl | ⟨a, rfl⟩ <;> rfl
  · have : ∀ m, m ≤ n → ∃ zs : List (Int × Int), zs.length = m ∧ (∀ z ∈ zs, p0 z.1 ∧ p1 z.2) ∧ ∀ i (hi : i < zs.length), (cs.drop (i * 2)).take 2 = [AV.int k0 zs[i].1, AV.int k1 zs[i].2] := by
      intro m
      induction m with
      | zero => intro _; exact ⟨[], rfl, by simp, fun i hi => by simp at hi⟩
      | succ m ih =>
        intro hm
        obtain ⟨zs, z1, z2, z3⟩ := ih (by omega)
        obtain ⟨a, b, e, ha, hb⟩ := hg m (by omega)
        refine ⟨zs ++ [(a, b)], by simp [z1], fun z hz => ?_, fun i hi => ?_⟩
        · rcases List.mem_append.1 hz with h | h
          · exact z2 z h
          · simp at h; subst h; exact ⟨ha, hb⟩
        · by_cases h : i < zs.length
          · rw [List.getElem_append_left h]; exact z3 i h
          · have : i = m := by simp at hi; omega
            subst this
            rw [e, List.getElem_append_right (by omega)]
            simp [z1]
    obtain ⟨zs, z1, z2, z3⟩ := this n (Nat.le_refl _)
    exact ⟨zs, z1, rfl, z2, .inr ⟨path, cs, rfl, hG, fun i hi => ⟨by omega, z3 i hi⟩⟩⟩
end
end Go.AM

/-
  WHAT CAME IN, MORE (own work): an array of two whole numbers by value; structs of five; slices of bools.
-/
namespace Go.AM
open Go.RowKit Go.ChangeShapes Go.WideShapes Go.Deep
set_option linter.unusedVariables false
set_option linter.unusedSimpArgs false
section
variable {H : Type} {enc : TypeId × Value → H} {P : Program} {w : World} {base : Nat} {spare : Nat → Bool} {held : Bool}
theorem open_arr2 {r : Reach} {b0 : Nat} {t e : TypeId} {k : IntKind} {v : Value} {d : DataW H} {ps : List MemPlace} (ht : P.underlying t = some (.array 2 e)) (he : P.underlying e = some (.int k)) (ct : P.cellsOf t = 2) (ce : P.cellsOf e = 1)
    (hval : Value.okWide P w r b0 t v) (hd : DataW.Trod enc P w base spare held t v d ps) : ∃ a b, v = .agg #[.int k a, .int k b] ∧ d = .agg [.lit (.int k a), .lit (.int k b)] ∧ ps = [] ∧ (Lit.int k a).wf = true ∧ (Lit.int k b).wf = true := by
  obtain ⟨cs, rfl, hsz, _⟩ : ∃ cs, v = .agg cs ∧ cs.size = P.cellsOf t ∧ Row.okWide P w r b0 t cs := by
    simpa [Value.okWide, ht] using hval
  rw [ct] at hsz
  obtain ⟨l⟩ := cs
  match l, hsz with
  | [c0, c1], _ =>
    obtain ⟨fuel, hf⟩ := hd
    obtain ⟨xs, m, _, hx, _, hl, hel⟩ := DataW.trod_array ht hf
    match xs, hl with
    | [y0, y1], _ =>
      have h0 := hel 0 (by decide)
      have h1 := hel 1 (by decide)
      simp only [ce, Nat.zero_mul, List.drop_zero, List.getElem?_cons_zero, List.getElem?_cons_succ, Nat.one_mul] at h0 h1
      obtain ⟨a, ha, rfl, wa⟩ := DataW.trod_int he h0
      obtain ⟨b, hb, rfl, wb⟩ := DataW.trod_int he h1
      simp [Value.cells] at ha hb
      subst ha hb
      simp only [Prod.mk.injEq] at hx
      obtain ⟨rfl, rfl⟩ := hx
      exact ⟨a, b, rfl, rfl, rfl, wa, wb⟩
theorem shut_arr2 {t e : TypeId} {k : IntKind} {a b : Int} (ht : P.underlying t = some (.array 2 e)) (he : P.underlying e = some (.int k)) (ct : P.cellsOf t = 2) (ce : P.cellsOf e = 1) (wa : (Lit.int k a).wf = true) (wb : (Lit.int k b).wf = true) :
    DataW.Trod enc P w base spare held t (.agg #[.int k a, .int k b]) (.agg [.lit (.int k a), .lit (.int k b)]) [] :=
  ⟨2, by simp [DataW.trod, Value.cells, ht, he, ct, ce, wa, wb, show List.range 2 = [0, 1] from rfl]⟩
/-- a slice of bools that came in -/
theorem SlG.bools {v : AV} {n : Nat} (h : SlG P w v 1 n (fun vs => ∃ b, vs = [AV.bool b])) : ∃ bs : List Bool, bs.length = n ∧ v.at? = none ∧ (∀ K : AHeap, Sl (argC P w) K v (bs.map AV.bool)) := by
  obtain ⟨xs, h1, h2, h3, h4⟩ := h.sl
  have : ∃ bs : List Bool, xs = bs.map AV.bool := by
    clear h1 h3
    induction xs with
    | nil => exact ⟨[], rfl⟩
    | cons x r ih =>
      obtain ⟨bs, rfl⟩ := ih (fun y hy => h4 y (by simp [hy]))
      obtain ⟨b, hb⟩ := h4 x (by simp)
      simp at hb
      exact ⟨b :: bs, by simp [hb]⟩
  obtain ⟨bs, rfl⟩ := this
  exact ⟨bs, by simpa using h1, h2, h3⟩
/-- a struct of four whole numbers and a bool -/
theorem opA_deed {t : TypeId} {f0 f1 f2 f3 f4 : Field} {k : IntKind} (ht : P.underlying t = some (.struct #[f0, f1, f2, f3, f4])) (h0 : P.underlying f0.type = some (.int k)) (h1 : P.underlying f1.type = some (.int k)) (h2 : P.underlying f2.type = some (.int k)) (h3 : P.underlying f3.type = some (.int k)) (h4 : P.underlying f4.type = some .bool)
    (c5 : P.cellsOf t = 5) (c0 : P.cellsOf f0.type = 1) (c1 : P.cellsOf f1.type = 1) (c2 : P.cellsOf f2.type = 1) (c3 : P.cellsOf f3.type = 1) (c4 : P.cellsOf f4.type = 1) (o0 : f0.offset = 0) (o1 : f1.offset = 1) (o2 : f2.offset = 2) (o3 : f3.offset = 3) (o4 : f4.offset = 4) (hct : ctys P 8 t = [f0.type, f1.type, f2.type, f3.type, f4.type]) :
    OpA enc P w base spare held t (fun vs => ∃ a b c d e, vs = [.int k a, .int k b, .int k c, .int k d, .bool e] ∧ (Lit.int k a).wf = true ∧ (Lit.int k b).wf = true ∧ (Lit.int k c).wf = true ∧ (Lit.int k d).wf = true) := by
  intro fuel cs x h
  obtain ⟨xs, m, _, hx, hlen, hn, hel⟩ := DataW.trod_struct ht h
  have hxl : xs.length = 5 := by simpa using hn
  match xs, hxl with
  | [y0, y1, y2, y3, y4], _ =>
    have g0 := hel 0 f0 rfl
    have g1 := hel 1 f1 rfl
    have g2 := hel 2 f2 rfl
    have g3 := hel 3 f3 rfl
    have g4 := hel 4 f4 rfl
    simp only [List.getElem?_cons_zero, List.getElem?_cons_succ] at g0 g1 g2 g3 g4
    obtain ⟨a, ha, _, wa⟩ := DataW.trod_int h0 g0
    obtain ⟨b, hb, _, wb⟩ := DataW.trod_int h1 g1
    obtain ⟨c, hc, _, wc⟩ := DataW.trod_int h2 g2
    obtain ⟨d, hd, _, wd⟩ := DataW.trod_int h3 g3
    obtain ⟨e, he, _⟩ := DataW.trod_bool h4 g4
    rw [o0, c0, List.drop_zero] at ha
    rw [o1, c1] at hb
    rw [o2, c2] at hc
    rw [o3, c3] at hd
    rw [o4, c4] at he
    rw [c5] at hlen
    rw [hct]
    match cs, hlen with
    | [u0, u1, u2, u3, u4], _ =>
      simp at ha hb hc hd he
      subst ha hb hc hd he
      refine ⟨[.int k a, .int k b, .int k c, .int k d, .bool e], rfl, rfl, ⟨a, b, c, d, e, rfl, wa, wb, wc, wd⟩, fun j hj => ?_⟩
      match j, hj with
      | 0, _ => exact ⟨_, rfl, by simp [cellAV, h0, scAV], rfl⟩
      | 1, _ => exact ⟨_, rfl, by simp [cellAV, h1, scAV], rfl⟩
      | 2, _ => exact ⟨_, rfl, by simp [cellAV, h2, scAV], rfl⟩
      | 3, _ => exact ⟨_, rfl, by simp [cellAV, h3, scAV], rfl⟩
      | 4, _ => exact ⟨_, rfl, by simp [cellAV, h4, scAV], rfl⟩
end
end Go.AM

/-
  WHAT CAME IN, rows of three whole numbers of fixed length (own work).
-/
namespace Go.AM
open Go.RowKit Go.ChangeShapes Go.WideShapes Go.Deep
set_option linter.unusedVariables false
set_option linter.unusedSimpArgs false
section
variable {H : Type} {enc : TypeId × Value → H} {P : Program} {w : World} {base : Nat} {spare : Nat → Bool} {held : Bool}
theorem open_arr3 {r : Reach} {b0 : Nat} {t e : TypeId} {k : IntKind} {v : Value} {d : DataW H} {ps : List MemPlace} (ht : P.underlying t = some (.array 3 e)) (he : P.underlying e = some (.int k)) (ct : P.cellsOf t = 3) (ce : P.cellsOf e = 1)
    (hval : Value.okWide P w r b0 t v) (hd : DataW.Trod enc P w base spare held t v d ps) : ∃ a b c, v = .agg #[.int k a, .int k b, .int k c] ∧ d = .agg [.lit (.int k a), .lit (.int k b), .lit (.int k c)] ∧ ps = [] ∧ (Lit.int k a).wf = true ∧ (Lit.int k b).wf = true ∧ (Lit.int k c).wf = true := by
  obtain ⟨cs, rfl, hsz, _⟩ : ∃ cs, v = .agg cs ∧ cs.size = P.cellsOf t ∧ Row.okWide P w r b0 t cs := by
    simpa [Value.okWide, ht] using hval
  rw [ct] at hsz
  obtain ⟨l⟩ := cs
  match l, hsz with
  | [c0, c1, c2], _ =>
    obtain ⟨fuel, hf⟩ := hd
    obtain ⟨xs, m, _, hx, _, hl, hel⟩ := DataW.trod_array ht hf
    match xs, hl with
    | [y0, y1, y2], _ =>
      have h0 := hel 0 (by decide)
      have h1 := hel 1 (by decide)
      have h2 := hel 2 (by decide)
      simp only [ce, Nat.zero_mul, List.drop_zero, List.getElem?_cons_zero, List.getElem?_cons_succ, Nat.one_mul, Nat.mul_one] at h0 h1 h2
      obtain ⟨a, ha, rfl, wa⟩ := DataW.trod_int he h0
      obtain ⟨b, hb, rfl, wb⟩ := DataW.trod_int he h1
      obtain ⟨c, hc, rfl, wc⟩ := DataW.trod_int he h2
      simp [Value.cells] at ha hb hc
      subst ha hb hc
      simp only [Prod.mk.injEq] at hx
      obtain ⟨rfl, rfl⟩ := hx
      exact ⟨a, b, c, rfl, rfl, rfl, wa, wb, wc⟩
theorem shut_arr3 {t e : TypeId} {k : IntKind} {a b c : Int} (ht : P.underlying t = some (.array 3 e)) (he : P.underlying e = some (.int k)) (ct : P.cellsOf t = 3) (ce : P.cellsOf e = 1) (wa : (Lit.int k a).wf = true) (wb : (Lit.int k b).wf = true) (wc : (Lit.int k c).wf = true) :
    DataW.Trod enc P w base spare held t (.agg #[.int k a, .int k b, .int k c]) (.agg [.lit (.int k a), .lit (.int k b), .lit (.int k c)]) [] :=
  ⟨2, by simp [DataW.trod, Value.cells, ht, he, ct, ce, wa, wb, wc, show List.range 3 = [0, 1, 2] from rfl]⟩
end
end Go.AM

/- law17's ShareSplits, sorting told (own work). -/
namespace Go.Proofs.Ytcbholgcbjddjaa.sy
open Go.AM Go.AM.Jb
variable {G : List Nat → Option (List AV)} {base : Nat} {w0 : World}
theorem shareSplits_law {v : AV} {l : List Tk} (hv : Tks G base w0 v l) (x y z : Nat) (hx : x < 256) (hy : y < 256) (hz : z < 256) : ∃ r H', Pt (kn G base w0) 5 [v, .agg [.int .u8 x, .int .u8 y, .int .u8 z]] [] r H' ∧ r = .bool true :=
  shareSplits_walk sorts.spec hv x y z hx hy hz
end Go.Proofs.Ytcbholgcbjddjaa.sy
