/- Texts of the proof in one file (own work): OwnNe, AmArgs, AmArgs4. -/
import Derived.Test.YtffpahpbgeillaaM4
import Derived.Test.YtffpahpbgeillaaM3
import Derived.Deep.Slices
import Derived.Deep.Fields
import Derived.ChangeShapes
import Derived.WideShapes
import Derived.SizedLaws
import Derived.ChangeSlices
import Derived.Test.YtffpahpbgeillaaM6
/- Rows of one's own and seats lie apart (own work). -/
namespace Go.Proofs.Ytffpahpbgeillaa.sy
open Go.AM
theorem own_ne {H : AHeap} {v : AV} {xs : List AV} {p m1 m2 n : Nat} {f g : Int → Option Int} (h : Own H v 3 xs) (s : Seats H p m1 m2 n f g) : ∀ b, v.at? = some b → b < H.length ∧ b ≠ p ∧ b ≠ m1 ∧ b ≠ m2 := by
  intro b hb
  rcases h with ⟨rfl, _⟩ | ⟨b', rfl, h⟩
  · cases hb
  · simp only [AV.at?, Option.some.injEq] at hb
    subst hb
    obtain ⟨l1, c1, h1, _⟩ := s.now
    obtain ⟨l2, c2, h2, _⟩ := s.last
    refine ⟨hat_lt h, ?_, ?_, ?_⟩
    · intro e; rw [e, s.row] at h; cases h
    · intro e; rw [e, h1] at h; cases h
    · intro e; rw [e, h2] at h; cases h
end Go.Proofs.Ytffpahpbgeillaa.sy

/-
  WHAT CAME IN (own work): the abstract machine's view of the memory ahead of a call: each slice that came in is a row told by its address; what reads as a type is a row of the machine's values.
-/
namespace Go.AM
open Go.RowKit Go.ChangeShapes Go.WideShapes Go.Deep
set_option linter.unusedVariables false
set_option linter.unusedSimpArgs false

/-- the types of an element's cells -/
def ctys (P : Program) : Nat → TypeId → List TypeId
  | 0, t => [t]
  | k + 1, t => match P.underlying t with
    | some (.struct fs) => fs.toList.flatMap fun f => ctys P k f.type
    | _ => [t]

/-- one cell, by its type -/
def cellAV (P : Program) (t : TypeId) (x : Value) : Option AV := match P.underlying t with
  | some (.slice e) => match x with
    | .slice none 0 0 => some .nilslice
    | .slice (some a) len cap => if cap = 0 then (if len = 0 then some (.odd a) else none) else if len ≤ cap ∧ a.spot = none then some (.slice (.ext [1, a.block, a.off, cap, e]) (ctys P 8 e).length 0 len) else none
    | _ => none
  | _ => scAV x

def cellsFrom (P : Program) (w : World) (b off : Nat) (ts : List TypeId) : Nat → Nat → List AV
  | 0, _ => []
  | k + 1, j => match (w.cell? ⟨b, off + j, none⟩).bind (cellAV P (ts.getD (j % ts.length) 0)) with
    | some v => if v.one then v :: cellsFrom P w b off ts k (j + 1) else []
    | none => []

def decG (P : Program) (w : World) : List Nat → Option (List AV)
  | [1, b, off, cap, e] => if b < w.heap.size then some (cellsFrom P w b off (ctys P 8 e) (cap * (ctys P 8 e).length) 0) else none
  | _ => none

def plA : Pl := fun l => match l with
  | .ext [0, g] => some ⟨g, 0, 0⟩
  | .ext [1, b, off, cap, _] => some ⟨b, off, cap⟩
  | _ => none

theorem cellAV_VR {P : Program} {t : TypeId} {x : Value} {v : AV} (h : cellAV P t x = some v) : VR plA v x := by
  unfold cellAV at h
  split at h
  · split at h
    · cases h; rfl
    · split at h
      · split at h
        · rename_i h0 h1; cases h; subst h0; subst h1; rfl
        · cases h
      · split at h
        · rename_i a len cap hc hl
          cases h
          refine ⟨⟨a.block, a.off, cap⟩, rfl, by simpa using hl.1, ?_⟩
          obtain ⟨b, o, s⟩ := a
          simp only at hl
          rw [hl.2]
          simp
        · cases h
    · cases h
  · exact scAV_sound h

theorem cellsFrom_get {P : Program} {w : World} {b off : Nat} {ts : List TypeId} : ∀ (k j0 j : Nat) (v : AV), (cellsFrom P w b off ts k j0)[j]? = some v → ∃ x, w.cell? ⟨b, off + (j0 + j), none⟩ = some x ∧ VR plA v x ∧ v.one = true
  | 0, j0, j, v, h => by simp [cellsFrom] at h
  | k + 1, j0, j, v, h => by
    unfold cellsFrom at h
    split at h
    · rename_i u hu
      split at h
      · rename_i h1
        cases j with
        | zero =>
          simp at h; subst h
          obtain ⟨x, hx, hv⟩ := Option.bind_eq_some_iff.1 hu
          exact ⟨x, hx, cellAV_VR hv, h1⟩
        | succ j =>
          simp at h
          have := cellsFrom_get k (j0 + 1) j v h
          rw [show j0 + (j + 1) = j0 + 1 + j by omega]
          exact this
      · simp at h
    · simp at h

theorem cellsFrom_all {P : Program} {w : World} {b off : Nat} {ts : List TypeId} {vs : List AV} : ∀ (k j0 : Nat), vs.length ≤ k → (∀ j (h : j < vs.length), ∃ x, w.cell? ⟨b, off + (j0 + j), none⟩ = some x ∧ cellAV P (ts.getD ((j0 + j) % ts.length) 0) x = some vs[j] ∧ vs[j].one = true) → (cellsFrom P w b off ts k j0).take vs.length = vs := by
  induction vs with
  | nil => intro k j0 _ _; rfl
  | cons v r ih =>
    intro k j0 hk h
    cases k with
    | zero => simp at hk
    | succ k =>
      obtain ⟨x, h1, h2, h3⟩ := h 0 (by simp)
      simp only [Nat.add_zero, List.getElem_cons_zero] at h1 h2 h3
      have : cellsFrom P w b off ts (k + 1) j0 = v :: cellsFrom P w b off ts k (j0 + 1) := by
        rw [cellsFrom, h1, Option.bind_some, h2]
        simp [h3]
      rw [this]
      simp only [List.length_cons, List.take_succ_cons, List.cons.injEq, true_and]
      refine ih k (j0 + 1) (by simpa using hk) fun j hj => ?_
      have := h (j + 1) (by simp; omega)
      simp only [List.getElem_cons_succ] at this
      rw [show j0 + 1 + j = j0 + (j + 1) by omega]
      exact this

def argC (P : Program) (w : World) : Ctx := { P, G := decG P w }
theorem relA (P : Program) (w : World) : Rel (argC P w) w.heap.size w plA [] w where
  below := Below.refl _ _
  size := Nat.le_refl _
  own := fun i o h => by simp [hat] at h
  inj := fun i j o o' p q h => by simp [hat] at h
  ext := fun path cells h => by
    change decG P w path = some cells at h
    unfold decG at h
    split at h
    · rename_i b off cap e
      split at h
      · rename_i hb
        cases h
        refine ⟨⟨b, off, cap⟩, rfl, hb, fun j v hj => ?_⟩
        have := cellsFrom_get _ _ _ _ hj
        simpa using this
      · cases h
    · cases h
  glob := fun g => ⟨0, rfl⟩
theorem freshA : Fresh plA [] := fun _ _ => rfl

section
variable {H : Type} {enc : TypeId × Value → H} {P : Program} {w : World} {base : Nat} {spare : Nat → Bool} {held : Bool}

/-- what reads as the type t is these cells, and they are as told -/
def OpA (enc : TypeId × Value → H) (P : Program) (w : World) (base : Nat) (spare : Nat → Bool) (held : Bool) (t : TypeId) (Good : List AV → Prop) : Prop :=
  ∀ fuel cs x, DataW.trod enc P w base spare held fuel t cs = some x → ∃ vs, vs.length = (ctys P 8 t).length ∧ cs.length = (ctys P 8 t).length ∧ Good vs ∧
    ∀ j (h : j < vs.length), ∃ y, cs[j]? = some y ∧ cellAV P ((ctys P 8 t).getD j 0) y = some vs[j] ∧ vs[j].one = true

theorem ctys_one {t : TypeId} {d : TypeDesc} (ht : P.underlying t = some d) (hn : ∀ fs, d ≠ .struct fs) : ctys P 8 t = [t] := by
  unfold ctys
  rw [ht]
  cases d <;> first | rfl | exact absurd rfl (hn _)

theorem opA_int {t : TypeId} {k : IntKind} (ht : P.underlying t = some (.int k)) : OpA enc P w base spare held t (fun vs => ∃ n, vs = [.int k n] ∧ (Lit.int k n).wf = true) := by
  intro fuel cs x h
  obtain ⟨n, rfl, _, hw⟩ := DataW.trod_int ht h
  rw [ctys_one ht (by simp)]
  refine ⟨[.int k n], rfl, rfl, ⟨n, rfl, hw⟩, fun j hj => ?_⟩
  obtain rfl : j = 0 := by simp at hj; omega
  exact ⟨_, rfl, by simp [cellAV, ht, scAV], rfl⟩
theorem opA_bool {t : TypeId} (ht : P.underlying t = some .bool) : OpA enc P w base spare held t (fun vs => ∃ b, vs = [.bool b]) := by
  intro fuel cs x h
  obtain ⟨n, rfl, _⟩ := DataW.trod_bool ht h
  rw [ctys_one ht (by simp)]
  refine ⟨[.bool n], rfl, rfl, ⟨n, rfl⟩, fun j hj => ?_⟩
  obtain rfl : j = 0 := by simp at hj; omega
  exact ⟨_, rfl, by simp [cellAV, ht, scAV], rfl⟩

/-- a slice that came in: its elements -/
def SlG (P : Program) (w : World) (v : AV) (k n : Nat) (Good : List AV → Prop) : Prop :=
  ((v = .nilslice ∨ ∃ a, v = .odd a) ∧ n = 0) ∨ ∃ path cs, v = .slice (.ext path) k 0 n ∧ decG P w path = some cs ∧ n * k ≤ cs.length ∧ ∀ i, i < n → Good ((cs.drop (i * k)).take k)

theorem opA_slice {t e : TypeId} {GoodE : List AV → Prop} (ht : P.underlying t = some (.slice e)) (hc : P.cellsOf e = (ctys P 8 e).length) (hk : 0 < (ctys P 8 e).length) (hsp : ∀ k, spare k = true) (he : OpA enc P w base spare held e GoodE) :
    OpA enc P w base spare held t (fun vs => ∃ v n, vs = [v] ∧ SlG P w v (ctys P 8 e).length n GoodE) := by
  intro fuel cs x h
  rw [ctys_one ht (by simp)]
  rcases open_slice ht h with ⟨rfl, _⟩ | ⟨a, len, cap, m, n, D, Pl, rfl, hb, hl, hm, hmm, hx, hi⟩
  · refine ⟨[.nilslice], rfl, rfl, ⟨_, 0, rfl, .inl ⟨.inl rfl, rfl⟩⟩, fun j hj => ?_⟩
    obtain rfl : j = 0 := by simp at hj; omega
    exact ⟨_, rfl, by simp [cellAV, ht], rfl⟩
  · rw [hsp, if_pos rfl] at hmm
    subst hmm
    rcases Nat.eq_zero_or_pos m with h0 | h0
    · subst h0
      obtain rfl : len = 0 := by omega
      refine ⟨[.odd a], rfl, rfl, ⟨_, 0, rfl, .inl ⟨.inr ⟨a, rfl⟩, rfl⟩⟩, fun j hj => ?_⟩
      obtain rfl : j = 0 := by simp at hj; omega
      exact ⟨_, rfl, by simp [cellAV, ht], rfl⟩
    · rw [hc] at hi
      generalize hK : (ctys P 8 e).length = K at hk hi he
      have hel : ∀ i, i < m → ∃ vs : List AV, vs.length = K ∧ GoodE vs ∧ ∀ j (h : j < vs.length), ∃ y, w.cell? (a.add (i * K + j)) = some y ∧ cellAV P ((ctys P 8 e).getD j 0) y = some vs[j] ∧ vs[j].one = true := by
        intro i him
        obtain ⟨cs', hcs, ht'⟩ := hi i him
        obtain ⟨_, hcl, hat⟩ := World.cells?_some hcs
        obtain ⟨vs, g1, g2, g3, g4⟩ := he _ _ _ ht'
        rw [hK] at g1 g2
        refine ⟨vs, g1, g3, fun j hj => ?_⟩
        obtain ⟨y, hy, hcy, ho⟩ := g4 j hj
        exact ⟨y, by rw [← Go.Deep.add_add, hat j (by omega), hy], hcy, ho⟩
      have hspot : a.spot = none ∧ a.block < w.heap.size := by
        obtain ⟨vs, g1, _, g4⟩ := hel 0 h0
        obtain ⟨y, hy, _⟩ := g4 0 (by omega)
        have hy' : w.cell? a = some y := by simpa [Addr.add] using hy
        have hlt := World.block_lt_of_cell? w a hy'
        refine ⟨?_, hlt⟩
        cases hs : a.spot with
        | none => rfl
        | some s =>
          unfold World.cell? at hy'
          split at hy'
          · simp [hs] at hy'
          · cases hy'
      obtain ⟨ab, ao, asp⟩ := a
      simp only at hspot
      obtain ⟨rfl, hblt⟩ := hspot
      have hadd : ∀ k, (⟨ab, ao, none⟩ : Addr).add k = ⟨ab, ao + k, none⟩ := by
        intro k
        unfold Addr.add
        split
        · rename_i hk0; subst hk0; rfl
        · rfl
      have hall : ∀ q, q ≤ m → ∃ vs : List AV, vs.length = q * K ∧ (∀ i, i < q → GoodE ((vs.drop (i * K)).take K)) ∧ ∀ j (h : j < vs.length), ∃ y, w.cell? ⟨ab, ao + j, none⟩ = some y ∧ cellAV P ((ctys P 8 e).getD (j % K) 0) y = some vs[j] ∧ vs[j].one = true := by
        intro q
        induction q with
        | zero => intro _; exact ⟨[], by simp, fun i h => by omega, fun j h => by simp at h⟩
        | succ q ih =>
          intro hq
          obtain ⟨vs, v1, v2, v3⟩ := ih (by omega)
          obtain ⟨us, u1, u2, u3⟩ := hel q (by omega)
          refine ⟨vs ++ us, by rw [List.length_append, v1, u1, Nat.succ_mul], fun i hi => ?_, fun j hj => ?_⟩
          · rcases Nat.lt_or_ge i q with h | h
            · have h2 : i * K + K ≤ q * K := by rw [← Nat.succ_mul]; exact Nat.mul_le_mul_right _ h
              rw [List.drop_append_of_le_length (by omega), List.take_append_of_le_length (by simp; omega)]
              exact v2 i h
            · obtain rfl : i = q := by omega
              rw [List.drop_append, ← v1]
              simp only [List.drop_length, Nat.sub_self, List.nil_append, List.drop_zero]
              rw [← u1, List.take_length]
              exact u2
          · rcases Nat.lt_or_ge j vs.length with h | h
            · obtain ⟨y, y1, y2, y3⟩ := v3 j h
              refine ⟨y, y1, ?_, ?_⟩
              · rw [List.getElem_append_left h]; exact y2
              · rw [List.getElem_append_left h]; exact y3
            · have hjl : j - vs.length < us.length := by simp at hj; omega
              obtain ⟨y, y1, y2, y3⟩ := u3 (j - vs.length) hjl
              rw [hadd] at y1
              have e1 : q * K + (j - vs.length) = j := by omega
              rw [e1] at y1
              have e2 : j % K = j - vs.length := by
                have e3 : (q * K + (j - vs.length)) % K = j - vs.length := by rw [Nat.mul_comm, Nat.mul_add_mod, Nat.mod_eq_of_lt (by omega)]
                rwa [e1] at e3
              refine ⟨y, y1, ?_, ?_⟩
              · rw [List.getElem_append_right h, e2]; exact y2
              · rw [List.getElem_append_right h]; exact y3
      obtain ⟨vs, v1, v2, v3⟩ := hall len hl
      refine ⟨[.slice (.ext [1, ab, ao, m, e]) K 0 len], rfl, rfl, ⟨_, len, rfl, .inr ⟨_, _, rfl, by simp only [decG]; rw [if_pos hblt], ?_, ?_⟩⟩, fun j hj => ?_⟩
      · have ht' := cellsFrom_all (P := P) (w := w) (b := ab) (off := ao) (ts := ctys P 8 e) (vs := vs) (m * K) 0 (by rw [v1]; exact Nat.mul_le_mul_right _ hl) (fun j h => by
          obtain ⟨y, y1, y2, y3⟩ := v3 j h
          rw [hK]
          simp only [Nat.zero_add]
          exact ⟨y, y1, y2, y3⟩)
        have := congrArg List.length ht'
        rw [List.length_take, v1] at this
        rw [hK]
        omega
      · intro i hi'
        have ht' := cellsFrom_all (P := P) (w := w) (b := ab) (off := ao) (ts := ctys P 8 e) (vs := vs) (m * K) 0 (by rw [v1]; exact Nat.mul_le_mul_right _ hl) (fun j h => by
          obtain ⟨y, y1, y2, y3⟩ := v3 j h
          rw [hK]
          simp only [Nat.zero_add]
          exact ⟨y, y1, y2, y3⟩)
        have h3 := v2 i hi'
        rw [hK]
        rw [← ht', v1, List.drop_take, List.take_take] at h3
        have h2 : i * K + K ≤ len * K := by rw [← Nat.succ_mul]; exact Nat.mul_le_mul_right _ hi'
        rw [Nat.min_eq_left (by omega)] at h3
        exact h3
      · obtain rfl : j = 0 := by simp at hj; omega
        refine ⟨_, rfl, ?_, rfl⟩
        simp only [List.getD_cons_zero, cellAV, ht]
        rw [if_neg (by omega), if_pos ⟨hl, by trivial⟩, hK]
        rfl

/-- a slice that came in, as a list of its elements' values (one cell each) -/
theorem SlG.sl {v : AV} {n : Nat} {Good : List AV → Prop} (h : SlG P w v 1 n Good) : ∃ xs : List AV, xs.length = n ∧ v.at? = none ∧ (∀ K : AHeap, Sl (argC P w) K v xs) ∧ ∀ x ∈ xs, Good [x] := by
  rcases h with ⟨hv, rfl⟩ | ⟨path, cs, rfl, hG, hl, hg⟩
  · refine ⟨[], rfl, ?_, fun K => .inl ⟨hv, rfl⟩, by simp⟩
    rcases hv with rfl | ⟨a, rfl⟩ <;> rfl
  · refine ⟨cs.take n, by simp; omega, rfl, fun K => .inr ⟨.ext path, 0, by simp; omega, fun _ => ⟨cs, hG, by simp⟩⟩, fun x hx => ?_⟩
    obtain ⟨i, hi, rfl⟩ := List.getElem_of_mem hx
    have hin : i < n := by simp at hi; omega
    have := hg i hin
    have e : (cs.drop i).take 1 = [cs[i]] := by rw [List.drop_eq_getElem_cons (by omega)]; rfl
    rw [Nat.mul_one, e] at this
    simpa using this
theorem SlG.ints {v : AV} {n : Nat} {k : IntKind} {ok : Int → Prop} (h : SlG P w v 1 n (fun vs => ∃ n, vs = [AV.int k n] ∧ ok n)) : ∃ zs : List Int, zs.length = n ∧ v.at? = none ∧ (∀ K : AHeap, Sl (argC P w) K v (zs.map (AV.int k))) ∧ ∀ z ∈ zs, ok z := by
  obtain ⟨xs, h1, h2, h3, h4⟩ := h.sl
  have : ∃ zs : List Int, xs = zs.map (AV.int k) ∧ ∀ z ∈ zs, ok z := by
    clear h1 h3
    induction xs with
    | nil => exact ⟨[], rfl, by simp⟩
    | cons x r ih =>
      obtain ⟨zs, rfl, hz⟩ := ih (fun y hy => h4 y (by simp [hy]))
      obtain ⟨n, hn, hok⟩ := h4 x (by simp)
      simp at hn
      exact ⟨n :: zs, by simp [hn], by intro z hz'; rcases List.mem_cons.1 hz' with rfl | e; exact hok; exact hz z e⟩
  obtain ⟨zs, rfl, hz⟩ := this
  exact ⟨zs, by simpa using h1, h2, h3, hz⟩

/-- an argument of one cell -/
theorem argA {t : TypeId} {Good : List AV → Prop} (ho : OpA enc P w base spare held t Good) (h1 : ctys P 8 t = [t]) {v : Value} {dd : DataW H} {ps : List MemPlace} (h : DataW.Trod enc P w base spare held t v dd ps) (hc : v.cells = #[v]) : ∃ u, VR plA u v ∧ Good [u] := by
  obtain ⟨fuel, hf⟩ := h
  obtain ⟨vs, g1, g2, g3, g4⟩ := ho _ _ _ hf
  rw [h1] at g1
  match vs, g1 with
  | [u], _ =>
    obtain ⟨y, hy, hcy, _⟩ := g4 0 (by simp)
    rw [hc] at hy
    simp at hy
    subst hy
    exact ⟨u, cellAV_VR hcy, g3⟩
end
end Go.AM

/-
  WHAT CAME IN, MORE (own work): structs of fields of any kinds, and slices of them.
-/
namespace Go.AM
open Go.RowKit Go.ChangeShapes Go.WideShapes Go.Deep
set_option linter.unusedVariables false
set_option linter.unusedSimpArgs false
section
variable {H : Type} {enc : TypeId × Value → H} {P : Program} {w : World} {base : Nat} {spare : Nat → Bool} {held : Bool}
/-- cells told field by field -/
def GoodL : List (List AV → Prop) → List AV → Prop
  | [], vs => vs = []
  | G :: Gs, vs => ∃ a b, vs = a ++ b ∧ G a ∧ GoodL Gs b
theorem GoodL.snoc {G : List AV → Prop} {a : List AV} (ha : G a) : ∀ {Gs : List (List AV → Prop)} {vs : List AV}, GoodL Gs vs → GoodL (Gs ++ [G]) (vs ++ a)
  | [], vs, h => by simp only [GoodL] at h; subst h; exact ⟨a, [], by simp, ha, rfl⟩
  | G' :: Gs, vs, h => by
    obtain ⟨x, y, rfl, hx, hy⟩ := h
    exact ⟨x, y ++ a, by simp, hx, GoodL.snoc ha hy⟩
theorem opA_struct {t : TypeId} {fs : List Field} {fa : Array Field} (ht : P.underlying t = some (.struct fa)) (hfa : fa.toList = fs) (hct : ctys P 8 t = fs.flatMap fun f => ctys P 8 f.type)
    (hc : P.cellsOf t = (ctys P 8 t).length) (Gs : List (List AV → Prop)) (hl : Gs.length = fs.length)
    (ho : ∀ i f G, fs[i]? = some f → Gs[i]? = some G → f.offset = ((fs.take i).flatMap fun f => ctys P 8 f.type).length ∧ P.cellsOf f.type = (ctys P 8 f.type).length ∧ OpA enc P w base spare held f.type G) :
    OpA enc P w base spare held t (GoodL Gs) := by
  intro fuel cs x h
  obtain ⟨l⟩ := fa
  have hfa' : fs = l := hfa.symm
  subst hfa'
  obtain ⟨xs, m, _, hx, hlen, hn, hel⟩ := DataW.trod_struct ht h
  have key : ∀ k, k ≤ fs.length → ∃ vs : List AV, vs.length = ((fs.take k).flatMap fun f => ctys P 8 f.type).length ∧ GoodL (Gs.take k) vs ∧
      ∀ j (h : j < vs.length), ∃ y, cs[j]? = some y ∧ cellAV P (((fs.take k).flatMap fun f => ctys P 8 f.type).getD j 0) y = some vs[j] ∧ vs[j].one = true := by
    intro k
    induction k with
    | zero => intro _; exact ⟨[], by simp, by simp [GoodL], fun j hj => by simp at hj⟩
    | succ k ih =>
      intro hk
      obtain ⟨vs, v1, v2, v3⟩ := ih (by omega)
      have hfk : fs[k]? = some fs[k] := List.getElem?_eq_getElem (by omega)
      have hGk : Gs[k]? = some Gs[k] := List.getElem?_eq_getElem (by omega)
      obtain ⟨o1, o2, o3⟩ := ho k _ _ hfk hGk
      have hxk : k < xs.length := by have : xs.length = fs.length := by simpa using hn
                                     omega
      have hg := hel k fs[k] (by simp)
      rw [List.getElem?_eq_getElem hxk] at hg
      obtain ⟨us, u1, u2, u3, u4⟩ := o3 _ _ _ (by first | exact hg | simpa using hg)
      rw [List.take_succ_eq_append_getElem (show k < fs.length by omega), List.take_succ_eq_append_getElem (show k < Gs.length by omega), List.flatMap_append]
      have e1 : List.flatMap (fun f : Field => ctys P 8 f.type) [fs[k]] = ctys P 8 fs[k].type := by simp
      rw [e1]
      refine ⟨vs ++ us, by simp [v1, u1], GoodL.snoc u3 v2, fun j hj => ?_⟩
      by_cases hjv : j < vs.length
      · obtain ⟨y, y1, y2, y3⟩ := v3 j hjv
        rw [List.getElem_append_left hjv]
        refine ⟨y, y1, ?_, y3⟩
        rw [List.getD_eq_getElem?_getD, List.getElem?_append_left (by omega), ← List.getD_eq_getElem?_getD]
        exact y2
      · have hju : j - vs.length < us.length := by simp at hj; omega
        obtain ⟨y, y1, y2, y3⟩ := u4 (j - vs.length) hju
        rw [List.getElem_append_right (by omega)]
        refine ⟨y, ?_, ?_, y3⟩
        · rw [List.getElem?_take, if_pos (by rw [u1] at hju; omega), List.getElem?_drop, o1, ← v1] at y1
          rw [← y1]; congr 1; omega
        · rw [List.getD_eq_getElem?_getD, List.getElem?_append_right (by omega), ← v1, ← List.getD_eq_getElem?_getD]
          exact y2
  obtain ⟨vs, v1, v2, v3⟩ := key fs.length (Nat.le_refl _)
  rw [List.take_length, ← hct] at v1
  rw [← hl, List.take_length] at v2
  refine ⟨vs, v1, by rw [← hc]; exact hlen, v2, fun j hj => ?_⟩
  obtain ⟨y, y1, y2, y3⟩ := v3 j hj
  rw [List.take_length, ← hct] at y2
  exact ⟨y, y1, y2, y3⟩
/-- what its fields read as -/
def OpAs (enc : TypeId × Value → H) (P : Program) (w : World) (base : Nat) (spare : Nat → Bool) (held : Bool) : List Field → List TypeId → List (List AV → Prop) → Prop
  | [], _, [] => True
  | f :: fs, done, G :: Gs => (f.offset = done.length ∧ P.cellsOf f.type = (ctys P 8 f.type).length) ∧ OpA enc P w base spare held f.type G ∧ OpAs enc P w base spare held fs (done ++ ctys P 8 f.type) Gs
  | _, _, _ => False
theorem OpAs.nil {done : List TypeId} : OpAs enc P w base spare held [] done [] := trivial
theorem OpAs.cons {f : Field} {fs : List Field} {done : List TypeId} {G : List AV → Prop} {Gs : List (List AV → Prop)} (h1 : f.offset = done.length) (h2 : P.cellsOf f.type = (ctys P 8 f.type).length) (h3 : OpA enc P w base spare held f.type G)
    (h4 : OpAs enc P w base spare held fs (done ++ ctys P 8 f.type) Gs) : OpAs enc P w base spare held (f :: fs) done (G :: Gs) := ⟨⟨h1, h2⟩, h3, h4⟩
theorem OpAs.at : ∀ {fs : List Field} {done : List TypeId} {Gs : List (List AV → Prop)}, OpAs enc P w base spare held fs done Gs → Gs.length = fs.length ∧ ∀ i f G, fs[i]? = some f → Gs[i]? = some G → f.offset = (done ++ (fs.take i).flatMap fun f => ctys P 8 f.type).length ∧ P.cellsOf f.type = (ctys P 8 f.type).length ∧ OpA enc P w base spare held f.type G
  | [], _, [], _ => ⟨rfl, fun i f G h => by simp at h⟩
  | f :: fs, done, G :: Gs, h => by
    obtain ⟨⟨h1, h2⟩, h3, h4⟩ := h
    obtain ⟨k1, k2⟩ := OpAs.at h4
    refine ⟨by simp [k1], fun i f' G' hf hG => ?_⟩
    cases i with
    | zero =>
      simp only [List.getElem?_cons_zero, Option.some.injEq] at hf hG
      subst hf hG
      exact ⟨by simp [h1], h2, h3⟩
    | succ i =>
      simp only [List.getElem?_cons_succ] at hf hG
      obtain ⟨a, b⟩ := k2 i f' G' hf hG
      exact ⟨by rw [a]; simp [List.take_succ_cons], b⟩
theorem opA_fields {t : TypeId} {fa : Array Field} (ht : P.underlying t = some (.struct fa)) {cts : List TypeId} (hcts : ctys P 8 t = cts) (hct : (fa.toList.flatMap fun f => ctys P 8 f.type) = cts)
    (hc : P.cellsOf t = cts.length) {Gs : List (List AV → Prop)} (ho : OpAs enc P w base spare held fa.toList [] Gs) : OpA enc P w base spare held t (GoodL Gs) := by
  obtain ⟨h1, h2⟩ := ho.at
  exact opA_struct ht rfl (hcts.trans hct.symm) (by rw [hc, hcts]) Gs h1 (fun i f G hf hG => by simpa using h2 i f G hf hG)
end
end Go.AM
